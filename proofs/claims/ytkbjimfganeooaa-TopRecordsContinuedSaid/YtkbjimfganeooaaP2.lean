/-
  Plain laws of records: a list of records, joined and read.
-/
import Derived.Test.YtkbjimfganeooaaP1
set_option linter.unusedSimpArgs false
set_option linter.unusedVariables false
namespace Go.Proofs.Ytkbjimfganeooaa
open Go Go.Ab

theorem b8_b2i (t : List UInt8) : (b2i t).map b8 = t := by
  induction t with
  | nil => rfl
  | cons c t ih =>
    have h : b2i (c :: t) = (c.toNat : Int) :: b2i t := rfl
    have h2 : b8 (c.toNat : Int) = c := by
      unfold b8
      rw [show ((c.toNat : Int)).toNat = c.toNat by omega]
      exact UInt8.ofNat_toNat
    rw [h, List.map_cons, ih, h2]

theorem b2i_app (s t : List UInt8) : b2i (s ++ t) = b2i s ++ b2i t := by unfold b2i; rw [List.map_append]
theorem b2i_len (s : List UInt8) : (b2i s).length = s.length := by unfold b2i; rw [List.length_map]

theorem join_ok {l : List RecordEntry} (h : ∀ x ∈ l, Rt x) (hl : l.length ≤ 40) : f8 l = some (Jn l, 0) := by
  have hrun := run_count (L := f8_L1 l) (e := Sum.inl (b2i (Jn l))) (fun k => ((k : Int), b2i (Jn (l.take k)))) l.length (by
    simp only [f8_L1]
    rw [if_neg (by simp), List.take_length]) 0 (Nat.zero_le _) (fun k _ hk => by
    have hx := List.getElem?_eq_getElem hk
    have hm : l[k] ∈ l := List.getElem_mem hk
    have ht : Jn (l.take (k + 1)) = Jn (l.take k) ++ Pk l[k] := by rw [List.take_succ_eq_append_getElem hk, Jn_snoc]
    have hlen := Jn_len (l := l.take (k + 1)) (fun x hx => h x (List.mem_of_mem_take hx))
    have h4 : (l.take (k + 1)).length ≤ 40 := by rw [List.length_take]; omega
    rw [ht, List.length_append] at hlen
    have hw : IntKind.i64.wrap ((k : Int) + 1) = ((k + 1 : Nat) : Int) := by rw [w64 (by omega) (by omega)]; omega
    simp only [f8_L1]
    rw [if_pos (by simp; omega), at_nat hx]
    simp only [Option.bind_some, pack_ok (h _ hm)]
    rw [if_neg (by simp), app_some (by rw [b2i_len, b2i_len]; omega) (by rw [b2i_len, b2i_len]; omega)]
    simp only [Option.bind_some, hw, ht, b2i_app])
  have h0 : (((0 : Nat) : Int), b2i (Jn (l.take 0))) = ((0 : Int), ([] : List Int)) := by simp [Jn, b2i]
  rw [h0] at hrun
  unfold f8
  rw [hrun]
  simp only [Option.bind_some, b8_b2i]

theorem all_eq {l : List RecordEntry} {t : List UInt8} {e : Int} (h : ∀ x ∈ l, Rt x) (hl : l.length ≤ 40) (ht : t.length ≤ 20000)
    (he : (t = [] ∧ e = 0) ∨ (t ≠ [] ∧ e ≠ 0 ∧ ∃ y q, f18 (Jn l ++ t) (Jn l).length = some (y, q, e))) : f9 (Jn l ++ t) = some (l, ((Jn l).length : Int), e) := by
  have hJl := Jn_len h
  have hst : ∀ (k : Nat), k < l.length → (f9_L1 (Jn l ++ t)).body (((Jn (l.take k)).length : Int), l.take k) = some (.next (((Jn (l.take (k + 1))).length : Int), l.take (k + 1))) := by
    intro k hk
    have hm : l[k] ∈ l := List.getElem_mem hk
    have e1 : Jn l = Jn (l.take k) ++ (Pk l[k] ++ Jn (l.drop (k + 1))) := by
      have : Jn l = Jn (l.take k ++ l.drop k) := by rw [List.take_append_drop]
      rw [this, Jn_app, List.drop_eq_getElem_cons hk, Jn]
    have e2 : Jn l ++ t = Jn (l.take k) ++ (Pk l[k] ++ (Jn (l.drop (k + 1)) ++ t)) := by rw [e1]; simp only [List.append_assoc]
    have hn := next_ok (pre := Jn (l.take k)) (post := Jn (l.drop (k + 1)) ++ t) (h _ hm) (by rw [← e2, List.length_append]; omega)
    rw [← e2] at hn
    have hpl := Pk_len l[k]
    have hll : (Jn (l.take k)).length < (Jn l ++ t).length := by rw [e2]; simp only [List.length_append]; omega
    simp only [f9_L1]
    rw [if_pos (decide_eq_true (by omega)), hn]
    simp only [Option.bind_some]
    rw [if_neg (by simp), app_some (by simp only [List.length_take, List.length_cons, List.length_nil]; omega) (by simp only [List.length_take, List.length_cons, List.length_nil]; omega)]
    simp only [Option.bind_some, List.take_succ_eq_append_getElem hk, Jn_snoc]
  have h0 : (((Jn (l.take 0)).length : Int), l.take 0) = ((0 : Int), ([] : List RecordEntry)) := by simp [Jn]
  rcases he with ⟨rfl, rfl⟩ | ⟨h1, h2, y, q, h3⟩
  · have hrun := run_count (L := f9_L1 (Jn l ++ [])) (e := Sum.inl (((Jn l).length : Int), l)) (fun k => (((Jn (l.take k)).length : Int), l.take k)) l.length (by
      simp only [f9_L1]
      rw [if_neg (by simp), List.take_length]) 0 (Nat.zero_le _) (fun k _ hk => hst k hk)
    rw [h0] at hrun
    unfold f9
    rw [hrun]
    simp only [Option.bind_some]
  · have htl : 0 < t.length := List.length_pos_iff.2 h1
    have hrun := run_count (L := f9_L1 (Jn l ++ t)) (e := Sum.inr (((Jn l).length : Int), e, l)) (fun k => (((Jn (l.take k)).length : Int), l.take k)) l.length (by
      simp only [f9_L1]
      rw [List.take_length, if_pos (by simp; omega), h3]
      simp only [Option.bind_some]
      rw [if_pos (by simpa using h2)]) 0 (Nat.zero_le _) (fun k _ hk => hst k hk)
    rw [h0] at hrun
    unfold f9
    rw [hrun]
    simp only [Option.bind_some]

theorem same_ok {a : List RecordEntry} (h : a.length ≤ 1000) : f10 a a = some true := by
  have hrun := run_count (L := f10_L1 a a) (e := Sum.inl ()) (fun k => (k : Int)) a.length (by
    simp only [f10_L1]
    rw [if_neg (by simp)]) 0 (Nat.zero_le _) (fun k _ hk => by
    have hx := List.getElem?_eq_getElem hk
    have hw : IntKind.i64.wrap ((k : Int) + 1) = ((k + 1 : Nat) : Int) := by rw [w64 (by omega) (by omega)]; omega
    simp only [f10_L1]
    rw [if_pos (by simp; omega), at_nat hx]
    simp only [Option.bind_some]
    rw [if_neg (by simp), hw])
  unfold f10
  rw [if_neg (by simp)]
  have h0 : ((0 : Nat) : Int) = 0 := rfl
  rw [h0] at hrun
  rw [hrun]
  rfl

/-! ## The bounds of the statements -/

def badE (x : RecordEntry) : Bool := decide (x.fKind < 0) || decide (255 < x.fKind) || decide (300 < (x.fData.length : Int))
theorem f21_eq (x : RecordEntry) : f21 x = some (badE x) := by
  unfold f21 badE
  by_cases h1 : x.fKind < 0
  · simp [h1]
  · by_cases h2 : 255 < x.fKind <;> simp [h1, h2]
theorem not_bad {x : RecordEntry} (h : badE x = false) : Rt x := by
  unfold badE at h
  simp only [Bool.or_eq_false_iff, decide_eq_false_iff_not] at h
  unfold Rt
  omega

theorem play_ok (l : List RecordEntry) : ∃ b, f6 l = some b ∧ (b = true → l.length ≤ 20 ∧ ∀ x ∈ l, Rt x) := by
  unfold f6
  by_cases h : (l.length : Int) ≤ 20
  case neg => exact ⟨false, by rw [if_neg (by simpa using h)], by simp⟩
  rw [if_pos (by simpa using h)]
  have hr := run_findi (L := f34_21_L1 l) (xs := l) badE (by omega) (fun k x hx => by
    simp only [f34_21_L1]
    rw [if_pos hx.lt, hx.at']
    simp only [Option.bind_some, f21_eq, hx.nxt]
    cases badE x <;> rfl) (by
    simp only [f34_21_L1]
    rw [if_neg (by simp)])
  have h34 : f34_21 l = some (fstI badE l) := by unfold f34_21; exact hr
  unfold f20_21
  rw [h34]
  simp only [Option.bind_some]
  cases hf : l.findIdx? badE with
  | none =>
    rw [List.findIdx?_eq_none_iff] at hf
    exact ⟨_, rfl, fun _ => ⟨by omega, fun x hx => not_bad (by simpa using hf x hx)⟩⟩
  | some i =>
    refine ⟨_, rfl, fun hb => ?_⟩
    unfold fstI at hb
    rw [hf] at hb
    simp at hb

/-! ## The fixed example -/

def goS : List UInt8 := [103, 111, 32, 50]
def goL : List ApiToken := [ApiToken.mk 0 [103, 111] 0]
def goM : List ApiToken := [ApiToken.mk 0 [103, 111] 0, ApiToken.mk 1 [50] 3]
def goN : List ApiToken := [ApiToken.mk 0 [103, 111] 0, ApiToken.mk 1 [50] 3, ApiToken.mk 3 [] 4]

theorem c3a : (f14_C3 goS [] 0).run = some 0 := by
  have : (f14_L4 goS []).run 0 = some 0 := iter_brk (by kernel_rfl)
  simp only [f14_C3, this, Option.bind_some]
theorem c6a : (f14_C6 goS [] 0).run = some 2 := by
  have : (f14_L7 goS [] 0).run 0 = some 2 := (iter_next (s' := 1) (by kernel_rfl)).trans ((iter_next (s' := 2) (by kernel_rfl)).trans (iter_brk (by kernel_rfl)))
  simp only [f14_C6, this, Option.bind_some]
theorem c8a : (f14_C8 goS 0 2 []).run = some [103, 111] := by kernel_rfl
theorem lowa : f41 [103, 111] = some [103, 111] := by
  have : (f41_L1 [103, 111]).run (0, b2i [103, 111]) = some (b2i [103, 111]) := (iter_next (s' := (1, b2i [103, 111])) (by kernel_rfl)).trans ((iter_next (s' := (2, b2i [103, 111])) (by kernel_rfl)).trans (iter_brk (by kernel_rfl)))
  have hr : room? ([103, 111] : List UInt8).length = some () := by kernel_rfl
  unfold f41
  rw [hr, Option.bind_some, this, Option.bind_some, b8_b2i]
theorem c2a : (f14_C2 goS [] 0).run = some (true, 2, 0, [103, 111], 0) := by
  have h1 : f38_39p goS 0 0 = some true := by kernel_rfl
  simp only [f14_C2, c3a, Option.bind_some]
  rw [if_neg (by decide), h1]
  simp only [Option.bind_some, if_true, c6a, c8a, lowa]

theorem c3b : (f14_C3 goS goL 2).run = some 3 := by
  have : (f14_L4 goS goL).run 2 = some 3 := (iter_next (s' := 3) (by kernel_rfl)).trans (iter_brk (by kernel_rfl))
  simp only [f14_C3, this, Option.bind_some]
theorem c12b : (f14_C12 goS goL 3).run = some 4 := by
  have : (f14_L13 goS goL 3).run 3 = some 4 := (iter_next (s' := 4) (by kernel_rfl)).trans (iter_brk (by kernel_rfl))
  simp only [f14_C12, this, Option.bind_some]
theorem c18b : (f14_C18 goS 3 4 goL).run = some [50] := by kernel_rfl
theorem c2b : (f14_C2 goS goL 2).run = some (true, 4, 1, [50], 3) := by
  have h1 : f38_39p goS 3 0 = some false := by kernel_rfl
  have h2 : at? goS 3 = some 50 := by kernel_rfl
  have h3 : f38_44p goS 3 0 = some true := by kernel_rfl
  have h4 : f38_45p goS 4 0 = some false := by kernel_rfl
  simp only [f14_C2, c3b, Option.bind_some]
  rw [if_neg (by decide), h1]
  simp only [Option.bind_some, Bool.false_eq_true, if_false, h2]
  rw [if_neg (by decide), h3]
  simp only [Option.bind_some, if_true, c12b, h4, Bool.false_eq_true, if_false, c18b]

theorem c3c : (f14_C3 goS goM 4).run = some 4 := by
  have : (f14_L4 goS goM).run 4 = some 4 := iter_brk (by kernel_rfl)
  simp only [f14_C3, this, Option.bind_some]
theorem c5c : (f14_C5 goS 4 goM).run = some [] := by kernel_rfl
theorem c2c : (f14_C2 goS goM 4).run = some (true, 4, 3, [], 4) := by
  simp only [f14_C2, c3c, Option.bind_some]
  rw [if_pos (by decide)]
  simp only [Option.bind_some, c5c]

theorem scan_go : f14 goS = some (goN, 0, 0) := by
  have b1 : (f14_L1 goS).body (0, []) = some (.next (2, goL)) := by
    simp only [f14_L1, c2a, Option.bind_some]
    rw [if_neg (by decide), if_neg (by decide), app_some (by decide) (by decide)]
    simp only [Option.bind_some]
    rw [if_neg (by decide)]
    rfl
  have b2 : (f14_L1 goS).body (2, goL) = some (.next (4, goM)) := by
    simp only [f14_L1, c2b, Option.bind_some]
    rw [if_neg (by decide), if_neg (by decide), app_some (by decide) (by decide)]
    simp only [Option.bind_some]
    rw [if_neg (by decide)]
    rfl
  have b3 : (f14_L1 goS).body (4, goM) = some (.brk (Sum.inr goN)) := by
    simp only [f14_L1, c2c, Option.bind_some]
    rw [if_neg (by decide), if_neg (by decide), app_some (by decide) (by decide)]
    simp only [Option.bind_some]
    rw [if_pos (by decide)]
    rfl
  have hr : (f14_L1 goS).run (0, []) = some (Sum.inr goN) := (iter_next b1).trans ((iter_next b2).trans (iter_brk b3))
  unfold f14
  rw [if_neg (by decide), hr]
  simp only [Option.bind_some]

theorem f7_eq : f7 = some true := by
  have hx : Rt (RecordEntry.mk 3 goS) := ⟨by decide, by decide⟩
  have h1 := pack_ok hx
  have h2 := next_ok (pre := []) (post := []) hx (by rw [List.nil_append, List.append_nil, Pk_len]; decide)
  rw [List.nil_append, List.append_nil] at h2
  have h2' : f18 (Pk (RecordEntry.mk 3 goS)) 0 = some (RecordEntry.mk 3 goS, (((Pk (RecordEntry.mk 3 goS)).length : Nat) : Int), 0) := h2
  have hl := Pk_len (RecordEntry.mk 3 goS)
  have h1' : f17 (RecordEntry.mk 3 ([103, 111, 32, 50])) = some (Pk (RecordEntry.mk 3 goS), 0) := h1
  unfold f7
  rw [h1']
  simp only [Option.bind_some]
  rw [h2']
  simp only [Option.bind_some, scan_go]
  rw [if_pos (by decide), if_pos (by decide), if_pos (by decide), show at? goN 0 = some (ApiToken.mk 0 [103, 111] 0) from rfl]
  simp only [Option.bind_some]
  rw [if_pos (by decide), show at? goN 1 = some (ApiToken.mk 1 [50] 3) from rfl]
  simp only [Option.bind_some]
  rw [if_pos (by decide), hl]
  rfl
end Go.Proofs.Ytkbjimfganeooaa
