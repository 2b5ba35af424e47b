/-
  Plain laws of records: a list of records, joined and read.
-/
import Derived.Test.YtkbjimfganeooaaPJ1
set_option linter.unusedSimpArgs false
set_option linter.unusedVariables false
namespace Go.Proofs.Ytkbjimfganeooaa
open Go Go.Ab

theorem b8_b2i (t : List UInt8) : (b2i t).map b8 = t := by
  induction t with
  | nil => rfl
  | cons c t ih =>
    have h : b2i (c :: t) = (c.toNat : Int) :: b2i t := rfl
    have h2 : b8 (c.toNat : Int) = c := by
      unfold b8
      rw [show ((c.toNat : Int)).toNat = c.toNat by omega]
      exact UInt8.ofNat_toNat
    rw [h, List.map_cons, ih, h2]

theorem b2i_app (s t : List UInt8) : b2i (s ++ t) = b2i s ++ b2i t := by unfold b2i; rw [List.map_append]
theorem b2i_len (s : List UInt8) : (b2i s).length = s.length := by unfold b2i; rw [List.length_map]

/-! ## The fixed example -/

def goS : List UInt8 := [103, 111, 32, 50]
def goL : List ApiToken := [ApiToken.mk 0 [103, 111] 0]
def goM : List ApiToken := [ApiToken.mk 0 [103, 111] 0, ApiToken.mk 1 [50] 3]
def goN : List ApiToken := [ApiToken.mk 0 [103, 111] 0, ApiToken.mk 1 [50] 3, ApiToken.mk 3 [] 4]

theorem c3a : (f14_C3 goS [] 0).run = some 0 := by
  have : (f14_L4 goS []).run 0 = some 0 := iter_brk (by kernel_rfl)
  simp only [f14_C3, this, Option.bind_some]
theorem c6a : (f14_C6 goS [] 0).run = some 2 := by
  have : (f14_L7 goS [] 0).run 0 = some 2 := (iter_next (s' := 1) (by kernel_rfl)).trans ((iter_next (s' := 2) (by kernel_rfl)).trans (iter_brk (by kernel_rfl)))
  simp only [f14_C6, this, Option.bind_some]
theorem c8a : (f14_C8 goS 0 2 []).run = some [103, 111] := by kernel_rfl
theorem lowa : f41 [103, 111] = some [103, 111] := by
  have : (f41_L1 [103, 111]).run (0, b2i [103, 111]) = some (b2i [103, 111]) := (iter_next (s' := (1, b2i [103, 111])) (by kernel_rfl)).trans ((iter_next (s' := (2, b2i [103, 111])) (by kernel_rfl)).trans (iter_brk (by kernel_rfl)))
  have hr : room? ([103, 111] : List UInt8).length = some () := by kernel_rfl
  unfold f41
  rw [hr, Option.bind_some, this, Option.bind_some, b8_b2i]
theorem c2a : (f14_C2 goS [] 0).run = some (true, 2, 0, [103, 111], 0) := by
  have h1 : f38_39p goS 0 0 = some true := by kernel_rfl
  simp only [f14_C2, c3a, Option.bind_some]
  rw [if_neg (by decide), h1]
  simp only [Option.bind_some, if_true, c6a, c8a, lowa]

theorem c3b : (f14_C3 goS goL 2).run = some 3 := by
  have : (f14_L4 goS goL).run 2 = some 3 := (iter_next (s' := 3) (by kernel_rfl)).trans (iter_brk (by kernel_rfl))
  simp only [f14_C3, this, Option.bind_some]
theorem c12b : (f14_C12 goS goL 3).run = some 4 := by
  have : (f14_L13 goS goL 3).run 3 = some 4 := (iter_next (s' := 4) (by kernel_rfl)).trans (iter_brk (by kernel_rfl))
  simp only [f14_C12, this, Option.bind_some]
theorem c18b : (f14_C18 goS 3 4 goL).run = some [50] := by kernel_rfl
theorem c2b : (f14_C2 goS goL 2).run = some (true, 4, 1, [50], 3) := by
  have h1 : f38_39p goS 3 0 = some false := by kernel_rfl
  have h2 : at? goS 3 = some 50 := by kernel_rfl
  have h3 : f38_44p goS 3 0 = some true := by kernel_rfl
  have h4 : f38_45p goS 4 0 = some false := by kernel_rfl
  simp only [f14_C2, c3b, Option.bind_some]
  rw [if_neg (by decide), h1]
  simp only [Option.bind_some, Bool.false_eq_true, if_false, h2]
  rw [if_neg (by decide), h3]
  simp only [Option.bind_some, if_true, c12b, h4, Bool.false_eq_true, if_false, c18b]

theorem c3c : (f14_C3 goS goM 4).run = some 4 := by
  have : (f14_L4 goS goM).run 4 = some 4 := iter_brk (by kernel_rfl)
  simp only [f14_C3, this, Option.bind_some]
theorem c5c : (f14_C5 goS 4 goM).run = some [] := by kernel_rfl
theorem c2c : (f14_C2 goS goM 4).run = some (true, 4, 3, [], 4) := by
  simp only [f14_C2, c3c, Option.bind_some]
  rw [if_pos (by decide)]
  simp only [Option.bind_some, c5c]

theorem scan_go : f14 goS = some (goN, 0, 0) := by
  have b1 : (f14_L1 goS).body (0, []) = some (.next (2, goL)) := by
    simp only [f14_L1, c2a, Option.bind_some]
    rw [if_neg (by decide), if_neg (by decide), app_some (by decide) (by decide)]
    simp only [Option.bind_some]
    rw [if_neg (by decide)]
    rfl
  have b2 : (f14_L1 goS).body (2, goL) = some (.next (4, goM)) := by
    simp only [f14_L1, c2b, Option.bind_some]
    rw [if_neg (by decide), if_neg (by decide), app_some (by decide) (by decide)]
    simp only [Option.bind_some]
    rw [if_neg (by decide)]
    rfl
  have b3 : (f14_L1 goS).body (4, goM) = some (.brk (Sum.inr goN)) := by
    simp only [f14_L1, c2c, Option.bind_some]
    rw [if_neg (by decide), if_neg (by decide), app_some (by decide) (by decide)]
    simp only [Option.bind_some]
    rw [if_pos (by decide)]
    rfl
  have hr : (f14_L1 goS).run (0, []) = some (Sum.inr goN) := (iter_next b1).trans ((iter_next b2).trans (iter_brk b3))
  unfold f14
  rw [if_neg (by decide), hr]
  simp only [Option.bind_some]

theorem f7_eq : f7 = some true := by
  have hx : Rt (RecordEntry.mk 3 goS) := ⟨by decide, by decide⟩
  have h1 := pack_ok hx
  have h2 := next_ok (pre := []) (post := []) hx (by rw [List.nil_append, List.append_nil, Pk_len]; decide)
  rw [List.nil_append, List.append_nil] at h2
  have h2' : f18 (Pk (RecordEntry.mk 3 goS)) 0 = some (RecordEntry.mk 3 goS, (((Pk (RecordEntry.mk 3 goS)).length : Nat) : Int), 0) := h2
  have hl := Pk_len (RecordEntry.mk 3 goS)
  have h1' : f17 (RecordEntry.mk 3 ([103, 111, 32, 50])) = some (Pk (RecordEntry.mk 3 goS), 0) := h1
  unfold f7
  rw [h1']
  simp only [Option.bind_some]
  rw [h2']
  simp only [Option.bind_some, scan_go]
  rw [if_pos (by decide), if_pos (by decide), if_pos (by decide), show at? goN 0 = some (ApiToken.mk 0 [103, 111] 0) from rfl]
  simp only [Option.bind_some]
  rw [if_pos (by decide), show at? goN 1 = some (ApiToken.mk 1 [50] 3) from rfl]
  simp only [Option.bind_some]
  rw [if_pos (by decide), hl]
  rfl
end Go.Proofs.Ytkbjimfganeooaa
