/-
  Plain laws of the sender of layer 56, fifth part: the examples.
-/
import Derived.Test.YtlidbikdeboihaaP3
set_option linter.unusedSimpArgs false
set_option linter.unusedVariables false
namespace Go.Proofs.Ytlidbikdeboihaa
open Go Go.Ab

def stA (seq last times : Int) : NetworkSender := ⟨7, 100, 0, 0, [⟨2, seq, last, times, (plainS 2 9).fSlots⟩]⟩
def pkA (seq : Int) : NetworkPacket := ⟨7, 2, 100, seq, 0, false, (plainS 2 9).fSlots⟩

theorem sendA0 : sendS ⟨7, 100, 0, 0, []⟩ 0 [plainS 2 9] = (stA 0 0 1, [pkA 0], 0) := by kernel_rfl
theorem sendA1 : sendS (stA 0 0 1) 25 [plainS 2 9] = (stA 1 25 2, [pkA 1], 0) := by kernel_rfl
theorem sendA2 : sendS (stA 1 25 2) 50 [plainS 2 9] = (stA 2 50 3, [pkA 2], 0) := by kernel_rfl
theorem sendA3 : sendS (stA 2 50 3) 75 [plainS 2 9] = (stA 2 50 3, [], 0) := by kernel_rfl
theorem sendA4 : sendS (stA 2 50 3) 1050 [plainS 2 9] = (stA 3 1050 3, [pkA 3], 0) := by kernel_rfl

theorem f14_eq : f14 = some true := by
  unfold f14
  have hn : newS 7 100 0 = (⟨7, 100, 0, 0, []⟩, 0) := by kernel_rfl
  have h1 : newerS 255 5 = true := by decide +kernel
  have h2 : newerS 5 250 = false := by decide +kernel
  have h3 : newerS 40 0 = true := by decide +kernel
  simp only [f17_eq, f12_eq, hn, h1, h2, h3, Option.bind_some]
  have hrun := run_count (L := f14_L1) (e := Sum.inl ()) (fun k => match k with
    | 0 => ((0 : Int), (7 : Int), (100 : Int), (0 : Int), (0 : Int), ([] : List NetworkStream))
    | 1 => (1, 7, 100, 0, 0, (stA 0 0 1).fStreams)
    | 2 => (2, 7, 100, 0, 0, (stA 1 25 2).fStreams)
    | 3 => (3, 7, 100, 0, 0, (stA 2 50 3).fStreams)
    | 4 => (4, 7, 100, 0, 0, (stA 2 50 3).fStreams)
    | _ => (5, 7, 100, 0, 0, (stA 3 1050 3).fStreams)) 5 (by simp [f14_L1]) 0 (Nat.zero_le _) (fun k _ hk => by
      have at1 : ∀ p : NetworkPacket, at? [p] 0 = some p := fun p => rfl
      have e0 := f23_eq ⟨7, 100, 0, 0, []⟩ 0 [plainS 2 9]
      have e1 := f23_eq (stA 0 0 1) 25 [plainS 2 9]
      have e2 := f23_eq (stA 1 25 2) 50 [plainS 2 9]
      have e3 := f23_eq (stA 2 50 3) 75 [plainS 2 9]
      have e4 := f23_eq (stA 2 50 3) 1050 [plainS 2 9]
      rw [sendA0] at e0
      rw [sendA1] at e1
      rw [sendA2] at e2
      rw [sendA3] at e3
      rw [sendA4] at e4
      have w1 : IntKind.i64.wrap 1 = 1 := rfl
      have w2 : IntKind.i64.wrap 2 = 2 := rfl
      have w3 : IntKind.i64.wrap 3 = 3 := rfl
      have w4 : IntKind.i64.wrap 4 = 4 := rfl
      have w5 : IntKind.i64.wrap 5 = 5 := rfl
      have a0 : at? [(0 : Int), 25, 50, 75, 1050] 0 = some 0 := rfl
      have a1 : at? [(0 : Int), 25, 50, 75, 1050] 1 = some 25 := rfl
      have a2 : at? [(0 : Int), 25, 50, 75, 1050] 2 = some 50 := rfl
      have a3 : at? [(0 : Int), 25, 50, 75, 1050] 3 = some 75 := rfl
      have a4 : at? [(0 : Int), 25, 50, 75, 1050] 4 = some 1050 := rfl
      match k, hk with
      | 0, _ => simp only [f14_L1, List.length_cons, List.length_nil]; rw [if_pos (by decide), a0, Option.bind_some, f27_eq, Option.bind_some, e0]; simp [f14_J2, at1, pkA, stA, w1]
      | 1, _ => simp only [f14_L1, List.length_cons, List.length_nil]; rw [if_pos (by decide), a1, Option.bind_some, f27_eq, Option.bind_some]; simp only [stA] at e1 ⊢; rw [e1]; simp [f14_J2, at1, pkA, w2]
      | 2, _ => simp only [f14_L1, List.length_cons, List.length_nil]; rw [if_pos (by decide), a2, Option.bind_some, f27_eq, Option.bind_some]; simp only [stA] at e2 ⊢; rw [e2]; simp [f14_J2, at1, pkA, w3]
      | 3, _ => simp only [f14_L1, List.length_cons, List.length_nil]; rw [if_pos (by decide), a3, Option.bind_some, f27_eq, Option.bind_some]; simp only [stA] at e3 ⊢; rw [e3]; simp [f14_J2, w4]
      | 4, _ => simp only [f14_L1, List.length_cons, List.length_nil]; rw [if_pos (by decide), a4, Option.bind_some, f27_eq, Option.bind_some]; simp only [stA] at e4 ⊢; rw [e4]; simp [f14_J2, at1, pkA, w5])
  simp only at hrun
  rw [hrun]
  simp

end Go.Proofs.Ytlidbikdeboihaa
