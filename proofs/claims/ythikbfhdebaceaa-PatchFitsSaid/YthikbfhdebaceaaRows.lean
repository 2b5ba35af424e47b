/-
  No cell of these rows narrows 'for every input' (looked for: loops, veiled, ifaces, maps, wideKeys, modest, calm, conditions, laid).
  DERIVED. THE GIVEN ROWS OF THIS SEAT. 7 by the template 'for every input the law returns true; each argument reads behind the call as it read before'; 0 by the template 'total and deterministic' (their statements: YthikbfhdebaceaaTotals.lean).
  GIVEN WITH THE SEED: the statements are not yours to turn. If you find one false, say at which input.
  Laid BY PROGRAM, IN A SANDBOX (cutbox-rows.mjs): the forced cells as the released guide's own fill.sh prints them over the translation c16185b31f2b7326… (all of the seat's roots in one cut). By AI agents, Wed Nov 11 2026. No macro, syntax, notation, axiom, sorry.
-/
import Derived.Test.YthikbfhdebaceaaChecked
import GoSem.Claim
import GoSem.ClaimJoined
import GoSem.ClaimMapViews
import Derived.JoinedTies
import Derived.KernelRfl
namespace Go.Proofs.Ythikbfhdebaceaa
/- THE CELL 'sum', in the pinned program and in every row, IS THE sha256 OF THE DUMP (.gsa) THAT YthikbfhdebaceaaProg.lean LOADS. Nothing in Lean hashes anything: it is a label: what it is worth is what the hold of that sum in a sandbox is worth. -/
noncomputable def Try.pinned : Pinned := { name := "ythikbfhdebaceaa", sum := "c16185b31f2b732661d8e5732b3c0477fa868c5a33c8abec46cfbd82de0485a6", checked := Try.checked }
namespace Rows
def none {H : Type} : Left H := { results := [], args := [] }

/-- 'luminairelaw12.PatchChecks': WHATEVER THE INPUT: true; the input reads as it did. -/
def patchChecksSpec : ChangeSpec := { name := "patchChecks", fn := fun _ => fun
  | [d1, d2, d3] => { results := [.lit (.bool true)], args := [d1, d2, d3] }
  | _ => none }
def patchChecksRow : OpenClaim := { program := "ythikbfhdebaceaa", sum := "c16185b31f2b732661d8e5732b3c0477fa868c5a33c8abec46cfbd82de0485a6", func := "luminaire/luminairelaw12.PatchChecks", spec := "patchChecks", unfollowed := true, recurses := true, apart := false }
def PatchChecksSaid : Prop := patchChecksRow.holds Try.pinned (OpenSpec.ofChange patchChecksSpec)

/-- ITS FALSE NEIGHBOUR: 'it returns false'. Refute it at one input. -/
def patchChecksWrong : ChangeSpec := { name := "patchChecks", fn := fun _ => fun
  | [d1, d2, d3] => { results := [.lit (.bool false)], args := [d1, d2, d3] }
  | _ => none }
def PatchChecksWrongFalsely : Prop := patchChecksRow.holds Try.pinned (OpenSpec.ofChange patchChecksWrong)

/-- 'luminairelaw12.PatchSlots': WHATEVER THE INPUT: true; the input reads as it did. -/
def patchSlotsSpec : ChangeSpec := { name := "patchSlots", fn := fun _ => fun
  | [d1, d2, d3] => { results := [.lit (.bool true)], args := [d1, d2, d3] }
  | _ => none }
def patchSlotsRow : OpenClaim := { program := "ythikbfhdebaceaa", sum := "c16185b31f2b732661d8e5732b3c0477fa868c5a33c8abec46cfbd82de0485a6", func := "luminaire/luminairelaw12.PatchSlots", spec := "patchSlots", unfollowed := true, recurses := true, apart := false }
def PatchSlotsSaid : Prop := patchSlotsRow.holds Try.pinned (OpenSpec.ofChange patchSlotsSpec)

/-- ITS FALSE NEIGHBOUR: 'it returns false'. Refute it at one input. -/
def patchSlotsWrong : ChangeSpec := { name := "patchSlots", fn := fun _ => fun
  | [d1, d2, d3] => { results := [.lit (.bool false)], args := [d1, d2, d3] }
  | _ => none }
def PatchSlotsWrongFalsely : Prop := patchSlotsRow.holds Try.pinned (OpenSpec.ofChange patchSlotsWrong)

/-- 'luminairelaw12.PatchFirsts': WHATEVER THE INPUT: true; the input reads as it did. -/
def patchFirstsSpec : ChangeSpec := { name := "patchFirsts", fn := fun _ => fun
  | [d1, d2, d3] => { results := [.lit (.bool true)], args := [d1, d2, d3] }
  | _ => none }
def patchFirstsRow : OpenClaim := { program := "ythikbfhdebaceaa", sum := "c16185b31f2b732661d8e5732b3c0477fa868c5a33c8abec46cfbd82de0485a6", func := "luminaire/luminairelaw12.PatchFirsts", spec := "patchFirsts", unfollowed := true, recurses := true, apart := false }
def PatchFirstsSaid : Prop := patchFirstsRow.holds Try.pinned (OpenSpec.ofChange patchFirstsSpec)

/-- ITS FALSE NEIGHBOUR: 'it returns false'. Refute it at one input. -/
def patchFirstsWrong : ChangeSpec := { name := "patchFirsts", fn := fun _ => fun
  | [d1, d2, d3] => { results := [.lit (.bool false)], args := [d1, d2, d3] }
  | _ => none }
def PatchFirstsWrongFalsely : Prop := patchFirstsRow.holds Try.pinned (OpenSpec.ofChange patchFirstsWrong)

/-- 'luminairelaw12.PatchUses': WHATEVER THE INPUT: true; the input reads as it did. -/
def patchUsesSpec : ChangeSpec := { name := "patchUses", fn := fun _ => fun
  | [d1, d2] => { results := [.lit (.bool true)], args := [d1, d2] }
  | _ => none }
def patchUsesRow : OpenClaim := { program := "ythikbfhdebaceaa", sum := "c16185b31f2b732661d8e5732b3c0477fa868c5a33c8abec46cfbd82de0485a6", func := "luminaire/luminairelaw12.PatchUses", spec := "patchUses", unfollowed := true, recurses := true, apart := false }
def PatchUsesSaid : Prop := patchUsesRow.holds Try.pinned (OpenSpec.ofChange patchUsesSpec)

/-- ITS FALSE NEIGHBOUR: 'it returns false'. Refute it at one input. -/
def patchUsesWrong : ChangeSpec := { name := "patchUses", fn := fun _ => fun
  | [d1, d2] => { results := [.lit (.bool false)], args := [d1, d2] }
  | _ => none }
def PatchUsesWrongFalsely : Prop := patchUsesRow.holds Try.pinned (OpenSpec.ofChange patchUsesWrong)

/-- 'luminairelaw12.PatchOrders': WHATEVER THE INPUT: true; the input reads as it did. -/
def patchOrdersSpec : ChangeSpec := { name := "patchOrders", fn := fun _ => fun
  | [d1, d2, d3] => { results := [.lit (.bool true)], args := [d1, d2, d3] }
  | _ => none }
def patchOrdersRow : OpenClaim := { program := "ythikbfhdebaceaa", sum := "c16185b31f2b732661d8e5732b3c0477fa868c5a33c8abec46cfbd82de0485a6", func := "luminaire/luminairelaw12.PatchOrders", spec := "patchOrders", unfollowed := true, recurses := true, apart := false }
def PatchOrdersSaid : Prop := patchOrdersRow.holds Try.pinned (OpenSpec.ofChange patchOrdersSpec)

/-- ITS FALSE NEIGHBOUR: 'it returns false'. Refute it at one input. -/
def patchOrdersWrong : ChangeSpec := { name := "patchOrders", fn := fun _ => fun
  | [d1, d2, d3] => { results := [.lit (.bool false)], args := [d1, d2, d3] }
  | _ => none }
def PatchOrdersWrongFalsely : Prop := patchOrdersRow.holds Try.pinned (OpenSpec.ofChange patchOrdersWrong)

/-- 'luminairelaw12.PatchFits': WHATEVER THE INPUT: true; the input reads as it did. -/
def patchFitsSpec : ChangeSpec := { name := "patchFits", fn := fun _ => fun
  | [d1, d2, d3] => { results := [.lit (.bool true)], args := [d1, d2, d3] }
  | _ => none }
def patchFitsRow : OpenClaim := { program := "ythikbfhdebaceaa", sum := "c16185b31f2b732661d8e5732b3c0477fa868c5a33c8abec46cfbd82de0485a6", func := "luminaire/luminairelaw12.PatchFits", spec := "patchFits", unfollowed := true, recurses := true, apart := false }
def PatchFitsSaid : Prop := patchFitsRow.holds Try.pinned (OpenSpec.ofChange patchFitsSpec)

/-- ITS FALSE NEIGHBOUR: 'it returns false'. Refute it at one input. -/
def patchFitsWrong : ChangeSpec := { name := "patchFits", fn := fun _ => fun
  | [d1, d2, d3] => { results := [.lit (.bool false)], args := [d1, d2, d3] }
  | _ => none }
def PatchFitsWrongFalsely : Prop := patchFitsRow.holds Try.pinned (OpenSpec.ofChange patchFitsWrong)

/-- 'luminairelaw12.PatchChanges': WHATEVER THE INPUT: true; the input reads as it did. -/
def patchChangesSpec : ChangeSpec := { name := "patchChanges", fn := fun _ => fun
  | [d1, d2, d3] => { results := [.lit (.bool true)], args := [d1, d2, d3] }
  | _ => none }
def patchChangesRow : OpenClaim := { program := "ythikbfhdebaceaa", sum := "c16185b31f2b732661d8e5732b3c0477fa868c5a33c8abec46cfbd82de0485a6", func := "luminaire/luminairelaw12.PatchChanges", spec := "patchChanges", unfollowed := true, recurses := true, apart := false }
def PatchChangesSaid : Prop := patchChangesRow.holds Try.pinned (OpenSpec.ofChange patchChangesSpec)

/-- ITS FALSE NEIGHBOUR: 'it returns false'. Refute it at one input. -/
def patchChangesWrong : ChangeSpec := { name := "patchChanges", fn := fun _ => fun
  | [d1, d2, d3] => { results := [.lit (.bool false)], args := [d1, d2, d3] }
  | _ => none }
def PatchChangesWrongFalsely : Prop := patchChangesRow.holds Try.pinned (OpenSpec.ofChange patchChangesWrong)

/- THE SECOND FORM. 'bulk': how many values and letters a reading holds, each counted each time it is reached (what is shared counts as often as it is met; a slice's spare places count too). A statement '..UptoSaid' is the law's where the arguments, and the package variables that the reading takes, are together of bulk at most 1048576: NARROWER than '..Said'. Prove '..Said' where nothing that the law and all that it calls make is longer than what came in: it says more and counts as full. Else prove '..UptoSaid'. A law counts once. -/
mutual
def uptoBulk {H : Type} : DataW H → Nat
  | .lit (.string bytes) => bytes.length + 1
  | .lit _ => 1
  | .nil => 1
  | .ptr d => uptoBulk d + 1
  | .slice elems spare => uptoBulkAll elems + uptoBulkAll spare + 1
  | .agg parts => uptoBulkAll parts + 1
  | .iface _ d => uptoBulk d + 1
  | .map entries => uptoBulkEntries entries + 1
  | .held _ => 1
def uptoBulkAll {H : Type} : List (DataW H) → Nat
  | [] => 0
  | d :: r => uptoBulk d + uptoBulkAll r
def uptoBulkEntries {H : Type} : List (Lit × DataW H) → Nat
  | [] => 0
  | x :: r => uptoBulkEntry x + uptoBulkEntries r
def uptoBulkEntry {H : Type} : Lit × DataW H → Nat
  | (.string bytes, d) => bytes.length + uptoBulk d + 1
  | (_, d) => uptoBulk d + 1
 end
def uptoSmall : (H : Type) → List (DataW H) → Bool := fun _ ds => decide (uptoBulkAll ds ≤ 1048576)
def OpenSpec.upto (s : _root_.Go.ChangeSpec) : _root_.Go.OpenSpec := { _root_.Go.OpenSpec.ofChange s with cond := some uptoSmall }

/-- 'luminairelaw12.PatchChecks', WHERE WHAT IT READS IS OF BULK AT MOST 1048576: true; the input reads as it did. -/
def patchChecksUptoRow : OpenClaim := { program := "ythikbfhdebaceaa", sum := "c16185b31f2b732661d8e5732b3c0477fa868c5a33c8abec46cfbd82de0485a6", func := "luminaire/luminairelaw12.PatchChecks", spec := "patchChecks", unfollowed := true, recurses := true, apart := false, narrowed := true }
def PatchChecksUptoSaid : Prop := patchChecksUptoRow.holds Try.pinned (OpenSpec.upto patchChecksSpec)

/-- 'luminairelaw12.PatchSlots', WHERE WHAT IT READS IS OF BULK AT MOST 1048576: true; the input reads as it did. -/
def patchSlotsUptoRow : OpenClaim := { program := "ythikbfhdebaceaa", sum := "c16185b31f2b732661d8e5732b3c0477fa868c5a33c8abec46cfbd82de0485a6", func := "luminaire/luminairelaw12.PatchSlots", spec := "patchSlots", unfollowed := true, recurses := true, apart := false, narrowed := true }
def PatchSlotsUptoSaid : Prop := patchSlotsUptoRow.holds Try.pinned (OpenSpec.upto patchSlotsSpec)

/-- 'luminairelaw12.PatchFirsts', WHERE WHAT IT READS IS OF BULK AT MOST 1048576: true; the input reads as it did. -/
def patchFirstsUptoRow : OpenClaim := { program := "ythikbfhdebaceaa", sum := "c16185b31f2b732661d8e5732b3c0477fa868c5a33c8abec46cfbd82de0485a6", func := "luminaire/luminairelaw12.PatchFirsts", spec := "patchFirsts", unfollowed := true, recurses := true, apart := false, narrowed := true }
def PatchFirstsUptoSaid : Prop := patchFirstsUptoRow.holds Try.pinned (OpenSpec.upto patchFirstsSpec)

/-- 'luminairelaw12.PatchUses', WHERE WHAT IT READS IS OF BULK AT MOST 1048576: true; the input reads as it did. -/
def patchUsesUptoRow : OpenClaim := { program := "ythikbfhdebaceaa", sum := "c16185b31f2b732661d8e5732b3c0477fa868c5a33c8abec46cfbd82de0485a6", func := "luminaire/luminairelaw12.PatchUses", spec := "patchUses", unfollowed := true, recurses := true, apart := false, narrowed := true }
def PatchUsesUptoSaid : Prop := patchUsesUptoRow.holds Try.pinned (OpenSpec.upto patchUsesSpec)

/-- 'luminairelaw12.PatchOrders', WHERE WHAT IT READS IS OF BULK AT MOST 1048576: true; the input reads as it did. -/
def patchOrdersUptoRow : OpenClaim := { program := "ythikbfhdebaceaa", sum := "c16185b31f2b732661d8e5732b3c0477fa868c5a33c8abec46cfbd82de0485a6", func := "luminaire/luminairelaw12.PatchOrders", spec := "patchOrders", unfollowed := true, recurses := true, apart := false, narrowed := true }
def PatchOrdersUptoSaid : Prop := patchOrdersUptoRow.holds Try.pinned (OpenSpec.upto patchOrdersSpec)

/-- 'luminairelaw12.PatchFits', WHERE WHAT IT READS IS OF BULK AT MOST 1048576: true; the input reads as it did. -/
def patchFitsUptoRow : OpenClaim := { program := "ythikbfhdebaceaa", sum := "c16185b31f2b732661d8e5732b3c0477fa868c5a33c8abec46cfbd82de0485a6", func := "luminaire/luminairelaw12.PatchFits", spec := "patchFits", unfollowed := true, recurses := true, apart := false, narrowed := true }
def PatchFitsUptoSaid : Prop := patchFitsUptoRow.holds Try.pinned (OpenSpec.upto patchFitsSpec)

/-- 'luminairelaw12.PatchChanges', WHERE WHAT IT READS IS OF BULK AT MOST 1048576: true; the input reads as it did. -/
def patchChangesUptoRow : OpenClaim := { program := "ythikbfhdebaceaa", sum := "c16185b31f2b732661d8e5732b3c0477fa868c5a33c8abec46cfbd82de0485a6", func := "luminaire/luminairelaw12.PatchChanges", spec := "patchChanges", unfollowed := true, recurses := true, apart := false, narrowed := true }
def PatchChangesUptoSaid : Prop := patchChangesUptoRow.holds Try.pinned (OpenSpec.upto patchChangesSpec)

end Rows
end Go.Proofs.Ythikbfhdebaceaa
