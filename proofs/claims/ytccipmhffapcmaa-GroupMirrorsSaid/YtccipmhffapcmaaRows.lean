/-
  No cell of these rows narrows 'for every input' (looked for: loops, veiled, ifaces, maps, wideKeys, modest, calm, conditions, laid).
  DERIVED. THE GIVEN ROWS OF THIS SEAT. 8 by the template 'for every input the law returns true; each argument reads behind the call as it read before'; 0 by the template 'total and deterministic' (their statements: YtccipmhffapcmaaTotals.lean).
  GIVEN WITH THE SEED: the statements are not yours to turn. If you find one false, say at which input.
  Laid BY PROGRAM, IN A SANDBOX (cutbox-rows.mjs): the forced cells as the released guide's own fill.sh prints them over the translation 88b0c730c66415ff… (all of the seat's roots in one cut). By AI agents, Wed Nov 11 2026. No macro, syntax, notation, axiom, sorry.
-/
import Derived.Test.YtccipmhffapcmaaChecked
import GoSem.Claim
import GoSem.ClaimJoined
import GoSem.ClaimMapViews
import Derived.JoinedTies
import Derived.KernelRfl
namespace Go.Proofs.Ytccipmhffapcmaa
/- THE CELL 'sum', in the pinned program and in every row, IS THE sha256 OF THE DUMP (.gsa) THAT YtccipmhffapcmaaProg.lean LOADS. Nothing in Lean hashes anything: it is a label: what it is worth is what the hold of that sum in a sandbox is worth. -/
noncomputable def Try.pinned : Pinned := { name := "ytccipmhffapcmaa", sum := "88b0c730c66415ff8bab077e8b66a1e03747644c3b569c8d11b51e954bd52712", checked := Try.checked }
namespace Rows
def none {H : Type} : Left H := { results := [], args := [] }

/-- 'luminairelaw14.GroupFans': WHATEVER THE INPUT: true; the input reads as it did. -/
def groupFansSpec : ChangeSpec := { name := "groupFans", fn := fun _ => fun
  | [d1, d2, d3] => { results := [.lit (.bool true)], args := [d1, d2, d3] }
  | _ => none }
def groupFansRow : OpenClaim := { program := "ytccipmhffapcmaa", sum := "88b0c730c66415ff8bab077e8b66a1e03747644c3b569c8d11b51e954bd52712", func := "luminaire/luminairelaw14.GroupFans", spec := "groupFans", unfollowed := true, recurses := true, apart := false }
def GroupFansSaid : Prop := groupFansRow.holds Try.pinned (OpenSpec.ofChange groupFansSpec)

/-- ITS FALSE NEIGHBOUR: 'it returns false'. Refute it at one input. -/
def groupFansWrong : ChangeSpec := { name := "groupFans", fn := fun _ => fun
  | [d1, d2, d3] => { results := [.lit (.bool false)], args := [d1, d2, d3] }
  | _ => none }
def GroupFansWrongFalsely : Prop := groupFansRow.holds Try.pinned (OpenSpec.ofChange groupFansWrong)

/-- 'luminairelaw14.GroupSpreads': WHATEVER THE INPUT: true; the input reads as it did. -/
def groupSpreadsSpec : ChangeSpec := { name := "groupSpreads", fn := fun _ => fun
  | [d1, d2, d3] => { results := [.lit (.bool true)], args := [d1, d2, d3] }
  | _ => none }
def groupSpreadsRow : OpenClaim := { program := "ytccipmhffapcmaa", sum := "88b0c730c66415ff8bab077e8b66a1e03747644c3b569c8d11b51e954bd52712", func := "luminaire/luminairelaw14.GroupSpreads", spec := "groupSpreads", unfollowed := true, recurses := true, apart := false }
def GroupSpreadsSaid : Prop := groupSpreadsRow.holds Try.pinned (OpenSpec.ofChange groupSpreadsSpec)

/-- ITS FALSE NEIGHBOUR: 'it returns false'. Refute it at one input. -/
def groupSpreadsWrong : ChangeSpec := { name := "groupSpreads", fn := fun _ => fun
  | [d1, d2, d3] => { results := [.lit (.bool false)], args := [d1, d2, d3] }
  | _ => none }
def GroupSpreadsWrongFalsely : Prop := groupSpreadsRow.holds Try.pinned (OpenSpec.ofChange groupSpreadsWrong)

/-- 'luminairelaw14.GroupCentres': WHATEVER THE INPUT: true; the input reads as it did. -/
def groupCentresSpec : ChangeSpec := { name := "groupCentres", fn := fun _ => fun
  | [d1, d2, d3] => { results := [.lit (.bool true)], args := [d1, d2, d3] }
  | _ => none }
def groupCentresRow : OpenClaim := { program := "ytccipmhffapcmaa", sum := "88b0c730c66415ff8bab077e8b66a1e03747644c3b569c8d11b51e954bd52712", func := "luminaire/luminairelaw14.GroupCentres", spec := "groupCentres", unfollowed := true, recurses := true, apart := false }
def GroupCentresSaid : Prop := groupCentresRow.holds Try.pinned (OpenSpec.ofChange groupCentresSpec)

/-- ITS FALSE NEIGHBOUR: 'it returns false'. Refute it at one input. -/
def groupCentresWrong : ChangeSpec := { name := "groupCentres", fn := fun _ => fun
  | [d1, d2, d3] => { results := [.lit (.bool false)], args := [d1, d2, d3] }
  | _ => none }
def GroupCentresWrongFalsely : Prop := groupCentresRow.holds Try.pinned (OpenSpec.ofChange groupCentresWrong)

/-- 'luminairelaw14.GroupChecks': WHATEVER THE INPUT: true; the input reads as it did. -/
def groupChecksSpec : ChangeSpec := { name := "groupChecks", fn := fun _ => fun
  | [d1, d2] => { results := [.lit (.bool true)], args := [d1, d2] }
  | _ => none }
def groupChecksRow : OpenClaim := { program := "ytccipmhffapcmaa", sum := "88b0c730c66415ff8bab077e8b66a1e03747644c3b569c8d11b51e954bd52712", func := "luminaire/luminairelaw14.GroupChecks", spec := "groupChecks", unfollowed := true, recurses := true, apart := false }
def GroupChecksSaid : Prop := groupChecksRow.holds Try.pinned (OpenSpec.ofChange groupChecksSpec)

/-- ITS FALSE NEIGHBOUR: 'it returns false'. Refute it at one input. -/
def groupChecksWrong : ChangeSpec := { name := "groupChecks", fn := fun _ => fun
  | [d1, d2] => { results := [.lit (.bool false)], args := [d1, d2] }
  | _ => none }
def GroupChecksWrongFalsely : Prop := groupChecksRow.holds Try.pinned (OpenSpec.ofChange groupChecksWrong)

/-- 'luminairelaw14.GroupOrders': WHATEVER THE INPUT: true; the input reads as it did. -/
def groupOrdersSpec : ChangeSpec := { name := "groupOrders", fn := fun _ => fun
  | [d1, d2, d3] => { results := [.lit (.bool true)], args := [d1, d2, d3] }
  | _ => none }
def groupOrdersRow : OpenClaim := { program := "ytccipmhffapcmaa", sum := "88b0c730c66415ff8bab077e8b66a1e03747644c3b569c8d11b51e954bd52712", func := "luminaire/luminairelaw14.GroupOrders", spec := "groupOrders", unfollowed := true, recurses := true, apart := false }
def GroupOrdersSaid : Prop := groupOrdersRow.holds Try.pinned (OpenSpec.ofChange groupOrdersSpec)

/-- ITS FALSE NEIGHBOUR: 'it returns false'. Refute it at one input. -/
def groupOrdersWrong : ChangeSpec := { name := "groupOrders", fn := fun _ => fun
  | [d1, d2, d3] => { results := [.lit (.bool false)], args := [d1, d2, d3] }
  | _ => none }
def GroupOrdersWrongFalsely : Prop := groupOrdersRow.holds Try.pinned (OpenSpec.ofChange groupOrdersWrong)

/-- 'luminairelaw14.GroupTables': WHATEVER THE INPUT: true; the input reads as it did. -/
def groupTablesSpec : ChangeSpec := { name := "groupTables", fn := fun _ => fun
  | [d1, d2, d3] => { results := [.lit (.bool true)], args := [d1, d2, d3] }
  | _ => none }
def groupTablesRow : OpenClaim := { program := "ytccipmhffapcmaa", sum := "88b0c730c66415ff8bab077e8b66a1e03747644c3b569c8d11b51e954bd52712", func := "luminaire/luminairelaw14.GroupTables", spec := "groupTables", inPlace := ["slices.overlaps[luminaire/api.Group]"], unfollowed := true, recurses := true, apart := false }
def GroupTablesSaid : Prop := groupTablesRow.holds Try.pinned (OpenSpec.ofChange groupTablesSpec)

/-- ITS FALSE NEIGHBOUR: 'it returns false'. Refute it at one input. -/
def groupTablesWrong : ChangeSpec := { name := "groupTables", fn := fun _ => fun
  | [d1, d2, d3] => { results := [.lit (.bool false)], args := [d1, d2, d3] }
  | _ => none }
def GroupTablesWrongFalsely : Prop := groupTablesRow.holds Try.pinned (OpenSpec.ofChange groupTablesWrong)

/-- 'luminairelaw14.GroupKeeps': WHATEVER THE INPUT: true; the input reads as it did. -/
def groupKeepsSpec : ChangeSpec := { name := "groupKeeps", fn := fun _ => fun
  | [d1, d2] => { results := [.lit (.bool true)], args := [d1, d2] }
  | _ => none }
def groupKeepsRow : OpenClaim := { program := "ytccipmhffapcmaa", sum := "88b0c730c66415ff8bab077e8b66a1e03747644c3b569c8d11b51e954bd52712", func := "luminaire/luminairelaw14.GroupKeeps", spec := "groupKeeps", inPlace := ["slices.overlaps[luminaire/api.Group]"], unfollowed := true, recurses := true, apart := false }
def GroupKeepsSaid : Prop := groupKeepsRow.holds Try.pinned (OpenSpec.ofChange groupKeepsSpec)

/-- ITS FALSE NEIGHBOUR: 'it returns false'. Refute it at one input. -/
def groupKeepsWrong : ChangeSpec := { name := "groupKeeps", fn := fun _ => fun
  | [d1, d2] => { results := [.lit (.bool false)], args := [d1, d2] }
  | _ => none }
def GroupKeepsWrongFalsely : Prop := groupKeepsRow.holds Try.pinned (OpenSpec.ofChange groupKeepsWrong)

/-- 'luminairelaw14.GroupMirrors': WHATEVER THE INPUT: true; the input reads as it did. -/
def groupMirrorsSpec : ChangeSpec := { name := "groupMirrors", fn := fun _ => fun
  | [d] => { results := [.lit (.bool true)], args := [d] }
  | _ => none }
def groupMirrorsRow : OpenClaim := { program := "ytccipmhffapcmaa", sum := "88b0c730c66415ff8bab077e8b66a1e03747644c3b569c8d11b51e954bd52712", func := "luminaire/luminairelaw14.GroupMirrors", spec := "groupMirrors", unfollowed := true, recurses := true, apart := false }
def GroupMirrorsSaid : Prop := groupMirrorsRow.holds Try.pinned (OpenSpec.ofChange groupMirrorsSpec)

/-- ITS FALSE NEIGHBOUR: 'it returns false'. Refute it at one input. -/
def groupMirrorsWrong : ChangeSpec := { name := "groupMirrors", fn := fun _ => fun
  | [d] => { results := [.lit (.bool false)], args := [d] }
  | _ => none }
def GroupMirrorsWrongFalsely : Prop := groupMirrorsRow.holds Try.pinned (OpenSpec.ofChange groupMirrorsWrong)

/- THE SECOND FORM. 'bulk': how many values and letters a reading holds, each counted each time it is reached (what is shared counts as often as it is met; a slice's spare places count too). A statement '..UptoSaid' is the law's where the arguments, and the package variables that the reading takes, are together of bulk at most 1048576: NARROWER than '..Said'. Prove '..Said' where nothing that the law and all that it calls make is longer than what came in: it says more and counts as full. Else prove '..UptoSaid'. A law counts once. -/
mutual
def uptoBulk {H : Type} : DataW H → Nat
  | .lit (.string bytes) => bytes.length + 1
  | .lit _ => 1
  | .nil => 1
  | .ptr d => uptoBulk d + 1
  | .slice elems spare => uptoBulkAll elems + uptoBulkAll spare + 1
  | .agg parts => uptoBulkAll parts + 1
  | .iface _ d => uptoBulk d + 1
  | .map entries => uptoBulkEntries entries + 1
  | .held _ => 1
def uptoBulkAll {H : Type} : List (DataW H) → Nat
  | [] => 0
  | d :: r => uptoBulk d + uptoBulkAll r
def uptoBulkEntries {H : Type} : List (Lit × DataW H) → Nat
  | [] => 0
  | x :: r => uptoBulkEntry x + uptoBulkEntries r
def uptoBulkEntry {H : Type} : Lit × DataW H → Nat
  | (.string bytes, d) => bytes.length + uptoBulk d + 1
  | (_, d) => uptoBulk d + 1
 end
def uptoSmall : (H : Type) → List (DataW H) → Bool := fun _ ds => decide (uptoBulkAll ds ≤ 1048576)
def OpenSpec.upto (s : _root_.Go.ChangeSpec) : _root_.Go.OpenSpec := { _root_.Go.OpenSpec.ofChange s with cond := some uptoSmall }

/-- 'luminairelaw14.GroupFans', WHERE WHAT IT READS IS OF BULK AT MOST 1048576: true; the input reads as it did. -/
def groupFansUptoRow : OpenClaim := { program := "ytccipmhffapcmaa", sum := "88b0c730c66415ff8bab077e8b66a1e03747644c3b569c8d11b51e954bd52712", func := "luminaire/luminairelaw14.GroupFans", spec := "groupFans", unfollowed := true, recurses := true, apart := false, narrowed := true }
def GroupFansUptoSaid : Prop := groupFansUptoRow.holds Try.pinned (OpenSpec.upto groupFansSpec)

/-- 'luminairelaw14.GroupSpreads', WHERE WHAT IT READS IS OF BULK AT MOST 1048576: true; the input reads as it did. -/
def groupSpreadsUptoRow : OpenClaim := { program := "ytccipmhffapcmaa", sum := "88b0c730c66415ff8bab077e8b66a1e03747644c3b569c8d11b51e954bd52712", func := "luminaire/luminairelaw14.GroupSpreads", spec := "groupSpreads", unfollowed := true, recurses := true, apart := false, narrowed := true }
def GroupSpreadsUptoSaid : Prop := groupSpreadsUptoRow.holds Try.pinned (OpenSpec.upto groupSpreadsSpec)

/-- 'luminairelaw14.GroupCentres', WHERE WHAT IT READS IS OF BULK AT MOST 1048576: true; the input reads as it did. -/
def groupCentresUptoRow : OpenClaim := { program := "ytccipmhffapcmaa", sum := "88b0c730c66415ff8bab077e8b66a1e03747644c3b569c8d11b51e954bd52712", func := "luminaire/luminairelaw14.GroupCentres", spec := "groupCentres", unfollowed := true, recurses := true, apart := false, narrowed := true }
def GroupCentresUptoSaid : Prop := groupCentresUptoRow.holds Try.pinned (OpenSpec.upto groupCentresSpec)

/-- 'luminairelaw14.GroupChecks', WHERE WHAT IT READS IS OF BULK AT MOST 1048576: true; the input reads as it did. -/
def groupChecksUptoRow : OpenClaim := { program := "ytccipmhffapcmaa", sum := "88b0c730c66415ff8bab077e8b66a1e03747644c3b569c8d11b51e954bd52712", func := "luminaire/luminairelaw14.GroupChecks", spec := "groupChecks", unfollowed := true, recurses := true, apart := false, narrowed := true }
def GroupChecksUptoSaid : Prop := groupChecksUptoRow.holds Try.pinned (OpenSpec.upto groupChecksSpec)

/-- 'luminairelaw14.GroupOrders', WHERE WHAT IT READS IS OF BULK AT MOST 1048576: true; the input reads as it did. -/
def groupOrdersUptoRow : OpenClaim := { program := "ytccipmhffapcmaa", sum := "88b0c730c66415ff8bab077e8b66a1e03747644c3b569c8d11b51e954bd52712", func := "luminaire/luminairelaw14.GroupOrders", spec := "groupOrders", unfollowed := true, recurses := true, apart := false, narrowed := true }
def GroupOrdersUptoSaid : Prop := groupOrdersUptoRow.holds Try.pinned (OpenSpec.upto groupOrdersSpec)

/-- 'luminairelaw14.GroupTables', WHERE WHAT IT READS IS OF BULK AT MOST 1048576: true; the input reads as it did. -/
def groupTablesUptoRow : OpenClaim := { program := "ytccipmhffapcmaa", sum := "88b0c730c66415ff8bab077e8b66a1e03747644c3b569c8d11b51e954bd52712", func := "luminaire/luminairelaw14.GroupTables", spec := "groupTables", inPlace := ["slices.overlaps[luminaire/api.Group]"], unfollowed := true, recurses := true, apart := false, narrowed := true }
def GroupTablesUptoSaid : Prop := groupTablesUptoRow.holds Try.pinned (OpenSpec.upto groupTablesSpec)

/-- 'luminairelaw14.GroupKeeps', WHERE WHAT IT READS IS OF BULK AT MOST 1048576: true; the input reads as it did. -/
def groupKeepsUptoRow : OpenClaim := { program := "ytccipmhffapcmaa", sum := "88b0c730c66415ff8bab077e8b66a1e03747644c3b569c8d11b51e954bd52712", func := "luminaire/luminairelaw14.GroupKeeps", spec := "groupKeeps", inPlace := ["slices.overlaps[luminaire/api.Group]"], unfollowed := true, recurses := true, apart := false, narrowed := true }
def GroupKeepsUptoSaid : Prop := groupKeepsUptoRow.holds Try.pinned (OpenSpec.upto groupKeepsSpec)

/-- 'luminairelaw14.GroupMirrors', WHERE WHAT IT READS IS OF BULK AT MOST 1048576: true; the input reads as it did. -/
def groupMirrorsUptoRow : OpenClaim := { program := "ytccipmhffapcmaa", sum := "88b0c730c66415ff8bab077e8b66a1e03747644c3b569c8d11b51e954bd52712", func := "luminaire/luminairelaw14.GroupMirrors", spec := "groupMirrors", unfollowed := true, recurses := true, apart := false, narrowed := true }
def GroupMirrorsUptoSaid : Prop := groupMirrorsUptoRow.holds Try.pinned (OpenSpec.upto groupMirrorsSpec)

end Rows
end Go.Proofs.Ytccipmhffapcmaa
