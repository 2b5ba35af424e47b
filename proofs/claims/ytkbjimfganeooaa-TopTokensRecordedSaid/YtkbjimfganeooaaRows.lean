/-
  No cell of these rows narrows 'for every input' (looked for: loops, veiled, ifaces, maps, wideKeys, modest, calm, conditions, laid).
  DERIVED. THE GIVEN ROWS OF THIS SEAT. 3 by the template 'for every input the law returns true; each argument reads behind the call as it read before'; 0 by the template 'total and deterministic' (their statements: YtkbjimfganeooaaTotals.lean).
  GIVEN WITH THE SEED: the statements are not yours to turn. If you find one false, say at which input.
  Laid BY PROGRAM, IN A SANDBOX (cutbox-rows.mjs): the forced cells as the released guide's own fill.sh prints them over the translation 1ffa52ec0c79ddb2… (all of the seat's roots in one cut). By AI agents, Wed Nov 11 2026. No macro, syntax, notation, axiom, sorry.
-/
import Derived.Test.YtkbjimfganeooaaChecked
import GoSem.Claim
import GoSem.ClaimJoined
import GoSem.ClaimMapViews
import Derived.JoinedTies
import Derived.KernelRfl
namespace Go.Proofs.Ytkbjimfganeooaa
/- THE CELL 'sum', in the pinned program and in every row, IS THE sha256 OF THE DUMP (.gsa) THAT YtkbjimfganeooaaProg.lean LOADS. Nothing in Lean hashes anything: it is a label: what it is worth is what the hold of that sum in a sandbox is worth. -/
noncomputable def Try.pinned : Pinned := { name := "ytkbjimfganeooaa", sum := "1ffa52ec0c79ddb2b68cfa8746f968d80fe95549d1a26b3c694f78270f061fb1", checked := Try.checked }
namespace Rows
def none {H : Type} : Left H := { results := [], args := [] }

/-- 'luminairetop.TopRecordsSpoilt': WHATEVER THE INPUT: true; the input reads as it did. -/
def topRecordsSpoiltSpec : ChangeSpec := { name := "topRecordsSpoilt", fn := fun _ => fun
  | [d1, d2, d3] => { results := [.lit (.bool true)], args := [d1, d2, d3] }
  | _ => none }
def topRecordsSpoiltRow : OpenClaim := { program := "ytkbjimfganeooaa", sum := "1ffa52ec0c79ddb2b68cfa8746f968d80fe95549d1a26b3c694f78270f061fb1", func := "luminaire/luminairetop.TopRecordsSpoilt", spec := "topRecordsSpoilt", inPlace := ["internal/bytealg.IndexByteString"], unfollowed := true, recurses := true, apart := false }
def TopRecordsSpoiltSaid : Prop := topRecordsSpoiltRow.holds Try.pinned (OpenSpec.ofChange topRecordsSpoiltSpec)

/-- ITS FALSE NEIGHBOUR: 'it returns false'. Refute it at one input. -/
def topRecordsSpoiltWrong : ChangeSpec := { name := "topRecordsSpoilt", fn := fun _ => fun
  | [d1, d2, d3] => { results := [.lit (.bool false)], args := [d1, d2, d3] }
  | _ => none }
def TopRecordsSpoiltWrongFalsely : Prop := topRecordsSpoiltRow.holds Try.pinned (OpenSpec.ofChange topRecordsSpoiltWrong)

/-- 'luminairetop.TopRecordsContinued': WHATEVER THE INPUT: true; the input reads as it did. -/
def topRecordsContinuedSpec : ChangeSpec := { name := "topRecordsContinued", fn := fun _ => fun
  | [d1, d2, d3] => { results := [.lit (.bool true)], args := [d1, d2, d3] }
  | _ => none }
def topRecordsContinuedRow : OpenClaim := { program := "ytkbjimfganeooaa", sum := "1ffa52ec0c79ddb2b68cfa8746f968d80fe95549d1a26b3c694f78270f061fb1", func := "luminaire/luminairetop.TopRecordsContinued", spec := "topRecordsContinued", inPlace := ["internal/bytealg.IndexByteString"], unfollowed := true, recurses := true, apart := false }
def TopRecordsContinuedSaid : Prop := topRecordsContinuedRow.holds Try.pinned (OpenSpec.ofChange topRecordsContinuedSpec)

/-- ITS FALSE NEIGHBOUR: 'it returns false'. Refute it at one input. -/
def topRecordsContinuedWrong : ChangeSpec := { name := "topRecordsContinued", fn := fun _ => fun
  | [d1, d2, d3] => { results := [.lit (.bool false)], args := [d1, d2, d3] }
  | _ => none }
def TopRecordsContinuedWrongFalsely : Prop := topRecordsContinuedRow.holds Try.pinned (OpenSpec.ofChange topRecordsContinuedWrong)

/-- 'luminairetop.TopTokensRecorded': WHATEVER THE INPUT: true; the input reads as it did. -/
def topTokensRecordedSpec : ChangeSpec := { name := "topTokensRecorded", fn := fun _ => fun
  | [d] => { results := [.lit (.bool true)], args := [d] }
  | _ => none }
def topTokensRecordedRow : OpenClaim := { program := "ytkbjimfganeooaa", sum := "1ffa52ec0c79ddb2b68cfa8746f968d80fe95549d1a26b3c694f78270f061fb1", func := "luminaire/luminairetop.TopTokensRecorded", spec := "topTokensRecorded", inPlace := ["internal/bytealg.IndexByteString", "internal/abi.NoEscape", "internal/bytealg.MakeNoZero"], unfollowed := true, recurses := true, apart := false }
def TopTokensRecordedSaid : Prop := topTokensRecordedRow.holds Try.pinned (OpenSpec.ofChange topTokensRecordedSpec)

/-- ITS FALSE NEIGHBOUR: 'it returns false'. Refute it at one input. -/
def topTokensRecordedWrong : ChangeSpec := { name := "topTokensRecorded", fn := fun _ => fun
  | [d] => { results := [.lit (.bool false)], args := [d] }
  | _ => none }
def TopTokensRecordedWrongFalsely : Prop := topTokensRecordedRow.holds Try.pinned (OpenSpec.ofChange topTokensRecordedWrong)

/- THE SECOND FORM. 'bulk': how many values and letters a reading holds, each counted each time it is reached (what is shared counts as often as it is met; a slice's spare places count too). A statement '..UptoSaid' is the law's where the arguments, and the package variables that the reading takes, are together of bulk at most 1048576: NARROWER than '..Said'. Prove '..Said' where nothing that the law and all that it calls make is longer than what came in: it says more and counts as full. Else prove '..UptoSaid'. A law counts once. -/
mutual
def uptoBulk {H : Type} : DataW H → Nat
  | .lit (.string bytes) => bytes.length + 1
  | .lit _ => 1
  | .nil => 1
  | .ptr d => uptoBulk d + 1
  | .slice elems spare => uptoBulkAll elems + uptoBulkAll spare + 1
  | .agg parts => uptoBulkAll parts + 1
  | .iface _ d => uptoBulk d + 1
  | .map entries => uptoBulkEntries entries + 1
  | .held _ => 1
def uptoBulkAll {H : Type} : List (DataW H) → Nat
  | [] => 0
  | d :: r => uptoBulk d + uptoBulkAll r
def uptoBulkEntries {H : Type} : List (Lit × DataW H) → Nat
  | [] => 0
  | x :: r => uptoBulkEntry x + uptoBulkEntries r
def uptoBulkEntry {H : Type} : Lit × DataW H → Nat
  | (.string bytes, d) => bytes.length + uptoBulk d + 1
  | (_, d) => uptoBulk d + 1
 end
def uptoSmall : (H : Type) → List (DataW H) → Bool := fun _ ds => decide (uptoBulkAll ds ≤ 1048576)
def OpenSpec.upto (s : _root_.Go.ChangeSpec) : _root_.Go.OpenSpec := { _root_.Go.OpenSpec.ofChange s with cond := some uptoSmall }

/-- 'luminairetop.TopRecordsSpoilt', WHERE WHAT IT READS IS OF BULK AT MOST 1048576: true; the input reads as it did. -/
def topRecordsSpoiltUptoRow : OpenClaim := { program := "ytkbjimfganeooaa", sum := "1ffa52ec0c79ddb2b68cfa8746f968d80fe95549d1a26b3c694f78270f061fb1", func := "luminaire/luminairetop.TopRecordsSpoilt", spec := "topRecordsSpoilt", inPlace := ["internal/bytealg.IndexByteString"], unfollowed := true, recurses := true, apart := false, narrowed := true }
def TopRecordsSpoiltUptoSaid : Prop := topRecordsSpoiltUptoRow.holds Try.pinned (OpenSpec.upto topRecordsSpoiltSpec)

/-- 'luminairetop.TopRecordsContinued', WHERE WHAT IT READS IS OF BULK AT MOST 1048576: true; the input reads as it did. -/
def topRecordsContinuedUptoRow : OpenClaim := { program := "ytkbjimfganeooaa", sum := "1ffa52ec0c79ddb2b68cfa8746f968d80fe95549d1a26b3c694f78270f061fb1", func := "luminaire/luminairetop.TopRecordsContinued", spec := "topRecordsContinued", inPlace := ["internal/bytealg.IndexByteString"], unfollowed := true, recurses := true, apart := false, narrowed := true }
def TopRecordsContinuedUptoSaid : Prop := topRecordsContinuedUptoRow.holds Try.pinned (OpenSpec.upto topRecordsContinuedSpec)

/-- 'luminairetop.TopTokensRecorded', WHERE WHAT IT READS IS OF BULK AT MOST 1048576: true; the input reads as it did. -/
def topTokensRecordedUptoRow : OpenClaim := { program := "ytkbjimfganeooaa", sum := "1ffa52ec0c79ddb2b68cfa8746f968d80fe95549d1a26b3c694f78270f061fb1", func := "luminaire/luminairetop.TopTokensRecorded", spec := "topTokensRecorded", inPlace := ["internal/bytealg.IndexByteString", "internal/abi.NoEscape", "internal/bytealg.MakeNoZero"], unfollowed := true, recurses := true, apart := false, narrowed := true }
def TopTokensRecordedUptoSaid : Prop := topTokensRecordedUptoRow.holds Try.pinned (OpenSpec.upto topTokensRecordedSpec)

end Rows
end Go.Proofs.Ytkbjimfganeooaa
