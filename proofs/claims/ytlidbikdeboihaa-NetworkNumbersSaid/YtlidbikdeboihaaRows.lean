/-
  No cell of these rows narrows 'for every input' (looked for: loops, veiled, ifaces, maps, wideKeys, modest, calm, conditions, laid).
  DERIVED. THE GIVEN ROWS OF THIS SEAT. 9 by the template 'for every input the law returns true; each argument reads behind the call as it read before'; 0 by the template 'total and deterministic' (their statements: YtlidbikdeboihaaTotals.lean).
  GIVEN WITH THE SEED: the statements are not yours to turn. If you find one false, say at which input.
  Laid BY PROGRAM, IN A SANDBOX (cutbox-rows.mjs): the forced cells as the released guide's own fill.sh prints them over the translation d795ae7287a42047… (all of the seat's roots in one cut). By AI agents, Wed Nov 11 2026. No macro, syntax, notation, axiom, sorry.
-/
import Derived.Test.YtlidbikdeboihaaChecked
import GoSem.Claim
import GoSem.ClaimJoined
import GoSem.ClaimMapViews
import Derived.JoinedTies
import Derived.KernelRfl
namespace Go.Proofs.Ytlidbikdeboihaa
/- THE CELL 'sum', in the pinned program and in every row, IS THE sha256 OF THE DUMP (.gsa) THAT YtlidbikdeboihaaProg.lean LOADS. Nothing in Lean hashes anything: it is a label: what it is worth is what the hold of that sum in a sandbox is worth. -/
noncomputable def Try.pinned : Pinned := { name := "ytlidbikdeboihaa", sum := "d795ae7287a4204702945039b300de1ccdee612fca47b920b967df402e06699f", checked := Try.checked }
namespace Rows
def none {H : Type} : Left H := { results := [], args := [] }

/-- 'luminairelaw56.NetworkCounts': WHATEVER THE INPUT: true; the input reads as it did. -/
def networkCountsSpec : ChangeSpec := { name := "networkCounts", fn := fun _ => fun
  | [d1, d2] => { results := [.lit (.bool true)], args := [d1, d2] }
  | _ => none }
def networkCountsRow : OpenClaim := { program := "ytlidbikdeboihaa", sum := "d795ae7287a4204702945039b300de1ccdee612fca47b920b967df402e06699f", func := "luminaire/luminairelaw56.NetworkCounts", spec := "networkCounts", inPlace := ["internal/abi.NoEscape", "internal/bytealg.MakeNoZero", "slices.overlaps[luminaire/network.Stream]"], unfollowed := true, recurses := true, apart := false }
def NetworkCountsSaid : Prop := networkCountsRow.holds Try.pinned (OpenSpec.ofChange networkCountsSpec)

/-- ITS FALSE NEIGHBOUR: 'it returns false'. Refute it at one input. -/
def networkCountsWrong : ChangeSpec := { name := "networkCounts", fn := fun _ => fun
  | [d1, d2] => { results := [.lit (.bool false)], args := [d1, d2] }
  | _ => none }
def NetworkCountsWrongFalsely : Prop := networkCountsRow.holds Try.pinned (OpenSpec.ofChange networkCountsWrong)

/-- 'luminairelaw56.NetworkBegins': WHATEVER THE INPUT: true; the input reads as it did. -/
def networkBeginsSpec : ChangeSpec := { name := "networkBegins", fn := fun _ => fun
  | [d1, d2] => { results := [.lit (.bool true)], args := [d1, d2] }
  | _ => none }
def networkBeginsRow : OpenClaim := { program := "ytlidbikdeboihaa", sum := "d795ae7287a4204702945039b300de1ccdee612fca47b920b967df402e06699f", func := "luminaire/luminairelaw56.NetworkBegins", spec := "networkBegins", inPlace := ["internal/abi.NoEscape", "internal/bytealg.MakeNoZero", "slices.overlaps[luminaire/network.Stream]"], unfollowed := true, recurses := true, apart := false }
def NetworkBeginsSaid : Prop := networkBeginsRow.holds Try.pinned (OpenSpec.ofChange networkBeginsSpec)

/-- ITS FALSE NEIGHBOUR: 'it returns false'. Refute it at one input. -/
def networkBeginsWrong : ChangeSpec := { name := "networkBegins", fn := fun _ => fun
  | [d1, d2] => { results := [.lit (.bool false)], args := [d1, d2] }
  | _ => none }
def NetworkBeginsWrongFalsely : Prop := networkBeginsRow.holds Try.pinned (OpenSpec.ofChange networkBeginsWrong)

/-- 'luminairelaw56.NetworkSends': WHATEVER THE INPUT: true; the input reads as it did. -/
def networkSendsSpec : ChangeSpec := { name := "networkSends", fn := fun _ => fun
  | [d1, d2, d3] => { results := [.lit (.bool true)], args := [d1, d2, d3] }
  | _ => none }
def networkSendsRow : OpenClaim := { program := "ytlidbikdeboihaa", sum := "d795ae7287a4204702945039b300de1ccdee612fca47b920b967df402e06699f", func := "luminaire/luminairelaw56.NetworkSends", spec := "networkSends", inPlace := ["internal/abi.NoEscape", "internal/bytealg.MakeNoZero", "slices.overlaps[luminaire/network.Stream]"], unfollowed := true, recurses := true, apart := false }
def NetworkSendsSaid : Prop := networkSendsRow.holds Try.pinned (OpenSpec.ofChange networkSendsSpec)

/-- ITS FALSE NEIGHBOUR: 'it returns false'. Refute it at one input. -/
def networkSendsWrong : ChangeSpec := { name := "networkSends", fn := fun _ => fun
  | [d1, d2, d3] => { results := [.lit (.bool false)], args := [d1, d2, d3] }
  | _ => none }
def NetworkSendsWrongFalsely : Prop := networkSendsRow.holds Try.pinned (OpenSpec.ofChange networkSendsWrong)

/-- 'luminairelaw56.NetworkLives': WHATEVER THE INPUT: true; the input reads as it did. -/
def networkLivesSpec : ChangeSpec := { name := "networkLives", fn := fun _ => fun
  | [d] => { results := [.lit (.bool true)], args := [d] }
  | _ => none }
def networkLivesRow : OpenClaim := { program := "ytlidbikdeboihaa", sum := "d795ae7287a4204702945039b300de1ccdee612fca47b920b967df402e06699f", func := "luminaire/luminairelaw56.NetworkLives", spec := "networkLives", inPlace := ["internal/abi.NoEscape", "internal/bytealg.MakeNoZero", "slices.overlaps[luminaire/network.Stream]"], unfollowed := true, recurses := true, apart := false }
def NetworkLivesSaid : Prop := networkLivesRow.holds Try.pinned (OpenSpec.ofChange networkLivesSpec)

/-- ITS FALSE NEIGHBOUR: 'it returns false'. Refute it at one input. -/
def networkLivesWrong : ChangeSpec := { name := "networkLives", fn := fun _ => fun
  | [d] => { results := [.lit (.bool false)], args := [d] }
  | _ => none }
def NetworkLivesWrongFalsely : Prop := networkLivesRow.holds Try.pinned (OpenSpec.ofChange networkLivesWrong)

/-- 'luminairelaw56.NetworkNumbers': WHATEVER THE INPUT: true; the input reads as it did. -/
def networkNumbersSpec : ChangeSpec := { name := "networkNumbers", fn := fun _ => fun
  | [d1, d2] => { results := [.lit (.bool true)], args := [d1, d2] }
  | _ => none }
def networkNumbersRow : OpenClaim := { program := "ytlidbikdeboihaa", sum := "d795ae7287a4204702945039b300de1ccdee612fca47b920b967df402e06699f", func := "luminaire/luminairelaw56.NetworkNumbers", spec := "networkNumbers", inPlace := ["internal/abi.NoEscape", "internal/bytealg.MakeNoZero", "slices.overlaps[luminaire/network.Stream]"], unfollowed := true, recurses := true, apart := false }
def NetworkNumbersSaid : Prop := networkNumbersRow.holds Try.pinned (OpenSpec.ofChange networkNumbersSpec)

/-- ITS FALSE NEIGHBOUR: 'it returns false'. Refute it at one input. -/
def networkNumbersWrong : ChangeSpec := { name := "networkNumbers", fn := fun _ => fun
  | [d1, d2] => { results := [.lit (.bool false)], args := [d1, d2] }
  | _ => none }
def NetworkNumbersWrongFalsely : Prop := networkNumbersRow.holds Try.pinned (OpenSpec.ofChange networkNumbersWrong)

/-- 'luminairelaw56.NetworkStops': WHATEVER THE INPUT: true; the input reads as it did. -/
def networkStopsSpec : ChangeSpec := { name := "networkStops", fn := fun _ => fun
  | [d1, d2] => { results := [.lit (.bool true)], args := [d1, d2] }
  | _ => none }
def networkStopsRow : OpenClaim := { program := "ytlidbikdeboihaa", sum := "d795ae7287a4204702945039b300de1ccdee612fca47b920b967df402e06699f", func := "luminaire/luminairelaw56.NetworkStops", spec := "networkStops", inPlace := ["internal/abi.NoEscape", "internal/bytealg.MakeNoZero", "slices.overlaps[luminaire/network.Stream]"], unfollowed := true, recurses := true, apart := false }
def NetworkStopsSaid : Prop := networkStopsRow.holds Try.pinned (OpenSpec.ofChange networkStopsSpec)

/-- ITS FALSE NEIGHBOUR: 'it returns false'. Refute it at one input. -/
def networkStopsWrong : ChangeSpec := { name := "networkStops", fn := fun _ => fun
  | [d1, d2] => { results := [.lit (.bool false)], args := [d1, d2] }
  | _ => none }
def NetworkStopsWrongFalsely : Prop := networkStopsRow.holds Try.pinned (OpenSpec.ofChange networkStopsWrong)

/-- 'luminairelaw56.NetworkWrites': WHATEVER THE INPUT: true; the input reads as it did. -/
def networkWritesSpec : ChangeSpec := { name := "networkWrites", fn := fun _ => fun
  | [d] => { results := [.lit (.bool true)], args := [d] }
  | _ => none }
def networkWritesRow : OpenClaim := { program := "ytlidbikdeboihaa", sum := "d795ae7287a4204702945039b300de1ccdee612fca47b920b967df402e06699f", func := "luminaire/luminairelaw56.NetworkWrites", spec := "networkWrites", inPlace := ["internal/abi.NoEscape", "internal/bytealg.MakeNoZero", "slices.overlaps[luminaire/network.Stream]"], unfollowed := true, recurses := true, apart := false }
def NetworkWritesSaid : Prop := networkWritesRow.holds Try.pinned (OpenSpec.ofChange networkWritesSpec)

/-- ITS FALSE NEIGHBOUR: 'it returns false'. Refute it at one input. -/
def networkWritesWrong : ChangeSpec := { name := "networkWrites", fn := fun _ => fun
  | [d] => { results := [.lit (.bool false)], args := [d] }
  | _ => none }
def NetworkWritesWrongFalsely : Prop := networkWritesRow.holds Try.pinned (OpenSpec.ofChange networkWritesWrong)

/-- 'luminairelaw56.NetworkReads': WHATEVER THE INPUT: true; the input reads as it did. -/
def networkReadsSpec : ChangeSpec := { name := "networkReads", fn := fun _ => fun
  | [d] => { results := [.lit (.bool true)], args := [d] }
  | _ => none }
def networkReadsRow : OpenClaim := { program := "ytlidbikdeboihaa", sum := "d795ae7287a4204702945039b300de1ccdee612fca47b920b967df402e06699f", func := "luminaire/luminairelaw56.NetworkReads", spec := "networkReads", inPlace := ["internal/abi.NoEscape", "internal/bytealg.MakeNoZero", "slices.overlaps[luminaire/network.Stream]"], unfollowed := true, recurses := true, apart := false }
def NetworkReadsSaid : Prop := networkReadsRow.holds Try.pinned (OpenSpec.ofChange networkReadsSpec)

/-- ITS FALSE NEIGHBOUR: 'it returns false'. Refute it at one input. -/
def networkReadsWrong : ChangeSpec := { name := "networkReads", fn := fun _ => fun
  | [d] => { results := [.lit (.bool false)], args := [d] }
  | _ => none }
def NetworkReadsWrongFalsely : Prop := networkReadsRow.holds Try.pinned (OpenSpec.ofChange networkReadsWrong)

/-- 'luminairelaw56.NetworkReturns': WHATEVER THE INPUT: true; the input reads as it did. -/
def networkReturnsSpec : ChangeSpec := { name := "networkReturns", fn := fun _ => fun
  | [d1, d2] => { results := [.lit (.bool true)], args := [d1, d2] }
  | _ => none }
def networkReturnsRow : OpenClaim := { program := "ytlidbikdeboihaa", sum := "d795ae7287a4204702945039b300de1ccdee612fca47b920b967df402e06699f", func := "luminaire/luminairelaw56.NetworkReturns", spec := "networkReturns", inPlace := ["internal/abi.NoEscape", "internal/bytealg.MakeNoZero", "slices.overlaps[luminaire/network.Stream]"], unfollowed := true, recurses := true, apart := false }
def NetworkReturnsSaid : Prop := networkReturnsRow.holds Try.pinned (OpenSpec.ofChange networkReturnsSpec)

/-- ITS FALSE NEIGHBOUR: 'it returns false'. Refute it at one input. -/
def networkReturnsWrong : ChangeSpec := { name := "networkReturns", fn := fun _ => fun
  | [d1, d2] => { results := [.lit (.bool false)], args := [d1, d2] }
  | _ => none }
def NetworkReturnsWrongFalsely : Prop := networkReturnsRow.holds Try.pinned (OpenSpec.ofChange networkReturnsWrong)

/- THE SECOND FORM. 'bulk': how many values and letters a reading holds, each counted each time it is reached (what is shared counts as often as it is met; a slice's spare places count too). A statement '..UptoSaid' is the law's where the arguments, and the package variables that the reading takes, are together of bulk at most 1048576: NARROWER than '..Said'. Prove '..Said' where nothing that the law and all that it calls make is longer than what came in: it says more and counts as full. Else prove '..UptoSaid'. A law counts once. -/
mutual
def uptoBulk {H : Type} : DataW H → Nat
  | .lit (.string bytes) => bytes.length + 1
  | .lit _ => 1
  | .nil => 1
  | .ptr d => uptoBulk d + 1
  | .slice elems spare => uptoBulkAll elems + uptoBulkAll spare + 1
  | .agg parts => uptoBulkAll parts + 1
  | .iface _ d => uptoBulk d + 1
  | .map entries => uptoBulkEntries entries + 1
  | .held _ => 1
def uptoBulkAll {H : Type} : List (DataW H) → Nat
  | [] => 0
  | d :: r => uptoBulk d + uptoBulkAll r
def uptoBulkEntries {H : Type} : List (Lit × DataW H) → Nat
  | [] => 0
  | x :: r => uptoBulkEntry x + uptoBulkEntries r
def uptoBulkEntry {H : Type} : Lit × DataW H → Nat
  | (.string bytes, d) => bytes.length + uptoBulk d + 1
  | (_, d) => uptoBulk d + 1
 end
def uptoSmall : (H : Type) → List (DataW H) → Bool := fun _ ds => decide (uptoBulkAll ds ≤ 1048576)
def OpenSpec.upto (s : _root_.Go.ChangeSpec) : _root_.Go.OpenSpec := { _root_.Go.OpenSpec.ofChange s with cond := some uptoSmall }

/-- 'luminairelaw56.NetworkCounts', WHERE WHAT IT READS IS OF BULK AT MOST 1048576: true; the input reads as it did. -/
def networkCountsUptoRow : OpenClaim := { program := "ytlidbikdeboihaa", sum := "d795ae7287a4204702945039b300de1ccdee612fca47b920b967df402e06699f", func := "luminaire/luminairelaw56.NetworkCounts", spec := "networkCounts", inPlace := ["internal/abi.NoEscape", "internal/bytealg.MakeNoZero", "slices.overlaps[luminaire/network.Stream]"], unfollowed := true, recurses := true, apart := false, narrowed := true }
def NetworkCountsUptoSaid : Prop := networkCountsUptoRow.holds Try.pinned (OpenSpec.upto networkCountsSpec)

/-- 'luminairelaw56.NetworkBegins', WHERE WHAT IT READS IS OF BULK AT MOST 1048576: true; the input reads as it did. -/
def networkBeginsUptoRow : OpenClaim := { program := "ytlidbikdeboihaa", sum := "d795ae7287a4204702945039b300de1ccdee612fca47b920b967df402e06699f", func := "luminaire/luminairelaw56.NetworkBegins", spec := "networkBegins", inPlace := ["internal/abi.NoEscape", "internal/bytealg.MakeNoZero", "slices.overlaps[luminaire/network.Stream]"], unfollowed := true, recurses := true, apart := false, narrowed := true }
def NetworkBeginsUptoSaid : Prop := networkBeginsUptoRow.holds Try.pinned (OpenSpec.upto networkBeginsSpec)

/-- 'luminairelaw56.NetworkSends', WHERE WHAT IT READS IS OF BULK AT MOST 1048576: true; the input reads as it did. -/
def networkSendsUptoRow : OpenClaim := { program := "ytlidbikdeboihaa", sum := "d795ae7287a4204702945039b300de1ccdee612fca47b920b967df402e06699f", func := "luminaire/luminairelaw56.NetworkSends", spec := "networkSends", inPlace := ["internal/abi.NoEscape", "internal/bytealg.MakeNoZero", "slices.overlaps[luminaire/network.Stream]"], unfollowed := true, recurses := true, apart := false, narrowed := true }
def NetworkSendsUptoSaid : Prop := networkSendsUptoRow.holds Try.pinned (OpenSpec.upto networkSendsSpec)

/-- 'luminairelaw56.NetworkLives', WHERE WHAT IT READS IS OF BULK AT MOST 1048576: true; the input reads as it did. -/
def networkLivesUptoRow : OpenClaim := { program := "ytlidbikdeboihaa", sum := "d795ae7287a4204702945039b300de1ccdee612fca47b920b967df402e06699f", func := "luminaire/luminairelaw56.NetworkLives", spec := "networkLives", inPlace := ["internal/abi.NoEscape", "internal/bytealg.MakeNoZero", "slices.overlaps[luminaire/network.Stream]"], unfollowed := true, recurses := true, apart := false, narrowed := true }
def NetworkLivesUptoSaid : Prop := networkLivesUptoRow.holds Try.pinned (OpenSpec.upto networkLivesSpec)

/-- 'luminairelaw56.NetworkNumbers', WHERE WHAT IT READS IS OF BULK AT MOST 1048576: true; the input reads as it did. -/
def networkNumbersUptoRow : OpenClaim := { program := "ytlidbikdeboihaa", sum := "d795ae7287a4204702945039b300de1ccdee612fca47b920b967df402e06699f", func := "luminaire/luminairelaw56.NetworkNumbers", spec := "networkNumbers", inPlace := ["internal/abi.NoEscape", "internal/bytealg.MakeNoZero", "slices.overlaps[luminaire/network.Stream]"], unfollowed := true, recurses := true, apart := false, narrowed := true }
def NetworkNumbersUptoSaid : Prop := networkNumbersUptoRow.holds Try.pinned (OpenSpec.upto networkNumbersSpec)

/-- 'luminairelaw56.NetworkStops', WHERE WHAT IT READS IS OF BULK AT MOST 1048576: true; the input reads as it did. -/
def networkStopsUptoRow : OpenClaim := { program := "ytlidbikdeboihaa", sum := "d795ae7287a4204702945039b300de1ccdee612fca47b920b967df402e06699f", func := "luminaire/luminairelaw56.NetworkStops", spec := "networkStops", inPlace := ["internal/abi.NoEscape", "internal/bytealg.MakeNoZero", "slices.overlaps[luminaire/network.Stream]"], unfollowed := true, recurses := true, apart := false, narrowed := true }
def NetworkStopsUptoSaid : Prop := networkStopsUptoRow.holds Try.pinned (OpenSpec.upto networkStopsSpec)

/-- 'luminairelaw56.NetworkWrites', WHERE WHAT IT READS IS OF BULK AT MOST 1048576: true; the input reads as it did. -/
def networkWritesUptoRow : OpenClaim := { program := "ytlidbikdeboihaa", sum := "d795ae7287a4204702945039b300de1ccdee612fca47b920b967df402e06699f", func := "luminaire/luminairelaw56.NetworkWrites", spec := "networkWrites", inPlace := ["internal/abi.NoEscape", "internal/bytealg.MakeNoZero", "slices.overlaps[luminaire/network.Stream]"], unfollowed := true, recurses := true, apart := false, narrowed := true }
def NetworkWritesUptoSaid : Prop := networkWritesUptoRow.holds Try.pinned (OpenSpec.upto networkWritesSpec)

/-- 'luminairelaw56.NetworkReads', WHERE WHAT IT READS IS OF BULK AT MOST 1048576: true; the input reads as it did. -/
def networkReadsUptoRow : OpenClaim := { program := "ytlidbikdeboihaa", sum := "d795ae7287a4204702945039b300de1ccdee612fca47b920b967df402e06699f", func := "luminaire/luminairelaw56.NetworkReads", spec := "networkReads", inPlace := ["internal/abi.NoEscape", "internal/bytealg.MakeNoZero", "slices.overlaps[luminaire/network.Stream]"], unfollowed := true, recurses := true, apart := false, narrowed := true }
def NetworkReadsUptoSaid : Prop := networkReadsUptoRow.holds Try.pinned (OpenSpec.upto networkReadsSpec)

/-- 'luminairelaw56.NetworkReturns', WHERE WHAT IT READS IS OF BULK AT MOST 1048576: true; the input reads as it did. -/
def networkReturnsUptoRow : OpenClaim := { program := "ytlidbikdeboihaa", sum := "d795ae7287a4204702945039b300de1ccdee612fca47b920b967df402e06699f", func := "luminaire/luminairelaw56.NetworkReturns", spec := "networkReturns", inPlace := ["internal/abi.NoEscape", "internal/bytealg.MakeNoZero", "slices.overlaps[luminaire/network.Stream]"], unfollowed := true, recurses := true, apart := false, narrowed := true }
def NetworkReturnsUptoSaid : Prop := networkReturnsUptoRow.holds Try.pinned (OpenSpec.upto networkReturnsSpec)

end Rows
end Go.Proofs.Ytlidbikdeboihaa
