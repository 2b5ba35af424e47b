/-
  No cell of these rows narrows 'for every input' (looked for: loops, veiled, ifaces, maps, wideKeys, modest, calm, conditions, laid).
  DERIVED. THE GIVEN ROWS OF THIS SEAT. 11 by the template 'for every input the law returns true; each argument reads behind the call as it read before'; 0 by the template 'total and deterministic' (their statements: YtgfohogbechkkaaTotals.lean).
  GIVEN WITH THE SEED: the statements are not yours to turn. If you find one false, say at which input.
  Laid BY PROGRAM, IN A SANDBOX (cutbox-rows.mjs): the forced cells as the released guide's own fill.sh prints them over the translation 3cb43a48ccc44899… (all of the seat's roots in one cut). By AI agents, Wed Nov 11 2026. No macro, syntax, notation, axiom, sorry.
-/
import Derived.Test.YtgfohogbechkkaaChecked
import GoSem.Claim
import GoSem.ClaimJoined
import GoSem.ClaimMapViews
import Derived.JoinedTies
import Derived.KernelRfl
namespace Go.Proofs.Ytgfohogbechkkaa
/- THE CELL 'sum', in the pinned program and in every row, IS THE sha256 OF THE DUMP (.gsa) THAT YtgfohogbechkkaaProg.lean LOADS. Nothing in Lean hashes anything: it is a label: what it is worth is what the hold of that sum in a sandbox is worth. -/
noncomputable def Try.pinned : Pinned := { name := "ytgfohogbechkkaa", sum := "3cb43a48ccc44899af142cb76b5b0f764b4bb917615563ea645b9816db60d07d", checked := Try.checked }
namespace Rows
def none {H : Type} : Left H := { results := [], args := [] }

/-- 'luminairelaw57.ReceiverTakes': WHATEVER THE INPUT: true; the input reads as it did. -/
def receiverTakesSpec : ChangeSpec := { name := "receiverTakes", fn := fun _ => fun
  | [d1, d2, d3] => { results := [.lit (.bool true)], args := [d1, d2, d3] }
  | _ => none }
def receiverTakesRow : OpenClaim := { program := "ytgfohogbechkkaa", sum := "3cb43a48ccc44899af142cb76b5b0f764b4bb917615563ea645b9816db60d07d", func := "luminaire/luminairelaw57.ReceiverTakes", spec := "receiverTakes", inPlace := ["slices.overlaps[luminaire/receiver.Input]", "internal/abi.NoEscape", "internal/bytealg.MakeNoZero"], unfollowed := true, recurses := true, apart := false }
def ReceiverTakesSaid : Prop := receiverTakesRow.holds Try.pinned (OpenSpec.ofChange receiverTakesSpec)

/-- ITS FALSE NEIGHBOUR: 'it returns false'. Refute it at one input. -/
def receiverTakesWrong : ChangeSpec := { name := "receiverTakes", fn := fun _ => fun
  | [d1, d2, d3] => { results := [.lit (.bool false)], args := [d1, d2, d3] }
  | _ => none }
def ReceiverTakesWrongFalsely : Prop := receiverTakesRow.holds Try.pinned (OpenSpec.ofChange receiverTakesWrong)

/-- 'luminairelaw57.ReceiverRepeats': WHATEVER THE INPUT: true; the input reads as it did. -/
def receiverRepeatsSpec : ChangeSpec := { name := "receiverRepeats", fn := fun _ => fun
  | [d1, d2, d3] => { results := [.lit (.bool true)], args := [d1, d2, d3] }
  | _ => none }
def receiverRepeatsRow : OpenClaim := { program := "ytgfohogbechkkaa", sum := "3cb43a48ccc44899af142cb76b5b0f764b4bb917615563ea645b9816db60d07d", func := "luminaire/luminairelaw57.ReceiverRepeats", spec := "receiverRepeats", inPlace := ["slices.overlaps[luminaire/receiver.Input]", "internal/abi.NoEscape", "internal/bytealg.MakeNoZero"], unfollowed := true, recurses := true, apart := false }
def ReceiverRepeatsSaid : Prop := receiverRepeatsRow.holds Try.pinned (OpenSpec.ofChange receiverRepeatsSpec)

/-- ITS FALSE NEIGHBOUR: 'it returns false'. Refute it at one input. -/
def receiverRepeatsWrong : ChangeSpec := { name := "receiverRepeats", fn := fun _ => fun
  | [d1, d2, d3] => { results := [.lit (.bool false)], args := [d1, d2, d3] }
  | _ => none }
def ReceiverRepeatsWrongFalsely : Prop := receiverRepeatsRow.holds Try.pinned (OpenSpec.ofChange receiverRepeatsWrong)

/-- 'luminairelaw57.ReceiverFollows': WHATEVER THE INPUT: true; the input reads as it did. -/
def receiverFollowsSpec : ChangeSpec := { name := "receiverFollows", fn := fun _ => fun
  | [d1, d2, d3] => { results := [.lit (.bool true)], args := [d1, d2, d3] }
  | _ => none }
def receiverFollowsRow : OpenClaim := { program := "ytgfohogbechkkaa", sum := "3cb43a48ccc44899af142cb76b5b0f764b4bb917615563ea645b9816db60d07d", func := "luminaire/luminairelaw57.ReceiverFollows", spec := "receiverFollows", inPlace := ["slices.overlaps[luminaire/receiver.Input]", "internal/abi.NoEscape", "internal/bytealg.MakeNoZero"], unfollowed := true, recurses := true, apart := false }
def ReceiverFollowsSaid : Prop := receiverFollowsRow.holds Try.pinned (OpenSpec.ofChange receiverFollowsSpec)

/-- ITS FALSE NEIGHBOUR: 'it returns false'. Refute it at one input. -/
def receiverFollowsWrong : ChangeSpec := { name := "receiverFollows", fn := fun _ => fun
  | [d1, d2, d3] => { results := [.lit (.bool false)], args := [d1, d2, d3] }
  | _ => none }
def ReceiverFollowsWrongFalsely : Prop := receiverFollowsRow.holds Try.pinned (OpenSpec.ofChange receiverFollowsWrong)

/-- 'luminairelaw57.ReceiverShows': WHATEVER THE INPUT: true; the input reads as it did. -/
def receiverShowsSpec : ChangeSpec := { name := "receiverShows", fn := fun _ => fun
  | [d1, d2, d3] => { results := [.lit (.bool true)], args := [d1, d2, d3] }
  | _ => none }
def receiverShowsRow : OpenClaim := { program := "ytgfohogbechkkaa", sum := "3cb43a48ccc44899af142cb76b5b0f764b4bb917615563ea645b9816db60d07d", func := "luminaire/luminairelaw57.ReceiverShows", spec := "receiverShows", inPlace := ["slices.overlaps[luminaire/receiver.Input]", "internal/abi.NoEscape", "internal/bytealg.MakeNoZero"], unfollowed := true, recurses := true, apart := false }
def ReceiverShowsSaid : Prop := receiverShowsRow.holds Try.pinned (OpenSpec.ofChange receiverShowsSpec)

/-- ITS FALSE NEIGHBOUR: 'it returns false'. Refute it at one input. -/
def receiverShowsWrong : ChangeSpec := { name := "receiverShows", fn := fun _ => fun
  | [d1, d2, d3] => { results := [.lit (.bool false)], args := [d1, d2, d3] }
  | _ => none }
def ReceiverShowsWrongFalsely : Prop := receiverShowsRow.holds Try.pinned (OpenSpec.ofChange receiverShowsWrong)

/-- 'luminairelaw57.ReceiverForgets': WHATEVER THE INPUT: true; the input reads as it did. -/
def receiverForgetsSpec : ChangeSpec := { name := "receiverForgets", fn := fun _ => fun
  | [d1, d2] => { results := [.lit (.bool true)], args := [d1, d2] }
  | _ => none }
def receiverForgetsRow : OpenClaim := { program := "ytgfohogbechkkaa", sum := "3cb43a48ccc44899af142cb76b5b0f764b4bb917615563ea645b9816db60d07d", func := "luminaire/luminairelaw57.ReceiverForgets", spec := "receiverForgets", inPlace := ["slices.overlaps[luminaire/receiver.Input]", "internal/abi.NoEscape", "internal/bytealg.MakeNoZero"], unfollowed := true, recurses := true, apart := false }
def ReceiverForgetsSaid : Prop := receiverForgetsRow.holds Try.pinned (OpenSpec.ofChange receiverForgetsSpec)

/-- ITS FALSE NEIGHBOUR: 'it returns false'. Refute it at one input. -/
def receiverForgetsWrong : ChangeSpec := { name := "receiverForgets", fn := fun _ => fun
  | [d1, d2] => { results := [.lit (.bool false)], args := [d1, d2] }
  | _ => none }
def ReceiverForgetsWrongFalsely : Prop := receiverForgetsRow.holds Try.pinned (OpenSpec.ofChange receiverForgetsWrong)

/-- 'luminairelaw57.ReceiverHides': WHATEVER THE INPUT: true; the input reads as it did. -/
def receiverHidesSpec : ChangeSpec := { name := "receiverHides", fn := fun _ => fun
  | [d1, d2, d3] => { results := [.lit (.bool true)], args := [d1, d2, d3] }
  | _ => none }
def receiverHidesRow : OpenClaim := { program := "ytgfohogbechkkaa", sum := "3cb43a48ccc44899af142cb76b5b0f764b4bb917615563ea645b9816db60d07d", func := "luminaire/luminairelaw57.ReceiverHides", spec := "receiverHides", inPlace := ["slices.overlaps[luminaire/receiver.Input]", "internal/abi.NoEscape", "internal/bytealg.MakeNoZero"], unfollowed := true, recurses := true, apart := false }
def ReceiverHidesSaid : Prop := receiverHidesRow.holds Try.pinned (OpenSpec.ofChange receiverHidesSpec)

/-- ITS FALSE NEIGHBOUR: 'it returns false'. Refute it at one input. -/
def receiverHidesWrong : ChangeSpec := { name := "receiverHides", fn := fun _ => fun
  | [d1, d2, d3] => { results := [.lit (.bool false)], args := [d1, d2, d3] }
  | _ => none }
def ReceiverHidesWrongFalsely : Prop := receiverHidesRow.holds Try.pinned (OpenSpec.ofChange receiverHidesWrong)

/-- 'luminairelaw57.ReceiverAgrees': WHATEVER THE INPUT: true; the input reads as it did. -/
def receiverAgreesSpec : ChangeSpec := { name := "receiverAgrees", fn := fun _ => fun
  | [d1, d2, d3] => { results := [.lit (.bool true)], args := [d1, d2, d3] }
  | _ => none }
def receiverAgreesRow : OpenClaim := { program := "ytgfohogbechkkaa", sum := "3cb43a48ccc44899af142cb76b5b0f764b4bb917615563ea645b9816db60d07d", func := "luminaire/luminairelaw57.ReceiverAgrees", spec := "receiverAgrees", inPlace := ["slices.overlaps[luminaire/receiver.Input]", "internal/abi.NoEscape", "internal/bytealg.MakeNoZero", "slices.overlaps[luminaire/network.Stream]"], unfollowed := true, recurses := true, apart := false }
def ReceiverAgreesSaid : Prop := receiverAgreesRow.holds Try.pinned (OpenSpec.ofChange receiverAgreesSpec)

/-- ITS FALSE NEIGHBOUR: 'it returns false'. Refute it at one input. -/
def receiverAgreesWrong : ChangeSpec := { name := "receiverAgrees", fn := fun _ => fun
  | [d1, d2, d3] => { results := [.lit (.bool false)], args := [d1, d2, d3] }
  | _ => none }
def ReceiverAgreesWrongFalsely : Prop := receiverAgreesRow.holds Try.pinned (OpenSpec.ofChange receiverAgreesWrong)

/-- 'luminairetop.TopNetworkDelivers': WHATEVER THE INPUT: true; the input reads as it did. -/
def topNetworkDeliversSpec : ChangeSpec := { name := "topNetworkDelivers", fn := fun _ => fun
  | [d] => { results := [.lit (.bool true)], args := [d] }
  | _ => none }
def topNetworkDeliversRow : OpenClaim := { program := "ytgfohogbechkkaa", sum := "3cb43a48ccc44899af142cb76b5b0f764b4bb917615563ea645b9816db60d07d", func := "luminaire/luminairetop.TopNetworkDelivers", spec := "topNetworkDelivers", inPlace := ["internal/abi.NoEscape", "internal/bytealg.MakeNoZero", "slices.overlaps[luminaire/network.Stream]", "slices.overlaps[luminaire/receiver.Input]"], unfollowed := true, recurses := true, apart := false }
def TopNetworkDeliversSaid : Prop := topNetworkDeliversRow.holds Try.pinned (OpenSpec.ofChange topNetworkDeliversSpec)

/-- ITS FALSE NEIGHBOUR: 'it returns false'. Refute it at one input. -/
def topNetworkDeliversWrong : ChangeSpec := { name := "topNetworkDelivers", fn := fun _ => fun
  | [d] => { results := [.lit (.bool false)], args := [d] }
  | _ => none }
def TopNetworkDeliversWrongFalsely : Prop := topNetworkDeliversRow.holds Try.pinned (OpenSpec.ofChange topNetworkDeliversWrong)

/-- 'luminairetop.TopNetworkTogether': WHATEVER THE INPUT: true; the input reads as it did. -/
def topNetworkTogetherSpec : ChangeSpec := { name := "topNetworkTogether", fn := fun _ => fun
  | [d1, d2, d3] => { results := [.lit (.bool true)], args := [d1, d2, d3] }
  | _ => none }
def topNetworkTogetherRow : OpenClaim := { program := "ytgfohogbechkkaa", sum := "3cb43a48ccc44899af142cb76b5b0f764b4bb917615563ea645b9816db60d07d", func := "luminaire/luminairetop.TopNetworkTogether", spec := "topNetworkTogether", inPlace := ["internal/abi.NoEscape", "internal/bytealg.MakeNoZero", "slices.overlaps[luminaire/network.Stream]", "slices.overlaps[luminaire/receiver.Input]"], unfollowed := true, recurses := true, apart := false }
def TopNetworkTogetherSaid : Prop := topNetworkTogetherRow.holds Try.pinned (OpenSpec.ofChange topNetworkTogetherSpec)

/-- ITS FALSE NEIGHBOUR: 'it returns false'. Refute it at one input. -/
def topNetworkTogetherWrong : ChangeSpec := { name := "topNetworkTogether", fn := fun _ => fun
  | [d1, d2, d3] => { results := [.lit (.bool false)], args := [d1, d2, d3] }
  | _ => none }
def TopNetworkTogetherWrongFalsely : Prop := topNetworkTogetherRow.holds Try.pinned (OpenSpec.ofChange topNetworkTogetherWrong)

/-- 'luminairetop.TopNetworkMerged': WHATEVER THE INPUT: true; the input reads as it did. -/
def topNetworkMergedSpec : ChangeSpec := { name := "topNetworkMerged", fn := fun _ => fun
  | [d1, d2, d3] => { results := [.lit (.bool true)], args := [d1, d2, d3] }
  | _ => none }
def topNetworkMergedRow : OpenClaim := { program := "ytgfohogbechkkaa", sum := "3cb43a48ccc44899af142cb76b5b0f764b4bb917615563ea645b9816db60d07d", func := "luminaire/luminairetop.TopNetworkMerged", spec := "topNetworkMerged", inPlace := ["internal/abi.NoEscape", "internal/bytealg.MakeNoZero", "slices.overlaps[luminaire/network.Stream]", "slices.overlaps[luminaire/receiver.Input]"], unfollowed := true, recurses := true, apart := false }
def TopNetworkMergedSaid : Prop := topNetworkMergedRow.holds Try.pinned (OpenSpec.ofChange topNetworkMergedSpec)

/-- ITS FALSE NEIGHBOUR: 'it returns false'. Refute it at one input. -/
def topNetworkMergedWrong : ChangeSpec := { name := "topNetworkMerged", fn := fun _ => fun
  | [d1, d2, d3] => { results := [.lit (.bool false)], args := [d1, d2, d3] }
  | _ => none }
def TopNetworkMergedWrongFalsely : Prop := topNetworkMergedRow.holds Try.pinned (OpenSpec.ofChange topNetworkMergedWrong)

/-- 'luminairetop.TopNetworkPriorities': WHATEVER THE INPUT: true; the input reads as it did. -/
def topNetworkPrioritiesSpec : ChangeSpec := { name := "topNetworkPriorities", fn := fun _ => fun
  | [d1, d2, d3] => { results := [.lit (.bool true)], args := [d1, d2, d3] }
  | _ => none }
def topNetworkPrioritiesRow : OpenClaim := { program := "ytgfohogbechkkaa", sum := "3cb43a48ccc44899af142cb76b5b0f764b4bb917615563ea645b9816db60d07d", func := "luminaire/luminairetop.TopNetworkPriorities", spec := "topNetworkPriorities", inPlace := ["internal/abi.NoEscape", "internal/bytealg.MakeNoZero", "slices.overlaps[luminaire/network.Stream]", "slices.overlaps[luminaire/receiver.Input]"], unfollowed := true, recurses := true, apart := false }
def TopNetworkPrioritiesSaid : Prop := topNetworkPrioritiesRow.holds Try.pinned (OpenSpec.ofChange topNetworkPrioritiesSpec)

/-- ITS FALSE NEIGHBOUR: 'it returns false'. Refute it at one input. -/
def topNetworkPrioritiesWrong : ChangeSpec := { name := "topNetworkPriorities", fn := fun _ => fun
  | [d1, d2, d3] => { results := [.lit (.bool false)], args := [d1, d2, d3] }
  | _ => none }
def TopNetworkPrioritiesWrongFalsely : Prop := topNetworkPrioritiesRow.holds Try.pinned (OpenSpec.ofChange topNetworkPrioritiesWrong)

/- THE SECOND FORM. 'bulk': how many values and letters a reading holds, each counted each time it is reached (what is shared counts as often as it is met; a slice's spare places count too). A statement '..UptoSaid' is the law's where the arguments, and the package variables that the reading takes, are together of bulk at most 1048576: NARROWER than '..Said'. Prove '..Said' where nothing that the law and all that it calls make is longer than what came in: it says more and counts as full. Else prove '..UptoSaid'. A law counts once. -/
mutual
def uptoBulk {H : Type} : DataW H → Nat
  | .lit (.string bytes) => bytes.length + 1
  | .lit _ => 1
  | .nil => 1
  | .ptr d => uptoBulk d + 1
  | .slice elems spare => uptoBulkAll elems + uptoBulkAll spare + 1
  | .agg parts => uptoBulkAll parts + 1
  | .iface _ d => uptoBulk d + 1
  | .map entries => uptoBulkEntries entries + 1
  | .held _ => 1
def uptoBulkAll {H : Type} : List (DataW H) → Nat
  | [] => 0
  | d :: r => uptoBulk d + uptoBulkAll r
def uptoBulkEntries {H : Type} : List (Lit × DataW H) → Nat
  | [] => 0
  | x :: r => uptoBulkEntry x + uptoBulkEntries r
def uptoBulkEntry {H : Type} : Lit × DataW H → Nat
  | (.string bytes, d) => bytes.length + uptoBulk d + 1
  | (_, d) => uptoBulk d + 1
 end
def uptoSmall : (H : Type) → List (DataW H) → Bool := fun _ ds => decide (uptoBulkAll ds ≤ 1048576)
def OpenSpec.upto (s : _root_.Go.ChangeSpec) : _root_.Go.OpenSpec := { _root_.Go.OpenSpec.ofChange s with cond := some uptoSmall }

/-- 'luminairelaw57.ReceiverTakes', WHERE WHAT IT READS IS OF BULK AT MOST 1048576: true; the input reads as it did. -/
def receiverTakesUptoRow : OpenClaim := { program := "ytgfohogbechkkaa", sum := "3cb43a48ccc44899af142cb76b5b0f764b4bb917615563ea645b9816db60d07d", func := "luminaire/luminairelaw57.ReceiverTakes", spec := "receiverTakes", inPlace := ["slices.overlaps[luminaire/receiver.Input]", "internal/abi.NoEscape", "internal/bytealg.MakeNoZero"], unfollowed := true, recurses := true, apart := false, narrowed := true }
def ReceiverTakesUptoSaid : Prop := receiverTakesUptoRow.holds Try.pinned (OpenSpec.upto receiverTakesSpec)

/-- 'luminairelaw57.ReceiverRepeats', WHERE WHAT IT READS IS OF BULK AT MOST 1048576: true; the input reads as it did. -/
def receiverRepeatsUptoRow : OpenClaim := { program := "ytgfohogbechkkaa", sum := "3cb43a48ccc44899af142cb76b5b0f764b4bb917615563ea645b9816db60d07d", func := "luminaire/luminairelaw57.ReceiverRepeats", spec := "receiverRepeats", inPlace := ["slices.overlaps[luminaire/receiver.Input]", "internal/abi.NoEscape", "internal/bytealg.MakeNoZero"], unfollowed := true, recurses := true, apart := false, narrowed := true }
def ReceiverRepeatsUptoSaid : Prop := receiverRepeatsUptoRow.holds Try.pinned (OpenSpec.upto receiverRepeatsSpec)

/-- 'luminairelaw57.ReceiverFollows', WHERE WHAT IT READS IS OF BULK AT MOST 1048576: true; the input reads as it did. -/
def receiverFollowsUptoRow : OpenClaim := { program := "ytgfohogbechkkaa", sum := "3cb43a48ccc44899af142cb76b5b0f764b4bb917615563ea645b9816db60d07d", func := "luminaire/luminairelaw57.ReceiverFollows", spec := "receiverFollows", inPlace := ["slices.overlaps[luminaire/receiver.Input]", "internal/abi.NoEscape", "internal/bytealg.MakeNoZero"], unfollowed := true, recurses := true, apart := false, narrowed := true }
def ReceiverFollowsUptoSaid : Prop := receiverFollowsUptoRow.holds Try.pinned (OpenSpec.upto receiverFollowsSpec)

/-- 'luminairelaw57.ReceiverShows', WHERE WHAT IT READS IS OF BULK AT MOST 1048576: true; the input reads as it did. -/
def receiverShowsUptoRow : OpenClaim := { program := "ytgfohogbechkkaa", sum := "3cb43a48ccc44899af142cb76b5b0f764b4bb917615563ea645b9816db60d07d", func := "luminaire/luminairelaw57.ReceiverShows", spec := "receiverShows", inPlace := ["slices.overlaps[luminaire/receiver.Input]", "internal/abi.NoEscape", "internal/bytealg.MakeNoZero"], unfollowed := true, recurses := true, apart := false, narrowed := true }
def ReceiverShowsUptoSaid : Prop := receiverShowsUptoRow.holds Try.pinned (OpenSpec.upto receiverShowsSpec)

/-- 'luminairelaw57.ReceiverForgets', WHERE WHAT IT READS IS OF BULK AT MOST 1048576: true; the input reads as it did. -/
def receiverForgetsUptoRow : OpenClaim := { program := "ytgfohogbechkkaa", sum := "3cb43a48ccc44899af142cb76b5b0f764b4bb917615563ea645b9816db60d07d", func := "luminaire/luminairelaw57.ReceiverForgets", spec := "receiverForgets", inPlace := ["slices.overlaps[luminaire/receiver.Input]", "internal/abi.NoEscape", "internal/bytealg.MakeNoZero"], unfollowed := true, recurses := true, apart := false, narrowed := true }
def ReceiverForgetsUptoSaid : Prop := receiverForgetsUptoRow.holds Try.pinned (OpenSpec.upto receiverForgetsSpec)

/-- 'luminairelaw57.ReceiverHides', WHERE WHAT IT READS IS OF BULK AT MOST 1048576: true; the input reads as it did. -/
def receiverHidesUptoRow : OpenClaim := { program := "ytgfohogbechkkaa", sum := "3cb43a48ccc44899af142cb76b5b0f764b4bb917615563ea645b9816db60d07d", func := "luminaire/luminairelaw57.ReceiverHides", spec := "receiverHides", inPlace := ["slices.overlaps[luminaire/receiver.Input]", "internal/abi.NoEscape", "internal/bytealg.MakeNoZero"], unfollowed := true, recurses := true, apart := false, narrowed := true }
def ReceiverHidesUptoSaid : Prop := receiverHidesUptoRow.holds Try.pinned (OpenSpec.upto receiverHidesSpec)

/-- 'luminairelaw57.ReceiverAgrees', WHERE WHAT IT READS IS OF BULK AT MOST 1048576: true; the input reads as it did. -/
def receiverAgreesUptoRow : OpenClaim := { program := "ytgfohogbechkkaa", sum := "3cb43a48ccc44899af142cb76b5b0f764b4bb917615563ea645b9816db60d07d", func := "luminaire/luminairelaw57.ReceiverAgrees", spec := "receiverAgrees", inPlace := ["slices.overlaps[luminaire/receiver.Input]", "internal/abi.NoEscape", "internal/bytealg.MakeNoZero", "slices.overlaps[luminaire/network.Stream]"], unfollowed := true, recurses := true, apart := false, narrowed := true }
def ReceiverAgreesUptoSaid : Prop := receiverAgreesUptoRow.holds Try.pinned (OpenSpec.upto receiverAgreesSpec)

/-- 'luminairetop.TopNetworkDelivers', WHERE WHAT IT READS IS OF BULK AT MOST 1048576: true; the input reads as it did. -/
def topNetworkDeliversUptoRow : OpenClaim := { program := "ytgfohogbechkkaa", sum := "3cb43a48ccc44899af142cb76b5b0f764b4bb917615563ea645b9816db60d07d", func := "luminaire/luminairetop.TopNetworkDelivers", spec := "topNetworkDelivers", inPlace := ["internal/abi.NoEscape", "internal/bytealg.MakeNoZero", "slices.overlaps[luminaire/network.Stream]", "slices.overlaps[luminaire/receiver.Input]"], unfollowed := true, recurses := true, apart := false, narrowed := true }
def TopNetworkDeliversUptoSaid : Prop := topNetworkDeliversUptoRow.holds Try.pinned (OpenSpec.upto topNetworkDeliversSpec)

/-- 'luminairetop.TopNetworkTogether', WHERE WHAT IT READS IS OF BULK AT MOST 1048576: true; the input reads as it did. -/
def topNetworkTogetherUptoRow : OpenClaim := { program := "ytgfohogbechkkaa", sum := "3cb43a48ccc44899af142cb76b5b0f764b4bb917615563ea645b9816db60d07d", func := "luminaire/luminairetop.TopNetworkTogether", spec := "topNetworkTogether", inPlace := ["internal/abi.NoEscape", "internal/bytealg.MakeNoZero", "slices.overlaps[luminaire/network.Stream]", "slices.overlaps[luminaire/receiver.Input]"], unfollowed := true, recurses := true, apart := false, narrowed := true }
def TopNetworkTogetherUptoSaid : Prop := topNetworkTogetherUptoRow.holds Try.pinned (OpenSpec.upto topNetworkTogetherSpec)

/-- 'luminairetop.TopNetworkMerged', WHERE WHAT IT READS IS OF BULK AT MOST 1048576: true; the input reads as it did. -/
def topNetworkMergedUptoRow : OpenClaim := { program := "ytgfohogbechkkaa", sum := "3cb43a48ccc44899af142cb76b5b0f764b4bb917615563ea645b9816db60d07d", func := "luminaire/luminairetop.TopNetworkMerged", spec := "topNetworkMerged", inPlace := ["internal/abi.NoEscape", "internal/bytealg.MakeNoZero", "slices.overlaps[luminaire/network.Stream]", "slices.overlaps[luminaire/receiver.Input]"], unfollowed := true, recurses := true, apart := false, narrowed := true }
def TopNetworkMergedUptoSaid : Prop := topNetworkMergedUptoRow.holds Try.pinned (OpenSpec.upto topNetworkMergedSpec)

/-- 'luminairetop.TopNetworkPriorities', WHERE WHAT IT READS IS OF BULK AT MOST 1048576: true; the input reads as it did. -/
def topNetworkPrioritiesUptoRow : OpenClaim := { program := "ytgfohogbechkkaa", sum := "3cb43a48ccc44899af142cb76b5b0f764b4bb917615563ea645b9816db60d07d", func := "luminaire/luminairetop.TopNetworkPriorities", spec := "topNetworkPriorities", inPlace := ["internal/abi.NoEscape", "internal/bytealg.MakeNoZero", "slices.overlaps[luminaire/network.Stream]", "slices.overlaps[luminaire/receiver.Input]"], unfollowed := true, recurses := true, apart := false, narrowed := true }
def TopNetworkPrioritiesUptoSaid : Prop := topNetworkPrioritiesUptoRow.holds Try.pinned (OpenSpec.upto topNetworkPrioritiesSpec)

end Rows
end Go.Proofs.Ytgfohogbechkkaa
