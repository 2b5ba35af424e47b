/-
  NARROWER THAN 'FOR EVERY INPUT', by the rows' own cells (each row's printed sentence says how): SelectionChooses: laid · SelectionAttrs: laid · SelectionParams: laid · SelectionFans: laid · SelectionOnce: laid · SelectionClasses: laid · SelectionRanges: laid · SelectionEntries: laid.
  DERIVED. THE GIVEN ROWS OF THIS SEAT. 8 by the template 'for every input the law returns true; each argument reads behind the call as it read before'; 0 by the template 'total and deterministic' (their statements: YtnaemmpcffnbkaaGreatDoorTotals.lean).
  GIVEN WITH THE SEED: the statements are not yours to turn. If you find one false, say at which input.
  Laid BY PROGRAM, IN A SANDBOX (cutbox-rows.mjs): the forced cells as the released guide's own fill.sh prints them over the translation bb61f81543f44512… (all of the seat's roots in one cut). By AI agents, Wed Nov 11 2026. No macro, syntax, notation, axiom, sorry.
-/
import Derived.Test.YtnaemmpcffnbkaaGreatDoorChecked
import GoSem.PinnedTables
import GoSem.Claim
import GoSem.ClaimJoined
import GoSem.ClaimMapViews
import Derived.JoinedTies
import Derived.KernelRfl
namespace Go.Proofs.YtnaemmpcffnbkaaGreatDoor
/- THE CELL 'sum', in the pinned program and in every row, IS THE sha256 OF THE DUMP (.gsa) THAT YtnaemmpcffnbkaaGreatDoorProg.lean LOADS. Nothing in Lean hashes anything: it is a label: what it is worth is what the hold of that sum in a sandbox is worth. -/
noncomputable def Tryz.pinned : Pinned := { name := "ytnaemmpcffnbkaagreatdoor", sum := "bb61f81543f44512ec657df38210c37f89274f97df1319f7253b6f9f122d667b", checked := Tryz.checked }
namespace Rows
def none {H : Type} : Left H := { results := [], args := [] }

/- WHAT THE LISTED PACKAGE-LEVEL VARIABLES READ AS WHEN THE CALL BEGINS. Each datum BY PROGRAM (the guide's laid-datum.mjs) off the statement by which the dump's own 'gosem.cut.vars' lays the variable. In a bare row this is a premise. The card (YtnaemmpcffnbkaaGreatDoorCards.lean) ties it to the program's text. -/
def laid_unicode_utf8_acceptRanges {H : Type} : DataW H := .agg [.agg [.lit (.int .u8 128), .lit (.int .u8 191)], .agg [.lit (.int .u8 160), .lit (.int .u8 191)], .agg [.lit (.int .u8 128), .lit (.int .u8 159)], .agg [.lit (.int .u8 144), .lit (.int .u8 191)], .agg [.lit (.int .u8 128), .lit (.int .u8 143)], .agg [.lit (.int .u8 0), .lit (.int .u8 0)], .agg [.lit (.int .u8 0), .lit (.int .u8 0)], .agg [.lit (.int .u8 0), .lit (.int .u8 0)], .agg [.lit (.int .u8 0), .lit (.int .u8 0)], .agg [.lit (.int .u8 0), .lit (.int .u8 0)], .agg [.lit (.int .u8 0), .lit (.int .u8 0)], .agg [.lit (.int .u8 0), .lit (.int .u8 0)], .agg [.lit (.int .u8 0), .lit (.int .u8 0)], .agg [.lit (.int .u8 0), .lit (.int .u8 0)], .agg [.lit (.int .u8 0), .lit (.int .u8 0)], .agg [.lit (.int .u8 0), .lit (.int .u8 0)]]
/-- One of Go's own tables, pinned by name: the form's constant. -/
def laid_unicode_utf8_first : DataW Unit := Go.Pinned.utf8First

/-- 'luminairelaw41.SelectionChooses': WHATEVER THE INPUT: true; the input reads as it did. -/
def selectionChoosesSpec : ChangeSpec := { name := "selectionChooses", fn := fun _ => fun
  | [d1, d2] => { results := [.lit (.bool true)], args := [d1, d2] }
  | _ => none }
def selectionChoosesRow : OpenClaim := { program := "ytnaemmpcffnbkaagreatdoor", sum := "bb61f81543f44512ec657df38210c37f89274f97df1319f7253b6f9f122d667b", func := "luminaire/luminairelaw41.SelectionChooses", spec := "selectionChooses", inPlace := ["internal/bytealg.IndexByteString", "internal/bytealg.IndexString"], unfollowed := true, recurses := true, named := ["unicode/utf8.first", "unicode/utf8.acceptRanges", "internal/bytealg.MaxLen"], apart := false, laid := [("unicode/utf8.acceptRanges", laid_unicode_utf8_acceptRanges), ("unicode/utf8.first", laid_unicode_utf8_first)] }
def SelectionChoosesSaid : Prop := selectionChoosesRow.holds Tryz.pinned (OpenSpec.ofChange selectionChoosesSpec)

/-- ITS FALSE NEIGHBOUR: 'it returns false'. Refute it at one input. -/
def selectionChoosesWrong : ChangeSpec := { name := "selectionChooses", fn := fun _ => fun
  | [d1, d2] => { results := [.lit (.bool false)], args := [d1, d2] }
  | _ => none }
def SelectionChoosesWrongFalsely : Prop := selectionChoosesRow.holds Tryz.pinned (OpenSpec.ofChange selectionChoosesWrong)

/-- 'luminairelaw41.SelectionAttrs': WHATEVER THE INPUT: true; the input reads as it did. -/
def selectionAttrsSpec : ChangeSpec := { name := "selectionAttrs", fn := fun _ => fun
  | [d1, d2, d3] => { results := [.lit (.bool true)], args := [d1, d2, d3] }
  | _ => none }
def selectionAttrsRow : OpenClaim := { program := "ytnaemmpcffnbkaagreatdoor", sum := "bb61f81543f44512ec657df38210c37f89274f97df1319f7253b6f9f122d667b", func := "luminaire/luminairelaw41.SelectionAttrs", spec := "selectionAttrs", inPlace := ["internal/bytealg.IndexByteString", "internal/bytealg.IndexString"], unfollowed := true, recurses := true, named := ["unicode/utf8.first", "unicode/utf8.acceptRanges", "internal/bytealg.MaxLen"], apart := false, laid := [("unicode/utf8.acceptRanges", laid_unicode_utf8_acceptRanges), ("unicode/utf8.first", laid_unicode_utf8_first)] }
def SelectionAttrsSaid : Prop := selectionAttrsRow.holds Tryz.pinned (OpenSpec.ofChange selectionAttrsSpec)

/-- ITS FALSE NEIGHBOUR: 'it returns false'. Refute it at one input. -/
def selectionAttrsWrong : ChangeSpec := { name := "selectionAttrs", fn := fun _ => fun
  | [d1, d2, d3] => { results := [.lit (.bool false)], args := [d1, d2, d3] }
  | _ => none }
def SelectionAttrsWrongFalsely : Prop := selectionAttrsRow.holds Tryz.pinned (OpenSpec.ofChange selectionAttrsWrong)

/-- 'luminairelaw41.SelectionParams': WHATEVER THE INPUT: true; the input reads as it did. -/
def selectionParamsSpec : ChangeSpec := { name := "selectionParams", fn := fun _ => fun
  | [d1, d2] => { results := [.lit (.bool true)], args := [d1, d2] }
  | _ => none }
def selectionParamsRow : OpenClaim := { program := "ytnaemmpcffnbkaagreatdoor", sum := "bb61f81543f44512ec657df38210c37f89274f97df1319f7253b6f9f122d667b", func := "luminaire/luminairelaw41.SelectionParams", spec := "selectionParams", inPlace := ["internal/bytealg.IndexByteString", "internal/bytealg.IndexString"], unfollowed := true, recurses := true, named := ["unicode/utf8.first", "unicode/utf8.acceptRanges", "internal/bytealg.MaxLen"], apart := false, laid := [("unicode/utf8.acceptRanges", laid_unicode_utf8_acceptRanges), ("unicode/utf8.first", laid_unicode_utf8_first)] }
def SelectionParamsSaid : Prop := selectionParamsRow.holds Tryz.pinned (OpenSpec.ofChange selectionParamsSpec)

/-- ITS FALSE NEIGHBOUR: 'it returns false'. Refute it at one input. -/
def selectionParamsWrong : ChangeSpec := { name := "selectionParams", fn := fun _ => fun
  | [d1, d2] => { results := [.lit (.bool false)], args := [d1, d2] }
  | _ => none }
def SelectionParamsWrongFalsely : Prop := selectionParamsRow.holds Tryz.pinned (OpenSpec.ofChange selectionParamsWrong)

/-- 'luminairelaw41.SelectionFans': WHATEVER THE INPUT: true; the input reads as it did. -/
def selectionFansSpec : ChangeSpec := { name := "selectionFans", fn := fun _ => fun
  | [d1, d2, d3] => { results := [.lit (.bool true)], args := [d1, d2, d3] }
  | _ => none }
def selectionFansRow : OpenClaim := { program := "ytnaemmpcffnbkaagreatdoor", sum := "bb61f81543f44512ec657df38210c37f89274f97df1319f7253b6f9f122d667b", func := "luminaire/luminairelaw41.SelectionFans", spec := "selectionFans", inPlace := ["internal/bytealg.IndexByteString", "internal/bytealg.IndexString"], unfollowed := true, recurses := true, named := ["unicode/utf8.first", "unicode/utf8.acceptRanges", "internal/bytealg.MaxLen"], apart := false, laid := [("unicode/utf8.acceptRanges", laid_unicode_utf8_acceptRanges), ("unicode/utf8.first", laid_unicode_utf8_first)] }
def SelectionFansSaid : Prop := selectionFansRow.holds Tryz.pinned (OpenSpec.ofChange selectionFansSpec)

/-- ITS FALSE NEIGHBOUR: 'it returns false'. Refute it at one input. -/
def selectionFansWrong : ChangeSpec := { name := "selectionFans", fn := fun _ => fun
  | [d1, d2, d3] => { results := [.lit (.bool false)], args := [d1, d2, d3] }
  | _ => none }
def SelectionFansWrongFalsely : Prop := selectionFansRow.holds Tryz.pinned (OpenSpec.ofChange selectionFansWrong)

/-- 'luminairelaw41.SelectionOnce': WHATEVER THE INPUT: true; the input reads as it did. -/
def selectionOnceSpec : ChangeSpec := { name := "selectionOnce", fn := fun _ => fun
  | [d1, d2, d3] => { results := [.lit (.bool true)], args := [d1, d2, d3] }
  | _ => none }
def selectionOnceRow : OpenClaim := { program := "ytnaemmpcffnbkaagreatdoor", sum := "bb61f81543f44512ec657df38210c37f89274f97df1319f7253b6f9f122d667b", func := "luminaire/luminairelaw41.SelectionOnce", spec := "selectionOnce", inPlace := ["internal/bytealg.IndexByteString", "internal/bytealg.IndexString"], unfollowed := true, recurses := true, named := ["unicode/utf8.first", "unicode/utf8.acceptRanges", "internal/bytealg.MaxLen"], apart := false, laid := [("unicode/utf8.acceptRanges", laid_unicode_utf8_acceptRanges), ("unicode/utf8.first", laid_unicode_utf8_first)] }
def SelectionOnceSaid : Prop := selectionOnceRow.holds Tryz.pinned (OpenSpec.ofChange selectionOnceSpec)

/-- ITS FALSE NEIGHBOUR: 'it returns false'. Refute it at one input. -/
def selectionOnceWrong : ChangeSpec := { name := "selectionOnce", fn := fun _ => fun
  | [d1, d2, d3] => { results := [.lit (.bool false)], args := [d1, d2, d3] }
  | _ => none }
def SelectionOnceWrongFalsely : Prop := selectionOnceRow.holds Tryz.pinned (OpenSpec.ofChange selectionOnceWrong)

/-- 'luminairelaw41.SelectionClasses': WHATEVER THE INPUT: true; the input reads as it did. -/
def selectionClassesSpec : ChangeSpec := { name := "selectionClasses", fn := fun _ => fun
  | [d1, d2] => { results := [.lit (.bool true)], args := [d1, d2] }
  | _ => none }
def selectionClassesRow : OpenClaim := { program := "ytnaemmpcffnbkaagreatdoor", sum := "bb61f81543f44512ec657df38210c37f89274f97df1319f7253b6f9f122d667b", func := "luminaire/luminairelaw41.SelectionClasses", spec := "selectionClasses", inPlace := ["internal/bytealg.IndexByteString", "internal/bytealg.IndexString"], unfollowed := true, recurses := true, named := ["unicode/utf8.first", "unicode/utf8.acceptRanges", "internal/bytealg.MaxLen"], apart := false, laid := [("unicode/utf8.acceptRanges", laid_unicode_utf8_acceptRanges), ("unicode/utf8.first", laid_unicode_utf8_first)] }
def SelectionClassesSaid : Prop := selectionClassesRow.holds Tryz.pinned (OpenSpec.ofChange selectionClassesSpec)

/-- ITS FALSE NEIGHBOUR: 'it returns false'. Refute it at one input. -/
def selectionClassesWrong : ChangeSpec := { name := "selectionClasses", fn := fun _ => fun
  | [d1, d2] => { results := [.lit (.bool false)], args := [d1, d2] }
  | _ => none }
def SelectionClassesWrongFalsely : Prop := selectionClassesRow.holds Tryz.pinned (OpenSpec.ofChange selectionClassesWrong)

/-- 'luminairelaw41.SelectionRanges': WHATEVER THE INPUT: true; the input reads as it did. -/
def selectionRangesSpec : ChangeSpec := { name := "selectionRanges", fn := fun _ => fun
  | [d] => { results := [.lit (.bool true)], args := [d] }
  | _ => none }
def selectionRangesRow : OpenClaim := { program := "ytnaemmpcffnbkaagreatdoor", sum := "bb61f81543f44512ec657df38210c37f89274f97df1319f7253b6f9f122d667b", func := "luminaire/luminairelaw41.SelectionRanges", spec := "selectionRanges", inPlace := ["internal/bytealg.IndexByteString", "internal/bytealg.IndexString"], unfollowed := true, recurses := true, named := ["unicode/utf8.first", "unicode/utf8.acceptRanges", "internal/bytealg.MaxLen"], apart := false, laid := [("unicode/utf8.acceptRanges", laid_unicode_utf8_acceptRanges), ("unicode/utf8.first", laid_unicode_utf8_first)] }
def SelectionRangesSaid : Prop := selectionRangesRow.holds Tryz.pinned (OpenSpec.ofChange selectionRangesSpec)

/-- ITS FALSE NEIGHBOUR: 'it returns false'. Refute it at one input. -/
def selectionRangesWrong : ChangeSpec := { name := "selectionRanges", fn := fun _ => fun
  | [d] => { results := [.lit (.bool false)], args := [d] }
  | _ => none }
def SelectionRangesWrongFalsely : Prop := selectionRangesRow.holds Tryz.pinned (OpenSpec.ofChange selectionRangesWrong)

/-- 'luminairelaw41.SelectionEntries': WHATEVER THE INPUT: true; the input reads as it did. -/
def selectionEntriesSpec : ChangeSpec := { name := "selectionEntries", fn := fun _ => fun
  | [d1, d2] => { results := [.lit (.bool true)], args := [d1, d2] }
  | _ => none }
def selectionEntriesRow : OpenClaim := { program := "ytnaemmpcffnbkaagreatdoor", sum := "bb61f81543f44512ec657df38210c37f89274f97df1319f7253b6f9f122d667b", func := "luminaire/luminairelaw41.SelectionEntries", spec := "selectionEntries", inPlace := ["internal/bytealg.IndexByteString", "internal/bytealg.IndexString"], unfollowed := true, recurses := true, named := ["unicode/utf8.first", "unicode/utf8.acceptRanges", "internal/bytealg.MaxLen"], apart := false, laid := [("unicode/utf8.acceptRanges", laid_unicode_utf8_acceptRanges), ("unicode/utf8.first", laid_unicode_utf8_first)] }
def SelectionEntriesSaid : Prop := selectionEntriesRow.holds Tryz.pinned (OpenSpec.ofChange selectionEntriesSpec)

/-- ITS FALSE NEIGHBOUR: 'it returns false'. Refute it at one input. -/
def selectionEntriesWrong : ChangeSpec := { name := "selectionEntries", fn := fun _ => fun
  | [d1, d2] => { results := [.lit (.bool false)], args := [d1, d2] }
  | _ => none }
def SelectionEntriesWrongFalsely : Prop := selectionEntriesRow.holds Tryz.pinned (OpenSpec.ofChange selectionEntriesWrong)

/- THE SECOND FORM. 'bulk': how many values and letters a reading holds, each counted each time it is reached (what is shared counts as often as it is met; a slice's spare places count too). A statement '..UptoSaid' is the law's where the arguments, and the package variables that the reading takes, are together of bulk at most 1048576: NARROWER than '..Said'. Prove '..Said' where nothing that the law and all that it calls make is longer than what came in: it says more and counts as full. Else prove '..UptoSaid'. A law counts once. -/
mutual
def uptoBulk {H : Type} : DataW H → Nat
  | .lit (.string bytes) => bytes.length + 1
  | .lit _ => 1
  | .nil => 1
  | .ptr d => uptoBulk d + 1
  | .slice elems spare => uptoBulkAll elems + uptoBulkAll spare + 1
  | .agg parts => uptoBulkAll parts + 1
  | .iface _ d => uptoBulk d + 1
  | .map entries => uptoBulkEntries entries + 1
  | .held _ => 1
def uptoBulkAll {H : Type} : List (DataW H) → Nat
  | [] => 0
  | d :: r => uptoBulk d + uptoBulkAll r
def uptoBulkEntries {H : Type} : List (Lit × DataW H) → Nat
  | [] => 0
  | x :: r => uptoBulkEntry x + uptoBulkEntries r
def uptoBulkEntry {H : Type} : Lit × DataW H → Nat
  | (.string bytes, d) => bytes.length + uptoBulk d + 1
  | (_, d) => uptoBulk d + 1
 end
def uptoSmall : (H : Type) → List (DataW H) → Bool := fun _ ds => decide (uptoBulkAll ds ≤ 1048576)
def OpenSpec.upto (s : _root_.Go.ChangeSpec) : _root_.Go.OpenSpec := { _root_.Go.OpenSpec.ofChange s with cond := some uptoSmall }

/-- 'luminairelaw41.SelectionChooses', WHERE WHAT IT READS IS OF BULK AT MOST 1048576: true; the input reads as it did. -/
def selectionChoosesUptoRow : OpenClaim := { program := "ytnaemmpcffnbkaagreatdoor", sum := "bb61f81543f44512ec657df38210c37f89274f97df1319f7253b6f9f122d667b", func := "luminaire/luminairelaw41.SelectionChooses", spec := "selectionChooses", inPlace := ["internal/bytealg.IndexByteString", "internal/bytealg.IndexString"], unfollowed := true, recurses := true, named := ["unicode/utf8.first", "unicode/utf8.acceptRanges", "internal/bytealg.MaxLen"], apart := false, laid := [("unicode/utf8.acceptRanges", laid_unicode_utf8_acceptRanges), ("unicode/utf8.first", laid_unicode_utf8_first)], narrowed := true }
def SelectionChoosesUptoSaid : Prop := selectionChoosesUptoRow.holds Tryz.pinned (OpenSpec.upto selectionChoosesSpec)

/-- 'luminairelaw41.SelectionAttrs', WHERE WHAT IT READS IS OF BULK AT MOST 1048576: true; the input reads as it did. -/
def selectionAttrsUptoRow : OpenClaim := { program := "ytnaemmpcffnbkaagreatdoor", sum := "bb61f81543f44512ec657df38210c37f89274f97df1319f7253b6f9f122d667b", func := "luminaire/luminairelaw41.SelectionAttrs", spec := "selectionAttrs", inPlace := ["internal/bytealg.IndexByteString", "internal/bytealg.IndexString"], unfollowed := true, recurses := true, named := ["unicode/utf8.first", "unicode/utf8.acceptRanges", "internal/bytealg.MaxLen"], apart := false, laid := [("unicode/utf8.acceptRanges", laid_unicode_utf8_acceptRanges), ("unicode/utf8.first", laid_unicode_utf8_first)], narrowed := true }
def SelectionAttrsUptoSaid : Prop := selectionAttrsUptoRow.holds Tryz.pinned (OpenSpec.upto selectionAttrsSpec)

/-- 'luminairelaw41.SelectionParams', WHERE WHAT IT READS IS OF BULK AT MOST 1048576: true; the input reads as it did. -/
def selectionParamsUptoRow : OpenClaim := { program := "ytnaemmpcffnbkaagreatdoor", sum := "bb61f81543f44512ec657df38210c37f89274f97df1319f7253b6f9f122d667b", func := "luminaire/luminairelaw41.SelectionParams", spec := "selectionParams", inPlace := ["internal/bytealg.IndexByteString", "internal/bytealg.IndexString"], unfollowed := true, recurses := true, named := ["unicode/utf8.first", "unicode/utf8.acceptRanges", "internal/bytealg.MaxLen"], apart := false, laid := [("unicode/utf8.acceptRanges", laid_unicode_utf8_acceptRanges), ("unicode/utf8.first", laid_unicode_utf8_first)], narrowed := true }
def SelectionParamsUptoSaid : Prop := selectionParamsUptoRow.holds Tryz.pinned (OpenSpec.upto selectionParamsSpec)

/-- 'luminairelaw41.SelectionFans', WHERE WHAT IT READS IS OF BULK AT MOST 1048576: true; the input reads as it did. -/
def selectionFansUptoRow : OpenClaim := { program := "ytnaemmpcffnbkaagreatdoor", sum := "bb61f81543f44512ec657df38210c37f89274f97df1319f7253b6f9f122d667b", func := "luminaire/luminairelaw41.SelectionFans", spec := "selectionFans", inPlace := ["internal/bytealg.IndexByteString", "internal/bytealg.IndexString"], unfollowed := true, recurses := true, named := ["unicode/utf8.first", "unicode/utf8.acceptRanges", "internal/bytealg.MaxLen"], apart := false, laid := [("unicode/utf8.acceptRanges", laid_unicode_utf8_acceptRanges), ("unicode/utf8.first", laid_unicode_utf8_first)], narrowed := true }
def SelectionFansUptoSaid : Prop := selectionFansUptoRow.holds Tryz.pinned (OpenSpec.upto selectionFansSpec)

/-- 'luminairelaw41.SelectionOnce', WHERE WHAT IT READS IS OF BULK AT MOST 1048576: true; the input reads as it did. -/
def selectionOnceUptoRow : OpenClaim := { program := "ytnaemmpcffnbkaagreatdoor", sum := "bb61f81543f44512ec657df38210c37f89274f97df1319f7253b6f9f122d667b", func := "luminaire/luminairelaw41.SelectionOnce", spec := "selectionOnce", inPlace := ["internal/bytealg.IndexByteString", "internal/bytealg.IndexString"], unfollowed := true, recurses := true, named := ["unicode/utf8.first", "unicode/utf8.acceptRanges", "internal/bytealg.MaxLen"], apart := false, laid := [("unicode/utf8.acceptRanges", laid_unicode_utf8_acceptRanges), ("unicode/utf8.first", laid_unicode_utf8_first)], narrowed := true }
def SelectionOnceUptoSaid : Prop := selectionOnceUptoRow.holds Tryz.pinned (OpenSpec.upto selectionOnceSpec)

/-- 'luminairelaw41.SelectionClasses', WHERE WHAT IT READS IS OF BULK AT MOST 1048576: true; the input reads as it did. -/
def selectionClassesUptoRow : OpenClaim := { program := "ytnaemmpcffnbkaagreatdoor", sum := "bb61f81543f44512ec657df38210c37f89274f97df1319f7253b6f9f122d667b", func := "luminaire/luminairelaw41.SelectionClasses", spec := "selectionClasses", inPlace := ["internal/bytealg.IndexByteString", "internal/bytealg.IndexString"], unfollowed := true, recurses := true, named := ["unicode/utf8.first", "unicode/utf8.acceptRanges", "internal/bytealg.MaxLen"], apart := false, laid := [("unicode/utf8.acceptRanges", laid_unicode_utf8_acceptRanges), ("unicode/utf8.first", laid_unicode_utf8_first)], narrowed := true }
def SelectionClassesUptoSaid : Prop := selectionClassesUptoRow.holds Tryz.pinned (OpenSpec.upto selectionClassesSpec)

/-- 'luminairelaw41.SelectionRanges', WHERE WHAT IT READS IS OF BULK AT MOST 1048576: true; the input reads as it did. -/
def selectionRangesUptoRow : OpenClaim := { program := "ytnaemmpcffnbkaagreatdoor", sum := "bb61f81543f44512ec657df38210c37f89274f97df1319f7253b6f9f122d667b", func := "luminaire/luminairelaw41.SelectionRanges", spec := "selectionRanges", inPlace := ["internal/bytealg.IndexByteString", "internal/bytealg.IndexString"], unfollowed := true, recurses := true, named := ["unicode/utf8.first", "unicode/utf8.acceptRanges", "internal/bytealg.MaxLen"], apart := false, laid := [("unicode/utf8.acceptRanges", laid_unicode_utf8_acceptRanges), ("unicode/utf8.first", laid_unicode_utf8_first)], narrowed := true }
def SelectionRangesUptoSaid : Prop := selectionRangesUptoRow.holds Tryz.pinned (OpenSpec.upto selectionRangesSpec)

/-- 'luminairelaw41.SelectionEntries', WHERE WHAT IT READS IS OF BULK AT MOST 1048576: true; the input reads as it did. -/
def selectionEntriesUptoRow : OpenClaim := { program := "ytnaemmpcffnbkaagreatdoor", sum := "bb61f81543f44512ec657df38210c37f89274f97df1319f7253b6f9f122d667b", func := "luminaire/luminairelaw41.SelectionEntries", spec := "selectionEntries", inPlace := ["internal/bytealg.IndexByteString", "internal/bytealg.IndexString"], unfollowed := true, recurses := true, named := ["unicode/utf8.first", "unicode/utf8.acceptRanges", "internal/bytealg.MaxLen"], apart := false, laid := [("unicode/utf8.acceptRanges", laid_unicode_utf8_acceptRanges), ("unicode/utf8.first", laid_unicode_utf8_first)], narrowed := true }
def SelectionEntriesUptoSaid : Prop := selectionEntriesUptoRow.holds Tryz.pinned (OpenSpec.upto selectionEntriesSpec)

end Rows
end Go.Proofs.YtnaemmpcffnbkaaGreatDoor
