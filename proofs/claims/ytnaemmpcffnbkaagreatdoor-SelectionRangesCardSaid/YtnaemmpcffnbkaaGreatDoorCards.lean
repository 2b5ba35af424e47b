/-
  DERIVED. GIVEN WITH THE SEED: THE CARDS: each row of YtnaemmpcffnbkaaGreatDoorRows.lean that lists a variable, with what it lists TIED to the program's text (the seventh form; the later family's looks); each row that meets fmt, with fmt's text TOLD by the authors' own Lean function (tested against real Go, not proved from fmt's source: count such statements apart). THE CARD IS WHAT COUNTS. Prove the row's statement (the work); the ties are given (YtnaemmpcffnbkaaGreatDoorTie.lean); close each card by the builder's one call (the guide's Derived/Test/ToyasCard.lean, 'card_holds'). Laid BY PROGRAM, IN A SANDBOX (cutbox-door.mjs). By AI agents, Wed Nov 11 2026. No macro, syntax, notation, axiom, sorry.
-/
import Derived.Test.YtnaemmpcffnbkaaGreatDoorRows
import GoSem.ClaimSeven
namespace Go.Proofs.YtnaemmpcffnbkaaGreatDoor
namespace Rows

/-- THE TIED CARD OF 'luminairelaw41.SelectionChooses'. -/
def selectionChoosesCard : Claim7 := { stood := { row := selectionChoosesRow, standIns := [], harness := (true, "1292a92922f459f233f651735734311e0d163fa6837b6eeb4009388f560c4f0f"), looks := false }, kinds := [], alts := [], laidByText := true, laidKinds := [.data, .pinned], laidTests := true, laidLooks := .later }
def SelectionChoosesCardSaid : Prop := Claim7.holds Tryz.pinned (.plain (OpenSpec.ofChange selectionChoosesSpec)) selectionChoosesCard

/-- THE TIED CARD OF 'luminairelaw41.SelectionAttrs'. -/
def selectionAttrsCard : Claim7 := { stood := { row := selectionAttrsRow, standIns := [], harness := (true, "1292a92922f459f233f651735734311e0d163fa6837b6eeb4009388f560c4f0f"), looks := false }, kinds := [], alts := [], laidByText := true, laidKinds := [.data, .pinned], laidTests := true, laidLooks := .later }
def SelectionAttrsCardSaid : Prop := Claim7.holds Tryz.pinned (.plain (OpenSpec.ofChange selectionAttrsSpec)) selectionAttrsCard

/-- THE TIED CARD OF 'luminairelaw41.SelectionParams'. -/
def selectionParamsCard : Claim7 := { stood := { row := selectionParamsRow, standIns := [], harness := (true, "1292a92922f459f233f651735734311e0d163fa6837b6eeb4009388f560c4f0f"), looks := false }, kinds := [], alts := [], laidByText := true, laidKinds := [.data, .pinned], laidTests := true, laidLooks := .later }
def SelectionParamsCardSaid : Prop := Claim7.holds Tryz.pinned (.plain (OpenSpec.ofChange selectionParamsSpec)) selectionParamsCard

/-- THE TIED CARD OF 'luminairelaw41.SelectionFans'. -/
def selectionFansCard : Claim7 := { stood := { row := selectionFansRow, standIns := [], harness := (true, "1292a92922f459f233f651735734311e0d163fa6837b6eeb4009388f560c4f0f"), looks := false }, kinds := [], alts := [], laidByText := true, laidKinds := [.data, .pinned], laidTests := true, laidLooks := .later }
def SelectionFansCardSaid : Prop := Claim7.holds Tryz.pinned (.plain (OpenSpec.ofChange selectionFansSpec)) selectionFansCard

/-- THE TIED CARD OF 'luminairelaw41.SelectionOnce'. -/
def selectionOnceCard : Claim7 := { stood := { row := selectionOnceRow, standIns := [], harness := (true, "1292a92922f459f233f651735734311e0d163fa6837b6eeb4009388f560c4f0f"), looks := false }, kinds := [], alts := [], laidByText := true, laidKinds := [.data, .pinned], laidTests := true, laidLooks := .later }
def SelectionOnceCardSaid : Prop := Claim7.holds Tryz.pinned (.plain (OpenSpec.ofChange selectionOnceSpec)) selectionOnceCard

/-- THE TIED CARD OF 'luminairelaw41.SelectionClasses'. -/
def selectionClassesCard : Claim7 := { stood := { row := selectionClassesRow, standIns := [], harness := (true, "1292a92922f459f233f651735734311e0d163fa6837b6eeb4009388f560c4f0f"), looks := false }, kinds := [], alts := [], laidByText := true, laidKinds := [.data, .pinned], laidTests := true, laidLooks := .later }
def SelectionClassesCardSaid : Prop := Claim7.holds Tryz.pinned (.plain (OpenSpec.ofChange selectionClassesSpec)) selectionClassesCard

/-- THE TIED CARD OF 'luminairelaw41.SelectionRanges'. -/
def selectionRangesCard : Claim7 := { stood := { row := selectionRangesRow, standIns := [], harness := (true, "1292a92922f459f233f651735734311e0d163fa6837b6eeb4009388f560c4f0f"), looks := false }, kinds := [], alts := [], laidByText := true, laidKinds := [.data, .pinned], laidTests := true, laidLooks := .later }
def SelectionRangesCardSaid : Prop := Claim7.holds Tryz.pinned (.plain (OpenSpec.ofChange selectionRangesSpec)) selectionRangesCard

/-- THE TIED CARD OF 'luminairelaw41.SelectionEntries'. -/
def selectionEntriesCard : Claim7 := { stood := { row := selectionEntriesRow, standIns := [], harness := (true, "1292a92922f459f233f651735734311e0d163fa6837b6eeb4009388f560c4f0f"), looks := false }, kinds := [], alts := [], laidByText := true, laidKinds := [.data, .pinned], laidTests := true, laidLooks := .later }
def SelectionEntriesCardSaid : Prop := Claim7.holds Tryz.pinned (.plain (OpenSpec.ofChange selectionEntriesSpec)) selectionEntriesCard

/-- THE SECOND FORM's CARD OF 'luminairelaw41.SelectionChooses'. -/
def selectionChoosesUptoCard : Claim7 := { stood := { row := selectionChoosesUptoRow, standIns := [], harness := (true, "1292a92922f459f233f651735734311e0d163fa6837b6eeb4009388f560c4f0f"), looks := false }, kinds := [], alts := [], laidByText := true, laidKinds := [.data, .pinned], laidTests := true, laidLooks := .later }
def SelectionChoosesUptoCardSaid : Prop := Claim7.holds Tryz.pinned (.plain (OpenSpec.upto selectionChoosesSpec)) selectionChoosesUptoCard

/-- THE SECOND FORM's CARD OF 'luminairelaw41.SelectionAttrs'. -/
def selectionAttrsUptoCard : Claim7 := { stood := { row := selectionAttrsUptoRow, standIns := [], harness := (true, "1292a92922f459f233f651735734311e0d163fa6837b6eeb4009388f560c4f0f"), looks := false }, kinds := [], alts := [], laidByText := true, laidKinds := [.data, .pinned], laidTests := true, laidLooks := .later }
def SelectionAttrsUptoCardSaid : Prop := Claim7.holds Tryz.pinned (.plain (OpenSpec.upto selectionAttrsSpec)) selectionAttrsUptoCard

/-- THE SECOND FORM's CARD OF 'luminairelaw41.SelectionParams'. -/
def selectionParamsUptoCard : Claim7 := { stood := { row := selectionParamsUptoRow, standIns := [], harness := (true, "1292a92922f459f233f651735734311e0d163fa6837b6eeb4009388f560c4f0f"), looks := false }, kinds := [], alts := [], laidByText := true, laidKinds := [.data, .pinned], laidTests := true, laidLooks := .later }
def SelectionParamsUptoCardSaid : Prop := Claim7.holds Tryz.pinned (.plain (OpenSpec.upto selectionParamsSpec)) selectionParamsUptoCard

/-- THE SECOND FORM's CARD OF 'luminairelaw41.SelectionFans'. -/
def selectionFansUptoCard : Claim7 := { stood := { row := selectionFansUptoRow, standIns := [], harness := (true, "1292a92922f459f233f651735734311e0d163fa6837b6eeb4009388f560c4f0f"), looks := false }, kinds := [], alts := [], laidByText := true, laidKinds := [.data, .pinned], laidTests := true, laidLooks := .later }
def SelectionFansUptoCardSaid : Prop := Claim7.holds Tryz.pinned (.plain (OpenSpec.upto selectionFansSpec)) selectionFansUptoCard

/-- THE SECOND FORM's CARD OF 'luminairelaw41.SelectionOnce'. -/
def selectionOnceUptoCard : Claim7 := { stood := { row := selectionOnceUptoRow, standIns := [], harness := (true, "1292a92922f459f233f651735734311e0d163fa6837b6eeb4009388f560c4f0f"), looks := false }, kinds := [], alts := [], laidByText := true, laidKinds := [.data, .pinned], laidTests := true, laidLooks := .later }
def SelectionOnceUptoCardSaid : Prop := Claim7.holds Tryz.pinned (.plain (OpenSpec.upto selectionOnceSpec)) selectionOnceUptoCard

/-- THE SECOND FORM's CARD OF 'luminairelaw41.SelectionClasses'. -/
def selectionClassesUptoCard : Claim7 := { stood := { row := selectionClassesUptoRow, standIns := [], harness := (true, "1292a92922f459f233f651735734311e0d163fa6837b6eeb4009388f560c4f0f"), looks := false }, kinds := [], alts := [], laidByText := true, laidKinds := [.data, .pinned], laidTests := true, laidLooks := .later }
def SelectionClassesUptoCardSaid : Prop := Claim7.holds Tryz.pinned (.plain (OpenSpec.upto selectionClassesSpec)) selectionClassesUptoCard

/-- THE SECOND FORM's CARD OF 'luminairelaw41.SelectionRanges'. -/
def selectionRangesUptoCard : Claim7 := { stood := { row := selectionRangesUptoRow, standIns := [], harness := (true, "1292a92922f459f233f651735734311e0d163fa6837b6eeb4009388f560c4f0f"), looks := false }, kinds := [], alts := [], laidByText := true, laidKinds := [.data, .pinned], laidTests := true, laidLooks := .later }
def SelectionRangesUptoCardSaid : Prop := Claim7.holds Tryz.pinned (.plain (OpenSpec.upto selectionRangesSpec)) selectionRangesUptoCard

/-- THE SECOND FORM's CARD OF 'luminairelaw41.SelectionEntries'. -/
def selectionEntriesUptoCard : Claim7 := { stood := { row := selectionEntriesUptoRow, standIns := [], harness := (true, "1292a92922f459f233f651735734311e0d163fa6837b6eeb4009388f560c4f0f"), looks := false }, kinds := [], alts := [], laidByText := true, laidKinds := [.data, .pinned], laidTests := true, laidLooks := .later }
def SelectionEntriesUptoCardSaid : Prop := Claim7.holds Tryz.pinned (.plain (OpenSpec.upto selectionEntriesSpec)) selectionEntriesUptoCard
end Rows
end Go.Proofs.YtnaemmpcffnbkaaGreatDoor
