/-
  No cell of these rows narrows 'for every input' (looked for: loops, veiled, ifaces, maps, wideKeys, modest, calm, conditions, laid).
  DERIVED. THE GIVEN ROWS OF THIS SEAT. 4 by the template 'for every input the law returns true; each argument reads behind the call as it read before'; 0 by the template 'total and deterministic' (their statements: YtpkolkbpcdkdbaaTotals.lean).
  GIVEN WITH THE SEED: the statements are not yours to turn. If you find one false, say at which input.
  Laid BY PROGRAM, IN A SANDBOX (cutbox-rows.mjs): the forced cells as the released guide's own fill.sh prints them over the translation 6257680010249541… (all of the seat's roots in one cut). By AI agents, Wed Nov 11 2026. No macro, syntax, notation, axiom, sorry.
-/
import Derived.Test.YtpkolkbpcdkdbaaChecked
import GoSem.Claim
import GoSem.ClaimJoined
import GoSem.ClaimMapViews
import Derived.JoinedTies
import Derived.KernelRfl
namespace Go.Proofs.Ytpkolkbpcdkdbaa
/- THE CELL 'sum', in the pinned program and in every row, IS THE sha256 OF THE DUMP (.gsa) THAT YtpkolkbpcdkdbaaProg.lean LOADS. Nothing in Lean hashes anything: it is a label: what it is worth is what the hold of that sum in a sandbox is worth. -/
noncomputable def Try.pinned : Pinned := { name := "ytpkolkbpcdkdbaa", sum := "625768001024954136dac3e6f00f75e5060cb2e64b34f2a1b03e51b6ae376411", checked := Try.checked }
namespace Rows
def none {H : Type} : Left H := { results := [], args := [] }

/-- 'luminairelaw15.PaletteLevels': WHATEVER THE INPUT: true; the input reads as it did. -/
def paletteLevelsSpec : ChangeSpec := { name := "paletteLevels", fn := fun _ => fun
  | [d1, d2, d3] => { results := [.lit (.bool true)], args := [d1, d2, d3] }
  | _ => none }
def paletteLevelsRow : OpenClaim := { program := "ytpkolkbpcdkdbaa", sum := "625768001024954136dac3e6f00f75e5060cb2e64b34f2a1b03e51b6ae376411", func := "luminaire/luminairelaw15.PaletteLevels", spec := "paletteLevels", unfollowed := true, recurses := true, apart := false }
def PaletteLevelsSaid : Prop := paletteLevelsRow.holds Try.pinned (OpenSpec.ofChange paletteLevelsSpec)

/-- ITS FALSE NEIGHBOUR: 'it returns false'. Refute it at one input. -/
def paletteLevelsWrong : ChangeSpec := { name := "paletteLevels", fn := fun _ => fun
  | [d1, d2, d3] => { results := [.lit (.bool false)], args := [d1, d2, d3] }
  | _ => none }
def PaletteLevelsWrongFalsely : Prop := paletteLevelsRow.holds Try.pinned (OpenSpec.ofChange paletteLevelsWrong)

/-- 'luminairelaw15.PaletteKeeps': WHATEVER THE INPUT: true; the input reads as it did. -/
def paletteKeepsSpec : ChangeSpec := { name := "paletteKeeps", fn := fun _ => fun
  | [d1, d2, d3] => { results := [.lit (.bool true)], args := [d1, d2, d3] }
  | _ => none }
def paletteKeepsRow : OpenClaim := { program := "ytpkolkbpcdkdbaa", sum := "625768001024954136dac3e6f00f75e5060cb2e64b34f2a1b03e51b6ae376411", func := "luminaire/luminairelaw15.PaletteKeeps", spec := "paletteKeeps", unfollowed := true, recurses := true, apart := false }
def PaletteKeepsSaid : Prop := paletteKeepsRow.holds Try.pinned (OpenSpec.ofChange paletteKeepsSpec)

/-- ITS FALSE NEIGHBOUR: 'it returns false'. Refute it at one input. -/
def paletteKeepsWrong : ChangeSpec := { name := "paletteKeeps", fn := fun _ => fun
  | [d1, d2, d3] => { results := [.lit (.bool false)], args := [d1, d2, d3] }
  | _ => none }
def PaletteKeepsWrongFalsely : Prop := paletteKeepsRow.holds Try.pinned (OpenSpec.ofChange paletteKeepsWrong)

/-- 'luminairelaw15.PaletteUses': WHATEVER THE INPUT: true; the input reads as it did. -/
def paletteUsesSpec : ChangeSpec := { name := "paletteUses", fn := fun _ => fun
  | [d1, d2] => { results := [.lit (.bool true)], args := [d1, d2] }
  | _ => none }
def paletteUsesRow : OpenClaim := { program := "ytpkolkbpcdkdbaa", sum := "625768001024954136dac3e6f00f75e5060cb2e64b34f2a1b03e51b6ae376411", func := "luminaire/luminairelaw15.PaletteUses", spec := "paletteUses", unfollowed := true, recurses := true, apart := false }
def PaletteUsesSaid : Prop := paletteUsesRow.holds Try.pinned (OpenSpec.ofChange paletteUsesSpec)

/-- ITS FALSE NEIGHBOUR: 'it returns false'. Refute it at one input. -/
def paletteUsesWrong : ChangeSpec := { name := "paletteUses", fn := fun _ => fun
  | [d1, d2] => { results := [.lit (.bool false)], args := [d1, d2] }
  | _ => none }
def PaletteUsesWrongFalsely : Prop := paletteUsesRow.holds Try.pinned (OpenSpec.ofChange paletteUsesWrong)

/-- 'luminairelaw15.PaletteChanges': WHATEVER THE INPUT: true; the input reads as it did. -/
def paletteChangesSpec : ChangeSpec := { name := "paletteChanges", fn := fun _ => fun
  | [d1, d2, d3] => { results := [.lit (.bool true)], args := [d1, d2, d3] }
  | _ => none }
def paletteChangesRow : OpenClaim := { program := "ytpkolkbpcdkdbaa", sum := "625768001024954136dac3e6f00f75e5060cb2e64b34f2a1b03e51b6ae376411", func := "luminaire/luminairelaw15.PaletteChanges", spec := "paletteChanges", inPlace := ["slices.overlaps[luminaire/api.Palette]"], unfollowed := true, recurses := true, apart := false }
def PaletteChangesSaid : Prop := paletteChangesRow.holds Try.pinned (OpenSpec.ofChange paletteChangesSpec)

/-- ITS FALSE NEIGHBOUR: 'it returns false'. Refute it at one input. -/
def paletteChangesWrong : ChangeSpec := { name := "paletteChanges", fn := fun _ => fun
  | [d1, d2, d3] => { results := [.lit (.bool false)], args := [d1, d2, d3] }
  | _ => none }
def PaletteChangesWrongFalsely : Prop := paletteChangesRow.holds Try.pinned (OpenSpec.ofChange paletteChangesWrong)

/- THE SECOND FORM. 'bulk': how many values and letters a reading holds, each counted each time it is reached (what is shared counts as often as it is met; a slice's spare places count too). A statement '..UptoSaid' is the law's where the arguments, and the package variables that the reading takes, are together of bulk at most 1048576: NARROWER than '..Said'. Prove '..Said' where nothing that the law and all that it calls make is longer than what came in: it says more and counts as full. Else prove '..UptoSaid'. A law counts once. -/
mutual
def uptoBulk {H : Type} : DataW H → Nat
  | .lit (.string bytes) => bytes.length + 1
  | .lit _ => 1
  | .nil => 1
  | .ptr d => uptoBulk d + 1
  | .slice elems spare => uptoBulkAll elems + uptoBulkAll spare + 1
  | .agg parts => uptoBulkAll parts + 1
  | .iface _ d => uptoBulk d + 1
  | .map entries => uptoBulkEntries entries + 1
  | .held _ => 1
def uptoBulkAll {H : Type} : List (DataW H) → Nat
  | [] => 0
  | d :: r => uptoBulk d + uptoBulkAll r
def uptoBulkEntries {H : Type} : List (Lit × DataW H) → Nat
  | [] => 0
  | x :: r => uptoBulkEntry x + uptoBulkEntries r
def uptoBulkEntry {H : Type} : Lit × DataW H → Nat
  | (.string bytes, d) => bytes.length + uptoBulk d + 1
  | (_, d) => uptoBulk d + 1
 end
def uptoSmall : (H : Type) → List (DataW H) → Bool := fun _ ds => decide (uptoBulkAll ds ≤ 1048576)
def OpenSpec.upto (s : _root_.Go.ChangeSpec) : _root_.Go.OpenSpec := { _root_.Go.OpenSpec.ofChange s with cond := some uptoSmall }

/-- 'luminairelaw15.PaletteLevels', WHERE WHAT IT READS IS OF BULK AT MOST 1048576: true; the input reads as it did. -/
def paletteLevelsUptoRow : OpenClaim := { program := "ytpkolkbpcdkdbaa", sum := "625768001024954136dac3e6f00f75e5060cb2e64b34f2a1b03e51b6ae376411", func := "luminaire/luminairelaw15.PaletteLevels", spec := "paletteLevels", unfollowed := true, recurses := true, apart := false, narrowed := true }
def PaletteLevelsUptoSaid : Prop := paletteLevelsUptoRow.holds Try.pinned (OpenSpec.upto paletteLevelsSpec)

/-- 'luminairelaw15.PaletteKeeps', WHERE WHAT IT READS IS OF BULK AT MOST 1048576: true; the input reads as it did. -/
def paletteKeepsUptoRow : OpenClaim := { program := "ytpkolkbpcdkdbaa", sum := "625768001024954136dac3e6f00f75e5060cb2e64b34f2a1b03e51b6ae376411", func := "luminaire/luminairelaw15.PaletteKeeps", spec := "paletteKeeps", unfollowed := true, recurses := true, apart := false, narrowed := true }
def PaletteKeepsUptoSaid : Prop := paletteKeepsUptoRow.holds Try.pinned (OpenSpec.upto paletteKeepsSpec)

/-- 'luminairelaw15.PaletteUses', WHERE WHAT IT READS IS OF BULK AT MOST 1048576: true; the input reads as it did. -/
def paletteUsesUptoRow : OpenClaim := { program := "ytpkolkbpcdkdbaa", sum := "625768001024954136dac3e6f00f75e5060cb2e64b34f2a1b03e51b6ae376411", func := "luminaire/luminairelaw15.PaletteUses", spec := "paletteUses", unfollowed := true, recurses := true, apart := false, narrowed := true }
def PaletteUsesUptoSaid : Prop := paletteUsesUptoRow.holds Try.pinned (OpenSpec.upto paletteUsesSpec)

/-- 'luminairelaw15.PaletteChanges', WHERE WHAT IT READS IS OF BULK AT MOST 1048576: true; the input reads as it did. -/
def paletteChangesUptoRow : OpenClaim := { program := "ytpkolkbpcdkdbaa", sum := "625768001024954136dac3e6f00f75e5060cb2e64b34f2a1b03e51b6ae376411", func := "luminaire/luminairelaw15.PaletteChanges", spec := "paletteChanges", inPlace := ["slices.overlaps[luminaire/api.Palette]"], unfollowed := true, recurses := true, apart := false, narrowed := true }
def PaletteChangesUptoSaid : Prop := paletteChangesUptoRow.holds Try.pinned (OpenSpec.upto paletteChangesSpec)

end Rows
end Go.Proofs.Ytpkolkbpcdkdbaa
