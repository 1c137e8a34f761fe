/-
  DERIVED. GIVEN WITH THE SEED: THE CARDS: each row of YtjcfppnjamjjhaaGreatDoorRows.lean that lists a variable, with what it lists TIED to the program's text (the seventh form; the later family's looks); each row that meets fmt, with fmt's text TOLD by the authors' own Lean function (tested against real Go, not proved from fmt's source: count such statements apart). THE CARD IS WHAT COUNTS. Prove the row's statement (the work); the ties are given (YtjcfppnjamjjhaaGreatDoorTie.lean); close each card by the builder's one call (the guide's Derived/Test/ToyasCard.lean, 'card_holds'). Laid BY PROGRAM, IN A SANDBOX (cutbox-door.mjs). By AI agents, Wed Nov 11 2026. No macro, syntax, notation, axiom, sorry.
-/
import Derived.Test.YtjcfppnjamjjhaaGreatDoorRows
import GoSem.ClaimSeven
namespace Go.Proofs.YtjcfppnjamjjhaaGreatDoor
namespace Rows

/-- THE TIED CARD OF 'euclidlaw06.TextPrints'. -/
def textPrintsCard : Claim7 := { stood := { row := textPrintsRow, standIns := [], harness := (true, "ff2ee73b39859d11dd80a04dee84a2f175aa3e7814ce50d1d4875488c7528c01"), looks := true }, kinds := [], alts := [], laidByText := true, laidKinds := [.data, .data, .data, .data, .sentinel, .sentinel, .pinned], laidTests := true, laidLooks := .later }
def TextPrintsCardSaid : Prop := Claim7.holds Tryz.pinned (.plain (OpenSpec.ofChange textPrintsSpec)) textPrintsCard

/-- THE TIED CARD OF 'euclidlaw06.TextParses'. -/
def textParsesCard : Claim7 := { stood := { row := textParsesRow, standIns := [], harness := (true, "ff2ee73b39859d11dd80a04dee84a2f175aa3e7814ce50d1d4875488c7528c01"), looks := true }, kinds := [], alts := [], laidByText := true, laidKinds := [.data, .data, .data, .data, .sentinel, .sentinel, .pinned], laidTests := true, laidLooks := .later }
def TextParsesCardSaid : Prop := Claim7.holds Tryz.pinned (.plain (OpenSpec.ofChange textParsesSpec)) textParsesCard

/-- THE TIED CARD OF 'euclidlaw06.TextOffsets'. -/
def textOffsetsCard : Claim7 := { stood := { row := textOffsetsRow, standIns := [], harness := (true, "ff2ee73b39859d11dd80a04dee84a2f175aa3e7814ce50d1d4875488c7528c01"), looks := true }, kinds := [], alts := [], laidByText := true, laidKinds := [.data, .data, .data, .data, .sentinel, .sentinel, .pinned], laidTests := true, laidLooks := .later }
def TextOffsetsCardSaid : Prop := Claim7.holds Tryz.pinned (.plain (OpenSpec.ofChange textOffsetsSpec)) textOffsetsCard

/-- THE TIED CARD OF 'euclidlaw06.TextBack'. -/
def textBackCard : Claim7 := { stood := { row := textBackRow, standIns := [], harness := (true, "ff2ee73b39859d11dd80a04dee84a2f175aa3e7814ce50d1d4875488c7528c01"), looks := true }, kinds := [], alts := [], laidByText := true, laidKinds := [.data, .data, .data, .data, .sentinel, .sentinel, .pinned], laidTests := true, laidLooks := .later }
def TextBackCardSaid : Prop := Claim7.holds Tryz.pinned (.plain (OpenSpec.ofChange textBackSpec)) textBackCard

/-- THE TIED CARD OF 'euclidlaw06.TextSpaces'. -/
def textSpacesCard : Claim7 := { stood := { row := textSpacesRow, standIns := [], harness := (true, "ff2ee73b39859d11dd80a04dee84a2f175aa3e7814ce50d1d4875488c7528c01"), looks := true }, kinds := [], alts := [], laidByText := true, laidKinds := [.data, .data, .data, .data, .sentinel, .sentinel, .pinned], laidTests := true, laidLooks := .later }
def TextSpacesCardSaid : Prop := Claim7.holds Tryz.pinned (.plain (OpenSpec.ofChange textSpacesSpec)) textSpacesCard

/-- THE TIED CARD OF 'euclidlaw06.TextDecls'. -/
def textDeclsCard : Claim7 := { stood := { row := textDeclsRow, standIns := [], harness := (true, "ff2ee73b39859d11dd80a04dee84a2f175aa3e7814ce50d1d4875488c7528c01"), looks := true }, kinds := [], alts := [], laidByText := true, laidKinds := [.data, .data, .data, .data, .sentinel, .sentinel, .pinned], laidTests := true, laidLooks := .later }
def TextDeclsCardSaid : Prop := Claim7.holds Tryz.pinned (.plain (OpenSpec.ofChange textDeclsSpec)) textDeclsCard

/-- THE TIED CARD OF 'euclidlaw06.TextReads'. -/
def textReadsCard : Claim7 := { stood := { row := textReadsRow, standIns := [], harness := (true, "ff2ee73b39859d11dd80a04dee84a2f175aa3e7814ce50d1d4875488c7528c01"), looks := true }, kinds := [], alts := [], laidByText := true, laidKinds := [.data, .data, .data, .data, .sentinel, .sentinel, .pinned], laidTests := true, laidLooks := .later }
def TextReadsCardSaid : Prop := Claim7.holds Tryz.pinned (.plain (OpenSpec.ofChange textReadsSpec)) textReadsCard

/-- THE TIED CARD OF 'euclidlaw06.TextDeclBack'. -/
def textDeclBackCard : Claim7 := { stood := { row := textDeclBackRow, standIns := [], harness := (true, "ff2ee73b39859d11dd80a04dee84a2f175aa3e7814ce50d1d4875488c7528c01"), looks := true }, kinds := [], alts := [], laidByText := true, laidKinds := [.data, .data, .data, .data, .sentinel, .sentinel, .pinned], laidTests := true, laidLooks := .later }
def TextDeclBackCardSaid : Prop := Claim7.holds Tryz.pinned (.plain (OpenSpec.ofChange textDeclBackSpec)) textDeclBackCard

/-- THE SECOND FORM's CARD OF 'euclidlaw06.TextPrints'. -/
def textPrintsUptoCard : Claim7 := { stood := { row := textPrintsUptoRow, standIns := [], harness := (true, "ff2ee73b39859d11dd80a04dee84a2f175aa3e7814ce50d1d4875488c7528c01"), looks := true }, kinds := [], alts := [], laidByText := true, laidKinds := [.data, .data, .data, .data, .sentinel, .sentinel, .pinned], laidTests := true, laidLooks := .later }
def TextPrintsUptoCardSaid : Prop := Claim7.holds Tryz.pinned (.plain (OpenSpec.upto textPrintsSpec)) textPrintsUptoCard

/-- THE SECOND FORM's CARD OF 'euclidlaw06.TextParses'. -/
def textParsesUptoCard : Claim7 := { stood := { row := textParsesUptoRow, standIns := [], harness := (true, "ff2ee73b39859d11dd80a04dee84a2f175aa3e7814ce50d1d4875488c7528c01"), looks := true }, kinds := [], alts := [], laidByText := true, laidKinds := [.data, .data, .data, .data, .sentinel, .sentinel, .pinned], laidTests := true, laidLooks := .later }
def TextParsesUptoCardSaid : Prop := Claim7.holds Tryz.pinned (.plain (OpenSpec.upto textParsesSpec)) textParsesUptoCard

/-- THE SECOND FORM's CARD OF 'euclidlaw06.TextOffsets'. -/
def textOffsetsUptoCard : Claim7 := { stood := { row := textOffsetsUptoRow, standIns := [], harness := (true, "ff2ee73b39859d11dd80a04dee84a2f175aa3e7814ce50d1d4875488c7528c01"), looks := true }, kinds := [], alts := [], laidByText := true, laidKinds := [.data, .data, .data, .data, .sentinel, .sentinel, .pinned], laidTests := true, laidLooks := .later }
def TextOffsetsUptoCardSaid : Prop := Claim7.holds Tryz.pinned (.plain (OpenSpec.upto textOffsetsSpec)) textOffsetsUptoCard

/-- THE SECOND FORM's CARD OF 'euclidlaw06.TextBack'. -/
def textBackUptoCard : Claim7 := { stood := { row := textBackUptoRow, standIns := [], harness := (true, "ff2ee73b39859d11dd80a04dee84a2f175aa3e7814ce50d1d4875488c7528c01"), looks := true }, kinds := [], alts := [], laidByText := true, laidKinds := [.data, .data, .data, .data, .sentinel, .sentinel, .pinned], laidTests := true, laidLooks := .later }
def TextBackUptoCardSaid : Prop := Claim7.holds Tryz.pinned (.plain (OpenSpec.upto textBackSpec)) textBackUptoCard

/-- THE SECOND FORM's CARD OF 'euclidlaw06.TextSpaces'. -/
def textSpacesUptoCard : Claim7 := { stood := { row := textSpacesUptoRow, standIns := [], harness := (true, "ff2ee73b39859d11dd80a04dee84a2f175aa3e7814ce50d1d4875488c7528c01"), looks := true }, kinds := [], alts := [], laidByText := true, laidKinds := [.data, .data, .data, .data, .sentinel, .sentinel, .pinned], laidTests := true, laidLooks := .later }
def TextSpacesUptoCardSaid : Prop := Claim7.holds Tryz.pinned (.plain (OpenSpec.upto textSpacesSpec)) textSpacesUptoCard

/-- THE SECOND FORM's CARD OF 'euclidlaw06.TextDecls'. -/
def textDeclsUptoCard : Claim7 := { stood := { row := textDeclsUptoRow, standIns := [], harness := (true, "ff2ee73b39859d11dd80a04dee84a2f175aa3e7814ce50d1d4875488c7528c01"), looks := true }, kinds := [], alts := [], laidByText := true, laidKinds := [.data, .data, .data, .data, .sentinel, .sentinel, .pinned], laidTests := true, laidLooks := .later }
def TextDeclsUptoCardSaid : Prop := Claim7.holds Tryz.pinned (.plain (OpenSpec.upto textDeclsSpec)) textDeclsUptoCard

/-- THE SECOND FORM's CARD OF 'euclidlaw06.TextReads'. -/
def textReadsUptoCard : Claim7 := { stood := { row := textReadsUptoRow, standIns := [], harness := (true, "ff2ee73b39859d11dd80a04dee84a2f175aa3e7814ce50d1d4875488c7528c01"), looks := true }, kinds := [], alts := [], laidByText := true, laidKinds := [.data, .data, .data, .data, .sentinel, .sentinel, .pinned], laidTests := true, laidLooks := .later }
def TextReadsUptoCardSaid : Prop := Claim7.holds Tryz.pinned (.plain (OpenSpec.upto textReadsSpec)) textReadsUptoCard

/-- THE SECOND FORM's CARD OF 'euclidlaw06.TextDeclBack'. -/
def textDeclBackUptoCard : Claim7 := { stood := { row := textDeclBackUptoRow, standIns := [], harness := (true, "ff2ee73b39859d11dd80a04dee84a2f175aa3e7814ce50d1d4875488c7528c01"), looks := true }, kinds := [], alts := [], laidByText := true, laidKinds := [.data, .data, .data, .data, .sentinel, .sentinel, .pinned], laidTests := true, laidLooks := .later }
def TextDeclBackUptoCardSaid : Prop := Claim7.holds Tryz.pinned (.plain (OpenSpec.upto textDeclBackSpec)) textDeclBackUptoCard
end Rows
end Go.Proofs.YtjcfppnjamjjhaaGreatDoor
