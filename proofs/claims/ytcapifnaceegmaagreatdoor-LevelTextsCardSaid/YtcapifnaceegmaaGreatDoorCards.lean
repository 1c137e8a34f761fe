/-
  DERIVED. GIVEN WITH THE SEED: THE CARDS: each row of YtcapifnaceegmaaGreatDoorRows.lean that lists a variable, with what it lists TIED to the program's text (the seventh form; the later family's looks); each row that meets fmt, with fmt's text TOLD by the authors' own Lean function (tested against real Go, not proved from fmt's source: count such statements apart). THE CARD IS WHAT COUNTS. Prove the row's statement (the work); the ties are given (YtcapifnaceegmaaGreatDoorTie.lean); close each card by the builder's one call (the guide's Derived/Test/ToyasCard.lean, 'card_holds'). Laid BY PROGRAM, IN A SANDBOX (cutbox-door.mjs). By AI agents, Wed Nov 11 2026. No macro, syntax, notation, axiom, sorry.
-/
import Derived.Test.YtcapifnaceegmaaGreatDoorRows
import GoSem.ClaimSeven
namespace Go.Proofs.YtcapifnaceegmaaGreatDoor
namespace Rows

/-- THE TIED CARD OF 'euclidlaw01.LevelMakes'. -/
def levelMakesCard : Claim7 := { stood := { row := levelMakesRow, standIns := [], harness := (true, "5e7632e2b5e91e2e64ce9ca6ac393cc93f51a5042e08c0e4f1680a28b429fecc"), looks := true }, kinds := [], alts := [], laidByText := true, laidKinds := [.data, .data, .data, .data, .sentinel, .sentinel, .pinned], laidTests := true, laidLooks := .later }
def LevelMakesCardSaid : Prop := Claim7.holds Tryz.pinned (.plain (OpenSpec.ofChange levelMakesSpec)) levelMakesCard

/-- THE TIED CARD OF 'euclidlaw01.LevelAdds'. -/
def levelAddsCard : Claim7 := { stood := { row := levelAddsRow, standIns := [], harness := (true, "5e7632e2b5e91e2e64ce9ca6ac393cc93f51a5042e08c0e4f1680a28b429fecc"), looks := true }, kinds := [], alts := [], laidByText := true, laidKinds := [.data, .data, .data, .data, .sentinel, .sentinel, .pinned], laidTests := true, laidLooks := .later }
def LevelAddsCardSaid : Prop := Claim7.holds Tryz.pinned (.plain (OpenSpec.ofChange levelAddsSpec)) levelAddsCard

/-- THE TIED CARD OF 'euclidlaw01.LevelParses'. -/
def levelParsesCard : Claim7 := { stood := { row := levelParsesRow, standIns := [], harness := (true, "5e7632e2b5e91e2e64ce9ca6ac393cc93f51a5042e08c0e4f1680a28b429fecc"), looks := true }, kinds := [], alts := [], laidByText := true, laidKinds := [.data, .data, .data, .data, .sentinel, .sentinel, .pinned], laidTests := true, laidLooks := .later }
def LevelParsesCardSaid : Prop := Claim7.holds Tryz.pinned (.plain (OpenSpec.ofChange levelParsesSpec)) levelParsesCard

/-- THE TIED CARD OF 'euclidlaw01.LevelBelow'. -/
def levelBelowCard : Claim7 := { stood := { row := levelBelowRow, standIns := [], harness := (true, "5e7632e2b5e91e2e64ce9ca6ac393cc93f51a5042e08c0e4f1680a28b429fecc"), looks := true }, kinds := [], alts := [], laidByText := true, laidKinds := [.data, .data, .data, .data, .sentinel, .sentinel, .pinned], laidTests := true, laidLooks := .later }
def LevelBelowCardSaid : Prop := Claim7.holds Tryz.pinned (.plain (OpenSpec.ofChange levelBelowSpec)) levelBelowCard

/-- THE TIED CARD OF 'euclidlaw01.LevelCompares'. -/
def levelComparesCard : Claim7 := { stood := { row := levelComparesRow, standIns := [], harness := (true, "5e7632e2b5e91e2e64ce9ca6ac393cc93f51a5042e08c0e4f1680a28b429fecc"), looks := true }, kinds := [], alts := [], laidByText := true, laidKinds := [.data, .data, .data, .data, .sentinel, .sentinel, .pinned], laidTests := true, laidLooks := .later }
def LevelComparesCardSaid : Prop := Claim7.holds Tryz.pinned (.plain (OpenSpec.ofChange levelComparesSpec)) levelComparesCard

/-- THE TIED CARD OF 'euclidlaw01.LevelTexts'. -/
def levelTextsCard : Claim7 := { stood := { row := levelTextsRow, standIns := [], harness := (true, "5e7632e2b5e91e2e64ce9ca6ac393cc93f51a5042e08c0e4f1680a28b429fecc"), looks := true }, kinds := [], alts := [], laidByText := true, laidKinds := [.data, .data, .data, .data, .sentinel, .sentinel, .pinned], laidTests := true, laidLooks := .later }
def LevelTextsCardSaid : Prop := Claim7.holds Tryz.pinned (.plain (OpenSpec.ofChange levelTextsSpec)) levelTextsCard

/-- THE TIED CARD OF 'euclidlaw01.LevelUnique'. -/
def levelUniqueCard : Claim7 := { stood := { row := levelUniqueRow, standIns := [], harness := (true, "5e7632e2b5e91e2e64ce9ca6ac393cc93f51a5042e08c0e4f1680a28b429fecc"), looks := true }, kinds := [], alts := [], laidByText := true, laidKinds := [.data, .data, .data, .data, .sentinel, .sentinel, .pinned], laidTests := true, laidLooks := .later }
def LevelUniqueCardSaid : Prop := Claim7.holds Tryz.pinned (.plain (OpenSpec.ofChange levelUniqueSpec)) levelUniqueCard

/-- THE TIED CARD OF 'euclidlaw01.LevelValues'. -/
def levelValuesCard : Claim7 := { stood := { row := levelValuesRow, standIns := [], harness := (true, "5e7632e2b5e91e2e64ce9ca6ac393cc93f51a5042e08c0e4f1680a28b429fecc"), looks := true }, kinds := [], alts := [], laidByText := true, laidKinds := [.data, .data, .data, .data, .sentinel, .sentinel, .pinned], laidTests := true, laidLooks := .later }
def LevelValuesCardSaid : Prop := Claim7.holds Tryz.pinned (.plain (OpenSpec.ofChange levelValuesSpec)) levelValuesCard

/-- THE TIED CARD OF 'euclidlaw01.LevelSubsts'. -/
def levelSubstsCard : Claim7 := { stood := { row := levelSubstsRow, standIns := [], harness := (true, "5e7632e2b5e91e2e64ce9ca6ac393cc93f51a5042e08c0e4f1680a28b429fecc"), looks := true }, kinds := [], alts := [], laidByText := true, laidKinds := [.data, .data, .data, .data, .sentinel, .sentinel, .pinned], laidTests := true, laidLooks := .later }
def LevelSubstsCardSaid : Prop := Claim7.holds Tryz.pinned (.plain (OpenSpec.ofChange levelSubstsSpec)) levelSubstsCard

/-- THE TIED CARD OF 'euclidlaw01.LevelEvals'. -/
def levelEvalsCard : Claim7 := { stood := { row := levelEvalsRow, standIns := [], harness := (true, "5e7632e2b5e91e2e64ce9ca6ac393cc93f51a5042e08c0e4f1680a28b429fecc"), looks := true }, kinds := [], alts := [], laidByText := true, laidKinds := [.data, .data, .data, .data, .sentinel, .sentinel, .pinned], laidTests := true, laidLooks := .later }
def LevelEvalsCardSaid : Prop := Claim7.holds Tryz.pinned (.plain (OpenSpec.ofChange levelEvalsSpec)) levelEvalsCard

/-- THE SECOND FORM's CARD OF 'euclidlaw01.LevelMakes'. -/
def levelMakesUptoCard : Claim7 := { stood := { row := levelMakesUptoRow, standIns := [], harness := (true, "5e7632e2b5e91e2e64ce9ca6ac393cc93f51a5042e08c0e4f1680a28b429fecc"), looks := true }, kinds := [], alts := [], laidByText := true, laidKinds := [.data, .data, .data, .data, .sentinel, .sentinel, .pinned], laidTests := true, laidLooks := .later }
def LevelMakesUptoCardSaid : Prop := Claim7.holds Tryz.pinned (.plain (OpenSpec.upto levelMakesSpec)) levelMakesUptoCard

/-- THE SECOND FORM's CARD OF 'euclidlaw01.LevelAdds'. -/
def levelAddsUptoCard : Claim7 := { stood := { row := levelAddsUptoRow, standIns := [], harness := (true, "5e7632e2b5e91e2e64ce9ca6ac393cc93f51a5042e08c0e4f1680a28b429fecc"), looks := true }, kinds := [], alts := [], laidByText := true, laidKinds := [.data, .data, .data, .data, .sentinel, .sentinel, .pinned], laidTests := true, laidLooks := .later }
def LevelAddsUptoCardSaid : Prop := Claim7.holds Tryz.pinned (.plain (OpenSpec.upto levelAddsSpec)) levelAddsUptoCard

/-- THE SECOND FORM's CARD OF 'euclidlaw01.LevelParses'. -/
def levelParsesUptoCard : Claim7 := { stood := { row := levelParsesUptoRow, standIns := [], harness := (true, "5e7632e2b5e91e2e64ce9ca6ac393cc93f51a5042e08c0e4f1680a28b429fecc"), looks := true }, kinds := [], alts := [], laidByText := true, laidKinds := [.data, .data, .data, .data, .sentinel, .sentinel, .pinned], laidTests := true, laidLooks := .later }
def LevelParsesUptoCardSaid : Prop := Claim7.holds Tryz.pinned (.plain (OpenSpec.upto levelParsesSpec)) levelParsesUptoCard

/-- THE SECOND FORM's CARD OF 'euclidlaw01.LevelBelow'. -/
def levelBelowUptoCard : Claim7 := { stood := { row := levelBelowUptoRow, standIns := [], harness := (true, "5e7632e2b5e91e2e64ce9ca6ac393cc93f51a5042e08c0e4f1680a28b429fecc"), looks := true }, kinds := [], alts := [], laidByText := true, laidKinds := [.data, .data, .data, .data, .sentinel, .sentinel, .pinned], laidTests := true, laidLooks := .later }
def LevelBelowUptoCardSaid : Prop := Claim7.holds Tryz.pinned (.plain (OpenSpec.upto levelBelowSpec)) levelBelowUptoCard

/-- THE SECOND FORM's CARD OF 'euclidlaw01.LevelCompares'. -/
def levelComparesUptoCard : Claim7 := { stood := { row := levelComparesUptoRow, standIns := [], harness := (true, "5e7632e2b5e91e2e64ce9ca6ac393cc93f51a5042e08c0e4f1680a28b429fecc"), looks := true }, kinds := [], alts := [], laidByText := true, laidKinds := [.data, .data, .data, .data, .sentinel, .sentinel, .pinned], laidTests := true, laidLooks := .later }
def LevelComparesUptoCardSaid : Prop := Claim7.holds Tryz.pinned (.plain (OpenSpec.upto levelComparesSpec)) levelComparesUptoCard

/-- THE SECOND FORM's CARD OF 'euclidlaw01.LevelTexts'. -/
def levelTextsUptoCard : Claim7 := { stood := { row := levelTextsUptoRow, standIns := [], harness := (true, "5e7632e2b5e91e2e64ce9ca6ac393cc93f51a5042e08c0e4f1680a28b429fecc"), looks := true }, kinds := [], alts := [], laidByText := true, laidKinds := [.data, .data, .data, .data, .sentinel, .sentinel, .pinned], laidTests := true, laidLooks := .later }
def LevelTextsUptoCardSaid : Prop := Claim7.holds Tryz.pinned (.plain (OpenSpec.upto levelTextsSpec)) levelTextsUptoCard

/-- THE SECOND FORM's CARD OF 'euclidlaw01.LevelUnique'. -/
def levelUniqueUptoCard : Claim7 := { stood := { row := levelUniqueUptoRow, standIns := [], harness := (true, "5e7632e2b5e91e2e64ce9ca6ac393cc93f51a5042e08c0e4f1680a28b429fecc"), looks := true }, kinds := [], alts := [], laidByText := true, laidKinds := [.data, .data, .data, .data, .sentinel, .sentinel, .pinned], laidTests := true, laidLooks := .later }
def LevelUniqueUptoCardSaid : Prop := Claim7.holds Tryz.pinned (.plain (OpenSpec.upto levelUniqueSpec)) levelUniqueUptoCard

/-- THE SECOND FORM's CARD OF 'euclidlaw01.LevelValues'. -/
def levelValuesUptoCard : Claim7 := { stood := { row := levelValuesUptoRow, standIns := [], harness := (true, "5e7632e2b5e91e2e64ce9ca6ac393cc93f51a5042e08c0e4f1680a28b429fecc"), looks := true }, kinds := [], alts := [], laidByText := true, laidKinds := [.data, .data, .data, .data, .sentinel, .sentinel, .pinned], laidTests := true, laidLooks := .later }
def LevelValuesUptoCardSaid : Prop := Claim7.holds Tryz.pinned (.plain (OpenSpec.upto levelValuesSpec)) levelValuesUptoCard

/-- THE SECOND FORM's CARD OF 'euclidlaw01.LevelSubsts'. -/
def levelSubstsUptoCard : Claim7 := { stood := { row := levelSubstsUptoRow, standIns := [], harness := (true, "5e7632e2b5e91e2e64ce9ca6ac393cc93f51a5042e08c0e4f1680a28b429fecc"), looks := true }, kinds := [], alts := [], laidByText := true, laidKinds := [.data, .data, .data, .data, .sentinel, .sentinel, .pinned], laidTests := true, laidLooks := .later }
def LevelSubstsUptoCardSaid : Prop := Claim7.holds Tryz.pinned (.plain (OpenSpec.upto levelSubstsSpec)) levelSubstsUptoCard

/-- THE SECOND FORM's CARD OF 'euclidlaw01.LevelEvals'. -/
def levelEvalsUptoCard : Claim7 := { stood := { row := levelEvalsUptoRow, standIns := [], harness := (true, "5e7632e2b5e91e2e64ce9ca6ac393cc93f51a5042e08c0e4f1680a28b429fecc"), looks := true }, kinds := [], alts := [], laidByText := true, laidKinds := [.data, .data, .data, .data, .sentinel, .sentinel, .pinned], laidTests := true, laidLooks := .later }
def LevelEvalsUptoCardSaid : Prop := Claim7.holds Tryz.pinned (.plain (OpenSpec.upto levelEvalsSpec)) levelEvalsUptoCard
end Rows
end Go.Proofs.YtcapifnaceegmaaGreatDoor
