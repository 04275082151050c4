/-
  DERIVED. GIVEN WITH THE SEED: THE CARDS: each row of YtnkhmkcpdgmjmaaGreatDoorRows.lean that lists a variable, with what it lists TIED to the program's text (the seventh form; the later family's looks); each row that meets fmt, with fmt's text TOLD by the authors' own Lean function (tested against real Go, not proved from fmt's source: count such statements apart). THE CARD IS WHAT COUNTS. Prove the row's statement (the work); the ties are given (YtnkhmkcpdgmjmaaGreatDoorTie.lean); close each card by the builder's one call (the guide's Derived/Test/ToyasCard.lean, 'card_holds'). Laid BY PROGRAM, IN A SANDBOX (cutbox-door.mjs). By AI agents, Wed Nov 11 2026. No macro, syntax, notation, axiom, sorry.
-/
import Derived.Test.YtnkhmkcpdgmjmaaGreatDoorRows
import GoSem.ClaimSeven
namespace Go.Proofs.YtnkhmkcpdgmjmaaGreatDoor
namespace Rows

/-- THE TIED CARD OF 'aviarylaw11.TreePlays'. -/
def treePlaysCard : Claim7 := { stood := { row := treePlaysRow, standIns := [], harness := (true, "b10a43fe036c9506ac59342f66749becbd40ff19115b83e7a6d3518b02096477"), looks := true }, kinds := [], alts := [], laidByText := true, laidKinds := [.data, .data, .data, .data, .pinned], laidTests := true, laidLooks := .later }
def TreePlaysCardSaid : Prop := Claim7.holds Tryz.pinned (.plain (OpenSpec.ofChange treePlaysSpec)) treePlaysCard

/-- THE TIED CARD OF 'aviarylaw21.SoloGone'. -/
def soloGoneCard : Claim7 := { stood := { row := soloGoneRow, standIns := [], harness := (true, "b10a43fe036c9506ac59342f66749becbd40ff19115b83e7a6d3518b02096477"), looks := true }, kinds := [], alts := [], laidByText := true, laidKinds := [.data, .data, .data, .data, .pinned], laidTests := true, laidLooks := .later }
def SoloGoneCardSaid : Prop := Claim7.holds Tryz.pinned (.plain (OpenSpec.ofChange soloGoneSpec)) soloGoneCard

/-- THE TIED CARD OF 'aviarylaw21.SoloKnown'. -/
def soloKnownCard : Claim7 := { stood := { row := soloKnownRow, standIns := [], harness := (true, "b10a43fe036c9506ac59342f66749becbd40ff19115b83e7a6d3518b02096477"), looks := true }, kinds := [], alts := [], laidByText := true, laidKinds := [.data, .data, .data, .data, .pinned], laidTests := true, laidLooks := .later }
def SoloKnownCardSaid : Prop := Claim7.holds Tryz.pinned (.plain (OpenSpec.ofChange soloKnownSpec)) soloKnownCard

/-- THE TIED CARD OF 'aviarylaw21.SoloPlays'. -/
def soloPlaysCard : Claim7 := { stood := { row := soloPlaysRow, standIns := [], harness := (true, "b10a43fe036c9506ac59342f66749becbd40ff19115b83e7a6d3518b02096477"), looks := true }, kinds := [], alts := [], laidByText := true, laidKinds := [.data, .data, .data, .data, .pinned], laidTests := true, laidLooks := .later }
def SoloPlaysCardSaid : Prop := Claim7.holds Tryz.pinned (.plain (OpenSpec.ofChange soloPlaysSpec)) soloPlaysCard

/-- THE TIED CARD OF 'aviarylaw28.ScriptKnown'. -/
def scriptKnownCard : Claim7 := { stood := { row := scriptKnownRow, standIns := [], harness := (true, "b10a43fe036c9506ac59342f66749becbd40ff19115b83e7a6d3518b02096477"), looks := true }, kinds := [], alts := [], laidByText := true, laidKinds := [.data, .data, .data, .data, .sentinel, .sentinel, .pinned], laidTests := true, laidLooks := .later }
def ScriptKnownCardSaid : Prop := Claim7.holds Tryz.pinned (.plain (OpenSpec.ofChange scriptKnownSpec)) scriptKnownCard

/-- THE TIED CARD OF 'aviarylaw28.ScriptForms'. -/
def scriptFormsCard : Claim7 := { stood := { row := scriptFormsRow, standIns := [], harness := (true, "b10a43fe036c9506ac59342f66749becbd40ff19115b83e7a6d3518b02096477"), looks := true }, kinds := [], alts := [], laidByText := true, laidKinds := [.data, .data, .data, .data, .sentinel, .sentinel, .pinned], laidTests := true, laidLooks := .later }
def ScriptFormsCardSaid : Prop := Claim7.holds Tryz.pinned (.plain (OpenSpec.ofChange scriptFormsSpec)) scriptFormsCard

/-- THE TIED CARD OF 'aviarylaw28.ScriptTurns'. -/
def scriptTurnsCard : Claim7 := { stood := { row := scriptTurnsRow, standIns := [], harness := (true, "b10a43fe036c9506ac59342f66749becbd40ff19115b83e7a6d3518b02096477"), looks := true }, kinds := [], alts := [], laidByText := true, laidKinds := [.data, .data, .data, .data, .sentinel, .sentinel, .pinned], laidTests := true, laidLooks := .later }
def ScriptTurnsCardSaid : Prop := Claim7.holds Tryz.pinned (.plain (OpenSpec.ofChange scriptTurnsSpec)) scriptTurnsCard

/-- THE TIED CARD OF 'aviarylaw28.ScriptAgain'. -/
def scriptAgainCard : Claim7 := { stood := { row := scriptAgainRow, standIns := [], harness := (true, "b10a43fe036c9506ac59342f66749becbd40ff19115b83e7a6d3518b02096477"), looks := true }, kinds := [], alts := [], laidByText := true, laidKinds := [.data, .data, .data, .data, .sentinel, .sentinel, .pinned], laidTests := true, laidLooks := .later }
def ScriptAgainCardSaid : Prop := Claim7.holds Tryz.pinned (.plain (OpenSpec.ofChange scriptAgainSpec)) scriptAgainCard

/-- THE SECOND FORM's CARD OF 'aviarylaw11.TreePlays'. -/
def treePlaysUptoCard : Claim7 := { stood := { row := treePlaysUptoRow, standIns := [], harness := (true, "b10a43fe036c9506ac59342f66749becbd40ff19115b83e7a6d3518b02096477"), looks := true }, kinds := [], alts := [], laidByText := true, laidKinds := [.data, .data, .data, .data, .pinned], laidTests := true, laidLooks := .later }
def TreePlaysUptoCardSaid : Prop := Claim7.holds Tryz.pinned (.plain (OpenSpec.upto treePlaysSpec)) treePlaysUptoCard

/-- THE SECOND FORM's CARD OF 'aviarylaw21.SoloGone'. -/
def soloGoneUptoCard : Claim7 := { stood := { row := soloGoneUptoRow, standIns := [], harness := (true, "b10a43fe036c9506ac59342f66749becbd40ff19115b83e7a6d3518b02096477"), looks := true }, kinds := [], alts := [], laidByText := true, laidKinds := [.data, .data, .data, .data, .pinned], laidTests := true, laidLooks := .later }
def SoloGoneUptoCardSaid : Prop := Claim7.holds Tryz.pinned (.plain (OpenSpec.upto soloGoneSpec)) soloGoneUptoCard

/-- THE SECOND FORM's CARD OF 'aviarylaw21.SoloKnown'. -/
def soloKnownUptoCard : Claim7 := { stood := { row := soloKnownUptoRow, standIns := [], harness := (true, "b10a43fe036c9506ac59342f66749becbd40ff19115b83e7a6d3518b02096477"), looks := true }, kinds := [], alts := [], laidByText := true, laidKinds := [.data, .data, .data, .data, .pinned], laidTests := true, laidLooks := .later }
def SoloKnownUptoCardSaid : Prop := Claim7.holds Tryz.pinned (.plain (OpenSpec.upto soloKnownSpec)) soloKnownUptoCard

/-- THE SECOND FORM's CARD OF 'aviarylaw21.SoloPlays'. -/
def soloPlaysUptoCard : Claim7 := { stood := { row := soloPlaysUptoRow, standIns := [], harness := (true, "b10a43fe036c9506ac59342f66749becbd40ff19115b83e7a6d3518b02096477"), looks := true }, kinds := [], alts := [], laidByText := true, laidKinds := [.data, .data, .data, .data, .pinned], laidTests := true, laidLooks := .later }
def SoloPlaysUptoCardSaid : Prop := Claim7.holds Tryz.pinned (.plain (OpenSpec.upto soloPlaysSpec)) soloPlaysUptoCard

/-- THE SECOND FORM's CARD OF 'aviarylaw28.ScriptKnown'. -/
def scriptKnownUptoCard : Claim7 := { stood := { row := scriptKnownUptoRow, standIns := [], harness := (true, "b10a43fe036c9506ac59342f66749becbd40ff19115b83e7a6d3518b02096477"), looks := true }, kinds := [], alts := [], laidByText := true, laidKinds := [.data, .data, .data, .data, .sentinel, .sentinel, .pinned], laidTests := true, laidLooks := .later }
def ScriptKnownUptoCardSaid : Prop := Claim7.holds Tryz.pinned (.plain (OpenSpec.upto scriptKnownSpec)) scriptKnownUptoCard

/-- THE SECOND FORM's CARD OF 'aviarylaw28.ScriptForms'. -/
def scriptFormsUptoCard : Claim7 := { stood := { row := scriptFormsUptoRow, standIns := [], harness := (true, "b10a43fe036c9506ac59342f66749becbd40ff19115b83e7a6d3518b02096477"), looks := true }, kinds := [], alts := [], laidByText := true, laidKinds := [.data, .data, .data, .data, .sentinel, .sentinel, .pinned], laidTests := true, laidLooks := .later }
def ScriptFormsUptoCardSaid : Prop := Claim7.holds Tryz.pinned (.plain (OpenSpec.upto scriptFormsSpec)) scriptFormsUptoCard

/-- THE SECOND FORM's CARD OF 'aviarylaw28.ScriptTurns'. -/
def scriptTurnsUptoCard : Claim7 := { stood := { row := scriptTurnsUptoRow, standIns := [], harness := (true, "b10a43fe036c9506ac59342f66749becbd40ff19115b83e7a6d3518b02096477"), looks := true }, kinds := [], alts := [], laidByText := true, laidKinds := [.data, .data, .data, .data, .sentinel, .sentinel, .pinned], laidTests := true, laidLooks := .later }
def ScriptTurnsUptoCardSaid : Prop := Claim7.holds Tryz.pinned (.plain (OpenSpec.upto scriptTurnsSpec)) scriptTurnsUptoCard

/-- THE SECOND FORM's CARD OF 'aviarylaw28.ScriptAgain'. -/
def scriptAgainUptoCard : Claim7 := { stood := { row := scriptAgainUptoRow, standIns := [], harness := (true, "b10a43fe036c9506ac59342f66749becbd40ff19115b83e7a6d3518b02096477"), looks := true }, kinds := [], alts := [], laidByText := true, laidKinds := [.data, .data, .data, .data, .sentinel, .sentinel, .pinned], laidTests := true, laidLooks := .later }
def ScriptAgainUptoCardSaid : Prop := Claim7.holds Tryz.pinned (.plain (OpenSpec.upto scriptAgainSpec)) scriptAgainUptoCard
end Rows
end Go.Proofs.YtnkhmkcpdgmjmaaGreatDoor
