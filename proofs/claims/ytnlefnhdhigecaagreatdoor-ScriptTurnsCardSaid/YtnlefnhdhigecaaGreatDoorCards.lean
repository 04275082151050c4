/-
  DERIVED. GIVEN WITH THE SEED: THE CARDS: each row of YtnlefnhdhigecaaGreatDoorRows.lean that lists a variable, with what it lists TIED to the program's text (the seventh form; the later family's looks); each row that meets fmt, with fmt's text TOLD by the authors' own Lean function (tested against real Go, not proved from fmt's source: count such statements apart). THE CARD IS WHAT COUNTS. Prove the row's statement (the work); the ties are given (YtnlefnhdhigecaaGreatDoorTie.lean); close each card by the builder's one call (the guide's Derived/Test/ToyasCard.lean, 'card_holds'). Laid BY PROGRAM, IN A SANDBOX (cutbox-door.mjs). By AI agents, Wed Nov 11 2026. No macro, syntax, notation, axiom, sorry.
-/
import Derived.Test.YtnlefnhdhigecaaGreatDoorRows
import GoSem.ClaimSeven
namespace Go.Proofs.YtnlefnhdhigecaaGreatDoor
namespace Rows

/-- THE TIED CARD OF 'aviarylaw11.TreePlays'. -/
def treePlaysCard : Claim7 := { stood := { row := treePlaysRow, standIns := [], harness := (true, "9ce38cd0acd78ddf4b93e191045823089ad3b0909ad73fde1580193d20591027"), looks := true }, kinds := [], alts := [], laidByText := true, laidKinds := [.data, .data, .data, .data, .pinned], laidTests := true, laidLooks := .later }
def TreePlaysCardSaid : Prop := Claim7.holds Tryz.pinned (.plain (OpenSpec.ofChange treePlaysSpec)) treePlaysCard

/-- THE TIED CARD OF 'aviarylaw21.SoloOrder'. -/
def soloOrderCard : Claim7 := { stood := { row := soloOrderRow, standIns := [], harness := (true, "9ce38cd0acd78ddf4b93e191045823089ad3b0909ad73fde1580193d20591027"), looks := true }, kinds := [], alts := [], laidByText := true, laidKinds := [.data, .data, .data, .data, .pinned], laidTests := true, laidLooks := .later }
def SoloOrderCardSaid : Prop := Claim7.holds Tryz.pinned (.plain (OpenSpec.ofChange soloOrderSpec)) soloOrderCard

/-- THE TIED CARD OF 'aviarylaw21.SoloEvents'. -/
def soloEventsCard : Claim7 := { stood := { row := soloEventsRow, standIns := [], harness := (true, "9ce38cd0acd78ddf4b93e191045823089ad3b0909ad73fde1580193d20591027"), looks := true }, kinds := [], alts := [], laidByText := true, laidKinds := [.data, .data, .data, .data, .pinned], laidTests := true, laidLooks := .later }
def SoloEventsCardSaid : Prop := Claim7.holds Tryz.pinned (.plain (OpenSpec.ofChange soloEventsSpec)) soloEventsCard

/-- THE TIED CARD OF 'aviarylaw21.SoloAgain'. -/
def soloAgainCard : Claim7 := { stood := { row := soloAgainRow, standIns := [], harness := (true, "9ce38cd0acd78ddf4b93e191045823089ad3b0909ad73fde1580193d20591027"), looks := true }, kinds := [], alts := [], laidByText := true, laidKinds := [.data, .data, .data, .data, .pinned], laidTests := true, laidLooks := .later }
def SoloAgainCardSaid : Prop := Claim7.holds Tryz.pinned (.plain (OpenSpec.ofChange soloAgainSpec)) soloAgainCard

/-- THE TIED CARD OF 'aviarylaw21.SoloReads'. -/
def soloReadsCard : Claim7 := { stood := { row := soloReadsRow, standIns := [], harness := (true, "9ce38cd0acd78ddf4b93e191045823089ad3b0909ad73fde1580193d20591027"), looks := true }, kinds := [], alts := [], laidByText := true, laidKinds := [.data, .data, .data, .data, .pinned], laidTests := true, laidLooks := .later }
def SoloReadsCardSaid : Prop := Claim7.holds Tryz.pinned (.plain (OpenSpec.ofChange soloReadsSpec)) soloReadsCard

/-- THE TIED CARD OF 'aviarylaw21.SoloPlays'. -/
def soloPlaysCard : Claim7 := { stood := { row := soloPlaysRow, standIns := [], harness := (true, "9ce38cd0acd78ddf4b93e191045823089ad3b0909ad73fde1580193d20591027"), looks := true }, kinds := [], alts := [], laidByText := true, laidKinds := [.data, .data, .data, .data, .pinned], laidTests := true, laidLooks := .later }
def SoloPlaysCardSaid : Prop := Claim7.holds Tryz.pinned (.plain (OpenSpec.ofChange soloPlaysSpec)) soloPlaysCard

/-- THE TIED CARD OF 'aviarylaw28.ScriptKnown'. -/
def scriptKnownCard : Claim7 := { stood := { row := scriptKnownRow, standIns := [], harness := (true, "9ce38cd0acd78ddf4b93e191045823089ad3b0909ad73fde1580193d20591027"), looks := true }, kinds := [], alts := [], laidByText := true, laidKinds := [.data, .data, .data, .data, .sentinel, .sentinel, .pinned], laidTests := true, laidLooks := .later }
def ScriptKnownCardSaid : Prop := Claim7.holds Tryz.pinned (.plain (OpenSpec.ofChange scriptKnownSpec)) scriptKnownCard

/-- THE TIED CARD OF 'aviarylaw28.ScriptForms'. -/
def scriptFormsCard : Claim7 := { stood := { row := scriptFormsRow, standIns := [], harness := (true, "9ce38cd0acd78ddf4b93e191045823089ad3b0909ad73fde1580193d20591027"), looks := true }, kinds := [], alts := [], laidByText := true, laidKinds := [.data, .data, .data, .data, .sentinel, .sentinel, .pinned], laidTests := true, laidLooks := .later }
def ScriptFormsCardSaid : Prop := Claim7.holds Tryz.pinned (.plain (OpenSpec.ofChange scriptFormsSpec)) scriptFormsCard

/-- THE TIED CARD OF 'aviarylaw28.ScriptTurns'. -/
def scriptTurnsCard : Claim7 := { stood := { row := scriptTurnsRow, standIns := [], harness := (true, "9ce38cd0acd78ddf4b93e191045823089ad3b0909ad73fde1580193d20591027"), looks := true }, kinds := [], alts := [], laidByText := true, laidKinds := [.data, .data, .data, .data, .sentinel, .sentinel, .pinned], laidTests := true, laidLooks := .later }
def ScriptTurnsCardSaid : Prop := Claim7.holds Tryz.pinned (.plain (OpenSpec.ofChange scriptTurnsSpec)) scriptTurnsCard

/-- THE TIED CARD OF 'aviarylaw28.ScriptAgain'. -/
def scriptAgainCard : Claim7 := { stood := { row := scriptAgainRow, standIns := [], harness := (true, "9ce38cd0acd78ddf4b93e191045823089ad3b0909ad73fde1580193d20591027"), looks := true }, kinds := [], alts := [], laidByText := true, laidKinds := [.data, .data, .data, .data, .sentinel, .sentinel, .pinned], laidTests := true, laidLooks := .later }
def ScriptAgainCardSaid : Prop := Claim7.holds Tryz.pinned (.plain (OpenSpec.ofChange scriptAgainSpec)) scriptAgainCard

/-- THE SECOND FORM's CARD OF 'aviarylaw11.TreePlays'. -/
def treePlaysUptoCard : Claim7 := { stood := { row := treePlaysUptoRow, standIns := [], harness := (true, "9ce38cd0acd78ddf4b93e191045823089ad3b0909ad73fde1580193d20591027"), looks := true }, kinds := [], alts := [], laidByText := true, laidKinds := [.data, .data, .data, .data, .pinned], laidTests := true, laidLooks := .later }
def TreePlaysUptoCardSaid : Prop := Claim7.holds Tryz.pinned (.plain (OpenSpec.upto treePlaysSpec)) treePlaysUptoCard

/-- THE SECOND FORM's CARD OF 'aviarylaw21.SoloOrder'. -/
def soloOrderUptoCard : Claim7 := { stood := { row := soloOrderUptoRow, standIns := [], harness := (true, "9ce38cd0acd78ddf4b93e191045823089ad3b0909ad73fde1580193d20591027"), looks := true }, kinds := [], alts := [], laidByText := true, laidKinds := [.data, .data, .data, .data, .pinned], laidTests := true, laidLooks := .later }
def SoloOrderUptoCardSaid : Prop := Claim7.holds Tryz.pinned (.plain (OpenSpec.upto soloOrderSpec)) soloOrderUptoCard

/-- THE SECOND FORM's CARD OF 'aviarylaw21.SoloEvents'. -/
def soloEventsUptoCard : Claim7 := { stood := { row := soloEventsUptoRow, standIns := [], harness := (true, "9ce38cd0acd78ddf4b93e191045823089ad3b0909ad73fde1580193d20591027"), looks := true }, kinds := [], alts := [], laidByText := true, laidKinds := [.data, .data, .data, .data, .pinned], laidTests := true, laidLooks := .later }
def SoloEventsUptoCardSaid : Prop := Claim7.holds Tryz.pinned (.plain (OpenSpec.upto soloEventsSpec)) soloEventsUptoCard

/-- THE SECOND FORM's CARD OF 'aviarylaw21.SoloAgain'. -/
def soloAgainUptoCard : Claim7 := { stood := { row := soloAgainUptoRow, standIns := [], harness := (true, "9ce38cd0acd78ddf4b93e191045823089ad3b0909ad73fde1580193d20591027"), looks := true }, kinds := [], alts := [], laidByText := true, laidKinds := [.data, .data, .data, .data, .pinned], laidTests := true, laidLooks := .later }
def SoloAgainUptoCardSaid : Prop := Claim7.holds Tryz.pinned (.plain (OpenSpec.upto soloAgainSpec)) soloAgainUptoCard

/-- THE SECOND FORM's CARD OF 'aviarylaw21.SoloReads'. -/
def soloReadsUptoCard : Claim7 := { stood := { row := soloReadsUptoRow, standIns := [], harness := (true, "9ce38cd0acd78ddf4b93e191045823089ad3b0909ad73fde1580193d20591027"), looks := true }, kinds := [], alts := [], laidByText := true, laidKinds := [.data, .data, .data, .data, .pinned], laidTests := true, laidLooks := .later }
def SoloReadsUptoCardSaid : Prop := Claim7.holds Tryz.pinned (.plain (OpenSpec.upto soloReadsSpec)) soloReadsUptoCard

/-- THE SECOND FORM's CARD OF 'aviarylaw21.SoloPlays'. -/
def soloPlaysUptoCard : Claim7 := { stood := { row := soloPlaysUptoRow, standIns := [], harness := (true, "9ce38cd0acd78ddf4b93e191045823089ad3b0909ad73fde1580193d20591027"), looks := true }, kinds := [], alts := [], laidByText := true, laidKinds := [.data, .data, .data, .data, .pinned], laidTests := true, laidLooks := .later }
def SoloPlaysUptoCardSaid : Prop := Claim7.holds Tryz.pinned (.plain (OpenSpec.upto soloPlaysSpec)) soloPlaysUptoCard

/-- THE SECOND FORM's CARD OF 'aviarylaw28.ScriptKnown'. -/
def scriptKnownUptoCard : Claim7 := { stood := { row := scriptKnownUptoRow, standIns := [], harness := (true, "9ce38cd0acd78ddf4b93e191045823089ad3b0909ad73fde1580193d20591027"), looks := true }, kinds := [], alts := [], laidByText := true, laidKinds := [.data, .data, .data, .data, .sentinel, .sentinel, .pinned], laidTests := true, laidLooks := .later }
def ScriptKnownUptoCardSaid : Prop := Claim7.holds Tryz.pinned (.plain (OpenSpec.upto scriptKnownSpec)) scriptKnownUptoCard

/-- THE SECOND FORM's CARD OF 'aviarylaw28.ScriptForms'. -/
def scriptFormsUptoCard : Claim7 := { stood := { row := scriptFormsUptoRow, standIns := [], harness := (true, "9ce38cd0acd78ddf4b93e191045823089ad3b0909ad73fde1580193d20591027"), looks := true }, kinds := [], alts := [], laidByText := true, laidKinds := [.data, .data, .data, .data, .sentinel, .sentinel, .pinned], laidTests := true, laidLooks := .later }
def ScriptFormsUptoCardSaid : Prop := Claim7.holds Tryz.pinned (.plain (OpenSpec.upto scriptFormsSpec)) scriptFormsUptoCard

/-- THE SECOND FORM's CARD OF 'aviarylaw28.ScriptTurns'. -/
def scriptTurnsUptoCard : Claim7 := { stood := { row := scriptTurnsUptoRow, standIns := [], harness := (true, "9ce38cd0acd78ddf4b93e191045823089ad3b0909ad73fde1580193d20591027"), looks := true }, kinds := [], alts := [], laidByText := true, laidKinds := [.data, .data, .data, .data, .sentinel, .sentinel, .pinned], laidTests := true, laidLooks := .later }
def ScriptTurnsUptoCardSaid : Prop := Claim7.holds Tryz.pinned (.plain (OpenSpec.upto scriptTurnsSpec)) scriptTurnsUptoCard

/-- THE SECOND FORM's CARD OF 'aviarylaw28.ScriptAgain'. -/
def scriptAgainUptoCard : Claim7 := { stood := { row := scriptAgainUptoRow, standIns := [], harness := (true, "9ce38cd0acd78ddf4b93e191045823089ad3b0909ad73fde1580193d20591027"), looks := true }, kinds := [], alts := [], laidByText := true, laidKinds := [.data, .data, .data, .data, .sentinel, .sentinel, .pinned], laidTests := true, laidLooks := .later }
def ScriptAgainUptoCardSaid : Prop := Claim7.holds Tryz.pinned (.plain (OpenSpec.upto scriptAgainSpec)) scriptAgainUptoCard
end Rows
end Go.Proofs.YtnlefnhdhigecaaGreatDoor
