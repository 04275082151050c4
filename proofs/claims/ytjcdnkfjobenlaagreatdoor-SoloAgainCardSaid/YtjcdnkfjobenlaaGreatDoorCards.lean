/-
  DERIVED. GIVEN WITH THE SEED: THE CARDS: each row of YtjcdnkfjobenlaaGreatDoorRows.lean that lists a variable, with what it lists TIED to the program's text (the seventh form; the later family's looks); each row that meets fmt, with fmt's text TOLD by the authors' own Lean function (tested against real Go, not proved from fmt's source: count such statements apart). THE CARD IS WHAT COUNTS. Prove the row's statement (the work); the ties are given (YtjcdnkfjobenlaaGreatDoorTie.lean); close each card by the builder's one call (the guide's Derived/Test/ToyasCard.lean, 'card_holds'). Laid BY PROGRAM, IN A SANDBOX (cutbox-door.mjs). By AI agents, Wed Nov 11 2026. No macro, syntax, notation, axiom, sorry.
-/
import Derived.Test.YtjcdnkfjobenlaaGreatDoorRows
import GoSem.ClaimSeven
namespace Go.Proofs.YtjcdnkfjobenlaaGreatDoor
namespace Rows

/-- THE TIED CARD OF 'aviarylaw11.TreePlays'. -/
def treePlaysCard : Claim7 := { stood := { row := treePlaysRow, standIns := [], harness := (true, "5ea952cd1329511d696659d30e91a47a9da50b4cf701dcd4f7895e082cd4805f"), looks := false }, kinds := [], alts := [], laidByText := true, laidKinds := [.data, .data, .data, .data, .pinned], laidTests := true, laidLooks := .later }
def TreePlaysCardSaid : Prop := Claim7.holds Tryz.pinned (.plain (OpenSpec.ofChange treePlaysSpec)) treePlaysCard

/-- THE TIED CARD OF 'aviarylaw21.SoloOrder'. -/
def soloOrderCard : Claim7 := { stood := { row := soloOrderRow, standIns := [], harness := (true, "5ea952cd1329511d696659d30e91a47a9da50b4cf701dcd4f7895e082cd4805f"), looks := false }, kinds := [], alts := [], laidByText := true, laidKinds := [.data, .data, .data, .data, .pinned], laidTests := true, laidLooks := .later }
def SoloOrderCardSaid : Prop := Claim7.holds Tryz.pinned (.plain (OpenSpec.ofChange soloOrderSpec)) soloOrderCard

/-- THE TIED CARD OF 'aviarylaw21.SoloEvents'. -/
def soloEventsCard : Claim7 := { stood := { row := soloEventsRow, standIns := [], harness := (true, "5ea952cd1329511d696659d30e91a47a9da50b4cf701dcd4f7895e082cd4805f"), looks := false }, kinds := [], alts := [], laidByText := true, laidKinds := [.data, .data, .data, .data, .pinned], laidTests := true, laidLooks := .later }
def SoloEventsCardSaid : Prop := Claim7.holds Tryz.pinned (.plain (OpenSpec.ofChange soloEventsSpec)) soloEventsCard

/-- THE TIED CARD OF 'aviarylaw21.SoloAgain'. -/
def soloAgainCard : Claim7 := { stood := { row := soloAgainRow, standIns := [], harness := (true, "5ea952cd1329511d696659d30e91a47a9da50b4cf701dcd4f7895e082cd4805f"), looks := false }, kinds := [], alts := [], laidByText := true, laidKinds := [.data, .data, .data, .data, .pinned], laidTests := true, laidLooks := .later }
def SoloAgainCardSaid : Prop := Claim7.holds Tryz.pinned (.plain (OpenSpec.ofChange soloAgainSpec)) soloAgainCard

/-- THE TIED CARD OF 'aviarylaw21.SoloReads'. -/
def soloReadsCard : Claim7 := { stood := { row := soloReadsRow, standIns := [], harness := (true, "5ea952cd1329511d696659d30e91a47a9da50b4cf701dcd4f7895e082cd4805f"), looks := false }, kinds := [], alts := [], laidByText := true, laidKinds := [.data, .data, .data, .data, .pinned], laidTests := true, laidLooks := .later }
def SoloReadsCardSaid : Prop := Claim7.holds Tryz.pinned (.plain (OpenSpec.ofChange soloReadsSpec)) soloReadsCard

/-- THE TIED CARD OF 'aviarylaw21.SoloGone'. -/
def soloGoneCard : Claim7 := { stood := { row := soloGoneRow, standIns := [], harness := (true, "5ea952cd1329511d696659d30e91a47a9da50b4cf701dcd4f7895e082cd4805f"), looks := false }, kinds := [], alts := [], laidByText := true, laidKinds := [.data, .data, .data, .data, .pinned], laidTests := true, laidLooks := .later }
def SoloGoneCardSaid : Prop := Claim7.holds Tryz.pinned (.plain (OpenSpec.ofChange soloGoneSpec)) soloGoneCard

/-- THE TIED CARD OF 'aviarylaw21.SoloKnown'. -/
def soloKnownCard : Claim7 := { stood := { row := soloKnownRow, standIns := [], harness := (true, "5ea952cd1329511d696659d30e91a47a9da50b4cf701dcd4f7895e082cd4805f"), looks := false }, kinds := [], alts := [], laidByText := true, laidKinds := [.data, .data, .data, .data, .pinned], laidTests := true, laidLooks := .later }
def SoloKnownCardSaid : Prop := Claim7.holds Tryz.pinned (.plain (OpenSpec.ofChange soloKnownSpec)) soloKnownCard

/-- THE TIED CARD OF 'aviarylaw21.SoloPlays'. -/
def soloPlaysCard : Claim7 := { stood := { row := soloPlaysRow, standIns := [], harness := (true, "5ea952cd1329511d696659d30e91a47a9da50b4cf701dcd4f7895e082cd4805f"), looks := false }, kinds := [], alts := [], laidByText := true, laidKinds := [.data, .data, .data, .data, .pinned], laidTests := true, laidLooks := .later }
def SoloPlaysCardSaid : Prop := Claim7.holds Tryz.pinned (.plain (OpenSpec.ofChange soloPlaysSpec)) soloPlaysCard

/-- THE SECOND FORM's CARD OF 'aviarylaw11.TreePlays'. -/
def treePlaysUptoCard : Claim7 := { stood := { row := treePlaysUptoRow, standIns := [], harness := (true, "5ea952cd1329511d696659d30e91a47a9da50b4cf701dcd4f7895e082cd4805f"), looks := false }, kinds := [], alts := [], laidByText := true, laidKinds := [.data, .data, .data, .data, .pinned], laidTests := true, laidLooks := .later }
def TreePlaysUptoCardSaid : Prop := Claim7.holds Tryz.pinned (.plain (OpenSpec.upto treePlaysSpec)) treePlaysUptoCard

/-- THE SECOND FORM's CARD OF 'aviarylaw21.SoloOrder'. -/
def soloOrderUptoCard : Claim7 := { stood := { row := soloOrderUptoRow, standIns := [], harness := (true, "5ea952cd1329511d696659d30e91a47a9da50b4cf701dcd4f7895e082cd4805f"), looks := false }, kinds := [], alts := [], laidByText := true, laidKinds := [.data, .data, .data, .data, .pinned], laidTests := true, laidLooks := .later }
def SoloOrderUptoCardSaid : Prop := Claim7.holds Tryz.pinned (.plain (OpenSpec.upto soloOrderSpec)) soloOrderUptoCard

/-- THE SECOND FORM's CARD OF 'aviarylaw21.SoloEvents'. -/
def soloEventsUptoCard : Claim7 := { stood := { row := soloEventsUptoRow, standIns := [], harness := (true, "5ea952cd1329511d696659d30e91a47a9da50b4cf701dcd4f7895e082cd4805f"), looks := false }, kinds := [], alts := [], laidByText := true, laidKinds := [.data, .data, .data, .data, .pinned], laidTests := true, laidLooks := .later }
def SoloEventsUptoCardSaid : Prop := Claim7.holds Tryz.pinned (.plain (OpenSpec.upto soloEventsSpec)) soloEventsUptoCard

/-- THE SECOND FORM's CARD OF 'aviarylaw21.SoloAgain'. -/
def soloAgainUptoCard : Claim7 := { stood := { row := soloAgainUptoRow, standIns := [], harness := (true, "5ea952cd1329511d696659d30e91a47a9da50b4cf701dcd4f7895e082cd4805f"), looks := false }, kinds := [], alts := [], laidByText := true, laidKinds := [.data, .data, .data, .data, .pinned], laidTests := true, laidLooks := .later }
def SoloAgainUptoCardSaid : Prop := Claim7.holds Tryz.pinned (.plain (OpenSpec.upto soloAgainSpec)) soloAgainUptoCard

/-- THE SECOND FORM's CARD OF 'aviarylaw21.SoloReads'. -/
def soloReadsUptoCard : Claim7 := { stood := { row := soloReadsUptoRow, standIns := [], harness := (true, "5ea952cd1329511d696659d30e91a47a9da50b4cf701dcd4f7895e082cd4805f"), looks := false }, kinds := [], alts := [], laidByText := true, laidKinds := [.data, .data, .data, .data, .pinned], laidTests := true, laidLooks := .later }
def SoloReadsUptoCardSaid : Prop := Claim7.holds Tryz.pinned (.plain (OpenSpec.upto soloReadsSpec)) soloReadsUptoCard

/-- THE SECOND FORM's CARD OF 'aviarylaw21.SoloGone'. -/
def soloGoneUptoCard : Claim7 := { stood := { row := soloGoneUptoRow, standIns := [], harness := (true, "5ea952cd1329511d696659d30e91a47a9da50b4cf701dcd4f7895e082cd4805f"), looks := false }, kinds := [], alts := [], laidByText := true, laidKinds := [.data, .data, .data, .data, .pinned], laidTests := true, laidLooks := .later }
def SoloGoneUptoCardSaid : Prop := Claim7.holds Tryz.pinned (.plain (OpenSpec.upto soloGoneSpec)) soloGoneUptoCard

/-- THE SECOND FORM's CARD OF 'aviarylaw21.SoloKnown'. -/
def soloKnownUptoCard : Claim7 := { stood := { row := soloKnownUptoRow, standIns := [], harness := (true, "5ea952cd1329511d696659d30e91a47a9da50b4cf701dcd4f7895e082cd4805f"), looks := false }, kinds := [], alts := [], laidByText := true, laidKinds := [.data, .data, .data, .data, .pinned], laidTests := true, laidLooks := .later }
def SoloKnownUptoCardSaid : Prop := Claim7.holds Tryz.pinned (.plain (OpenSpec.upto soloKnownSpec)) soloKnownUptoCard

/-- THE SECOND FORM's CARD OF 'aviarylaw21.SoloPlays'. -/
def soloPlaysUptoCard : Claim7 := { stood := { row := soloPlaysUptoRow, standIns := [], harness := (true, "5ea952cd1329511d696659d30e91a47a9da50b4cf701dcd4f7895e082cd4805f"), looks := false }, kinds := [], alts := [], laidByText := true, laidKinds := [.data, .data, .data, .data, .pinned], laidTests := true, laidLooks := .later }
def SoloPlaysUptoCardSaid : Prop := Claim7.holds Tryz.pinned (.plain (OpenSpec.upto soloPlaysSpec)) soloPlaysUptoCard
end Rows
end Go.Proofs.YtjcdnkfjobenlaaGreatDoor
