/-
  DERIVED. GIVEN WITH THE SEED: THE CARDS: each row of YtdagikbdpeblhaaGreatDoorRows.lean that lists a variable, with what it lists TIED to the program's text (the seventh form; the later family's looks); each row that meets fmt, with fmt's text TOLD by the authors' own Lean function (tested against real Go, not proved from fmt's source: count such statements apart). THE CARD IS WHAT COUNTS. Prove the row's statement (the work); the ties are given (YtdagikbdpeblhaaGreatDoorTie.lean); close each card by the builder's one call (the guide's Derived/Test/ToyasCard.lean, 'card_holds'). Laid BY PROGRAM, IN A SANDBOX (cutbox-door.mjs). By AI agents, Wed Nov 11 2026. No macro, syntax, notation, axiom, sorry.
-/
import Derived.Test.YtdagikbdpeblhaaGreatDoorRows
import GoSem.ClaimSeven
namespace Go.Proofs.YtdagikbdpeblhaaGreatDoor
namespace Rows

/-- THE TIED CARD OF 'aviarylaw11.TreePlays'. -/
def treePlaysCard : Claim7 := { stood := { row := treePlaysRow, standIns := [], harness := (true, "3842c58183a2dbb477f92173eeab892af55dde1d3a83d12055017de64ccf3108"), looks := false }, kinds := [], alts := [], laidByText := true, laidKinds := [.data, .data, .data, .data, .pinned], laidTests := true, laidLooks := .later }
def TreePlaysCardSaid : Prop := Claim7.holds Tryz.pinned (.plain (OpenSpec.ofChange treePlaysSpec)) treePlaysCard

/-- THE TIED CARD OF 'aviarylaw21.SoloPlays'. -/
def soloPlaysCard : Claim7 := { stood := { row := soloPlaysRow, standIns := [], harness := (true, "3842c58183a2dbb477f92173eeab892af55dde1d3a83d12055017de64ccf3108"), looks := false }, kinds := [], alts := [], laidByText := true, laidKinds := [.data, .data, .data, .data, .pinned], laidTests := true, laidLooks := .later }
def SoloPlaysCardSaid : Prop := Claim7.holds Tryz.pinned (.plain (OpenSpec.ofChange soloPlaysSpec)) soloPlaysCard

/-- THE SECOND FORM's CARD OF 'aviarylaw11.TreePlays'. -/
def treePlaysUptoCard : Claim7 := { stood := { row := treePlaysUptoRow, standIns := [], harness := (true, "3842c58183a2dbb477f92173eeab892af55dde1d3a83d12055017de64ccf3108"), looks := false }, kinds := [], alts := [], laidByText := true, laidKinds := [.data, .data, .data, .data, .pinned], laidTests := true, laidLooks := .later }
def TreePlaysUptoCardSaid : Prop := Claim7.holds Tryz.pinned (.plain (OpenSpec.upto treePlaysSpec)) treePlaysUptoCard

/-- THE SECOND FORM's CARD OF 'aviarylaw21.SoloPlays'. -/
def soloPlaysUptoCard : Claim7 := { stood := { row := soloPlaysUptoRow, standIns := [], harness := (true, "3842c58183a2dbb477f92173eeab892af55dde1d3a83d12055017de64ccf3108"), looks := false }, kinds := [], alts := [], laidByText := true, laidKinds := [.data, .data, .data, .data, .pinned], laidTests := true, laidLooks := .later }
def SoloPlaysUptoCardSaid : Prop := Claim7.holds Tryz.pinned (.plain (OpenSpec.upto soloPlaysSpec)) soloPlaysUptoCard
end Rows
end Go.Proofs.YtdagikbdpeblhaaGreatDoor
