/-
  DERIVED. GIVEN WITH THE SEED: THE CARDS: each row of YtjapjpigpakejaaGreatDoorRows.lean that lists a variable, with what it lists TIED to the program's text (the seventh form; the later family's looks); each row that meets fmt, with fmt's text TOLD by the authors' own Lean function (tested against real Go, not proved from fmt's source: count such statements apart). THE CARD IS WHAT COUNTS. Prove the row's statement (the work); the ties are given (YtjapjpigpakejaaGreatDoorTie.lean); close each card by the builder's one call (the guide's Derived/Test/ToyasCard.lean, 'card_holds'). Laid BY PROGRAM, IN A SANDBOX (cutbox-door.mjs). By AI agents, Wed Nov 11 2026. No macro, syntax, notation, axiom, sorry.
-/
import Derived.Test.YtjapjpigpakejaaGreatDoorRows
import GoSem.ClaimSeven
namespace Go.Proofs.YtjapjpigpakejaaGreatDoor
namespace Rows

/-- THE TIED CARD OF 'aviarylaw11.TreeSound'. -/
def treeSoundCard : Claim7 := { stood := { row := treeSoundRow, standIns := [], harness := (true, "545bcd7269defd682c6a0d8c5bc1720cfba667f8ddad1cd93fb8d476bb43a39c"), looks := false }, kinds := [], alts := [], laidByText := true, laidKinds := [.data, .data, .data, .data, .pinned], laidTests := true, laidLooks := .later }
def TreeSoundCardSaid : Prop := Claim7.holds Tryz.pinned (.plain (OpenSpec.ofChange treeSoundSpec)) treeSoundCard

/-- THE TIED CARD OF 'aviarylaw11.TreePlays'. -/
def treePlaysCard : Claim7 := { stood := { row := treePlaysRow, standIns := [], harness := (true, "545bcd7269defd682c6a0d8c5bc1720cfba667f8ddad1cd93fb8d476bb43a39c"), looks := false }, kinds := [], alts := [], laidByText := true, laidKinds := [.data, .data, .data, .data, .pinned], laidTests := true, laidLooks := .later }
def TreePlaysCardSaid : Prop := Claim7.holds Tryz.pinned (.plain (OpenSpec.ofChange treePlaysSpec)) treePlaysCard

/-- THE TIED CARD OF 'aviarylaw14.SnapKnown'. -/
def snapKnownCard : Claim7 := { stood := { row := snapKnownRow, standIns := [], harness := (true, "545bcd7269defd682c6a0d8c5bc1720cfba667f8ddad1cd93fb8d476bb43a39c"), looks := false }, kinds := [], alts := [], laidByText := true, laidKinds := [.data, .data, .data, .data, .pinned], laidTests := true, laidLooks := .later }
def SnapKnownCardSaid : Prop := Claim7.holds Tryz.pinned (.plain (OpenSpec.ofChange snapKnownSpec)) snapKnownCard

/-- THE TIED CARD OF 'aviarylaw14.SnapBack'. -/
def snapBackCard : Claim7 := { stood := { row := snapBackRow, standIns := [], harness := (true, "545bcd7269defd682c6a0d8c5bc1720cfba667f8ddad1cd93fb8d476bb43a39c"), looks := false }, kinds := [], alts := [], laidByText := true, laidKinds := [.data, .data, .data, .data, .pinned], laidTests := true, laidLooks := .later }
def SnapBackCardSaid : Prop := Claim7.holds Tryz.pinned (.plain (OpenSpec.ofChange snapBackSpec)) snapBackCard

/-- THE TIED CARD OF 'aviarylaw14.SnapRoom'. -/
def snapRoomCard : Claim7 := { stood := { row := snapRoomRow, standIns := [], harness := (true, "545bcd7269defd682c6a0d8c5bc1720cfba667f8ddad1cd93fb8d476bb43a39c"), looks := false }, kinds := [], alts := [], laidByText := true, laidKinds := [.data, .data, .data, .data, .pinned], laidTests := true, laidLooks := .later }
def SnapRoomCardSaid : Prop := Claim7.holds Tryz.pinned (.plain (OpenSpec.ofChange snapRoomSpec)) snapRoomCard

/-- THE TIED CARD OF 'aviarylaw14.SnapApart'. -/
def snapApartCard : Claim7 := { stood := { row := snapApartRow, standIns := [], harness := (true, "545bcd7269defd682c6a0d8c5bc1720cfba667f8ddad1cd93fb8d476bb43a39c"), looks := false }, kinds := [], alts := [], laidByText := true, laidKinds := [.data, .data, .data, .data, .pinned], laidTests := true, laidLooks := .later }
def SnapApartCardSaid : Prop := Claim7.holds Tryz.pinned (.plain (OpenSpec.ofChange snapApartSpec)) snapApartCard

/-- THE SECOND FORM's CARD OF 'aviarylaw11.TreeSound'. -/
def treeSoundUptoCard : Claim7 := { stood := { row := treeSoundUptoRow, standIns := [], harness := (true, "545bcd7269defd682c6a0d8c5bc1720cfba667f8ddad1cd93fb8d476bb43a39c"), looks := false }, kinds := [], alts := [], laidByText := true, laidKinds := [.data, .data, .data, .data, .pinned], laidTests := true, laidLooks := .later }
def TreeSoundUptoCardSaid : Prop := Claim7.holds Tryz.pinned (.plain (OpenSpec.upto treeSoundSpec)) treeSoundUptoCard

/-- THE SECOND FORM's CARD OF 'aviarylaw11.TreePlays'. -/
def treePlaysUptoCard : Claim7 := { stood := { row := treePlaysUptoRow, standIns := [], harness := (true, "545bcd7269defd682c6a0d8c5bc1720cfba667f8ddad1cd93fb8d476bb43a39c"), looks := false }, kinds := [], alts := [], laidByText := true, laidKinds := [.data, .data, .data, .data, .pinned], laidTests := true, laidLooks := .later }
def TreePlaysUptoCardSaid : Prop := Claim7.holds Tryz.pinned (.plain (OpenSpec.upto treePlaysSpec)) treePlaysUptoCard

/-- THE SECOND FORM's CARD OF 'aviarylaw14.SnapKnown'. -/
def snapKnownUptoCard : Claim7 := { stood := { row := snapKnownUptoRow, standIns := [], harness := (true, "545bcd7269defd682c6a0d8c5bc1720cfba667f8ddad1cd93fb8d476bb43a39c"), looks := false }, kinds := [], alts := [], laidByText := true, laidKinds := [.data, .data, .data, .data, .pinned], laidTests := true, laidLooks := .later }
def SnapKnownUptoCardSaid : Prop := Claim7.holds Tryz.pinned (.plain (OpenSpec.upto snapKnownSpec)) snapKnownUptoCard

/-- THE SECOND FORM's CARD OF 'aviarylaw14.SnapBack'. -/
def snapBackUptoCard : Claim7 := { stood := { row := snapBackUptoRow, standIns := [], harness := (true, "545bcd7269defd682c6a0d8c5bc1720cfba667f8ddad1cd93fb8d476bb43a39c"), looks := false }, kinds := [], alts := [], laidByText := true, laidKinds := [.data, .data, .data, .data, .pinned], laidTests := true, laidLooks := .later }
def SnapBackUptoCardSaid : Prop := Claim7.holds Tryz.pinned (.plain (OpenSpec.upto snapBackSpec)) snapBackUptoCard

/-- THE SECOND FORM's CARD OF 'aviarylaw14.SnapRoom'. -/
def snapRoomUptoCard : Claim7 := { stood := { row := snapRoomUptoRow, standIns := [], harness := (true, "545bcd7269defd682c6a0d8c5bc1720cfba667f8ddad1cd93fb8d476bb43a39c"), looks := false }, kinds := [], alts := [], laidByText := true, laidKinds := [.data, .data, .data, .data, .pinned], laidTests := true, laidLooks := .later }
def SnapRoomUptoCardSaid : Prop := Claim7.holds Tryz.pinned (.plain (OpenSpec.upto snapRoomSpec)) snapRoomUptoCard

/-- THE SECOND FORM's CARD OF 'aviarylaw14.SnapApart'. -/
def snapApartUptoCard : Claim7 := { stood := { row := snapApartUptoRow, standIns := [], harness := (true, "545bcd7269defd682c6a0d8c5bc1720cfba667f8ddad1cd93fb8d476bb43a39c"), looks := false }, kinds := [], alts := [], laidByText := true, laidKinds := [.data, .data, .data, .data, .pinned], laidTests := true, laidLooks := .later }
def SnapApartUptoCardSaid : Prop := Claim7.holds Tryz.pinned (.plain (OpenSpec.upto snapApartSpec)) snapApartUptoCard
end Rows
end Go.Proofs.YtjapjpigpakejaaGreatDoor
