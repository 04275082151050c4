/-
  DERIVED. GIVEN WITH THE SEED: THE CARDS: each row of YtkpcmbgnaenbhaaGreatDoorRows.lean that lists a variable, with what it lists TIED to the program's text (the seventh form; the later family's looks); each row that meets fmt, with fmt's text TOLD by the authors' own Lean function (tested against real Go, not proved from fmt's source: count such statements apart). THE CARD IS WHAT COUNTS. Prove the row's statement (the work); the ties are given (YtkpcmbgnaenbhaaGreatDoorTie.lean); close each card by the builder's one call (the guide's Derived/Test/ToyasCard.lean, 'card_holds'). Laid BY PROGRAM, IN A SANDBOX (cutbox-door.mjs). By AI agents, Wed Nov 11 2026. No macro, syntax, notation, axiom, sorry.
-/
import Derived.Test.YtkpcmbgnaenbhaaGreatDoorRows
import GoSem.ClaimSeven
namespace Go.Proofs.YtkpcmbgnaenbhaaGreatDoor
namespace Rows

/-- THE TIED CARD OF 'aviarylaw11.TreeSound'. -/
def treeSoundCard : Claim7 := { stood := { row := treeSoundRow, standIns := [], harness := (true, "4dde13030899f662bd2011087b8a3e031376c2bddc2d02206ae72ad34aa3b3a6"), looks := false }, kinds := [], alts := [], laidByText := true, laidKinds := [.data, .data, .data, .data, .pinned], laidTests := true, laidLooks := .later }
def TreeSoundCardSaid : Prop := Claim7.holds Tryz.pinned (.plain (OpenSpec.ofChange treeSoundSpec)) treeSoundCard

/-- THE TIED CARD OF 'aviarylaw11.TreeKeeps'. -/
def treeKeepsCard : Claim7 := { stood := { row := treeKeepsRow, standIns := [], harness := (true, "4dde13030899f662bd2011087b8a3e031376c2bddc2d02206ae72ad34aa3b3a6"), looks := false }, kinds := [], alts := [], laidByText := true, laidKinds := [.data, .data, .data, .data, .pinned], laidTests := true, laidLooks := .later }
def TreeKeepsCardSaid : Prop := Claim7.holds Tryz.pinned (.plain (OpenSpec.ofChange treeKeepsSpec)) treeKeepsCard

/-- THE TIED CARD OF 'aviarylaw11.TreeOwners'. -/
def treeOwnersCard : Claim7 := { stood := { row := treeOwnersRow, standIns := [], harness := (true, "4dde13030899f662bd2011087b8a3e031376c2bddc2d02206ae72ad34aa3b3a6"), looks := false }, kinds := [], alts := [], laidByText := true, laidKinds := [.data, .data, .data, .data, .pinned], laidTests := true, laidLooks := .later }
def TreeOwnersCardSaid : Prop := Claim7.holds Tryz.pinned (.plain (OpenSpec.ofChange treeOwnersSpec)) treeOwnersCard

/-- THE TIED CARD OF 'aviarylaw11.TreeLoads'. -/
def treeLoadsCard : Claim7 := { stood := { row := treeLoadsRow, standIns := [], harness := (true, "4dde13030899f662bd2011087b8a3e031376c2bddc2d02206ae72ad34aa3b3a6"), looks := false }, kinds := [], alts := [], laidByText := true, laidKinds := [.data, .data, .data, .data, .pinned], laidTests := true, laidLooks := .later }
def TreeLoadsCardSaid : Prop := Claim7.holds Tryz.pinned (.plain (OpenSpec.ofChange treeLoadsSpec)) treeLoadsCard

/-- THE TIED CARD OF 'aviarylaw11.TreeKnown'. -/
def treeKnownCard : Claim7 := { stood := { row := treeKnownRow, standIns := [], harness := (true, "4dde13030899f662bd2011087b8a3e031376c2bddc2d02206ae72ad34aa3b3a6"), looks := false }, kinds := [], alts := [], laidByText := true, laidKinds := [.data, .data, .data, .data, .pinned], laidTests := true, laidLooks := .later }
def TreeKnownCardSaid : Prop := Claim7.holds Tryz.pinned (.plain (OpenSpec.ofChange treeKnownSpec)) treeKnownCard

/-- THE TIED CARD OF 'aviarylaw11.TreePlays'. -/
def treePlaysCard : Claim7 := { stood := { row := treePlaysRow, standIns := [], harness := (true, "4dde13030899f662bd2011087b8a3e031376c2bddc2d02206ae72ad34aa3b3a6"), looks := false }, kinds := [], alts := [], laidByText := true, laidKinds := [.data, .data, .data, .data, .pinned], laidTests := true, laidLooks := .later }
def TreePlaysCardSaid : Prop := Claim7.holds Tryz.pinned (.plain (OpenSpec.ofChange treePlaysSpec)) treePlaysCard

/-- THE SECOND FORM's CARD OF 'aviarylaw11.TreeSound'. -/
def treeSoundUptoCard : Claim7 := { stood := { row := treeSoundUptoRow, standIns := [], harness := (true, "4dde13030899f662bd2011087b8a3e031376c2bddc2d02206ae72ad34aa3b3a6"), looks := false }, kinds := [], alts := [], laidByText := true, laidKinds := [.data, .data, .data, .data, .pinned], laidTests := true, laidLooks := .later }
def TreeSoundUptoCardSaid : Prop := Claim7.holds Tryz.pinned (.plain (OpenSpec.upto treeSoundSpec)) treeSoundUptoCard

/-- THE SECOND FORM's CARD OF 'aviarylaw11.TreeKeeps'. -/
def treeKeepsUptoCard : Claim7 := { stood := { row := treeKeepsUptoRow, standIns := [], harness := (true, "4dde13030899f662bd2011087b8a3e031376c2bddc2d02206ae72ad34aa3b3a6"), looks := false }, kinds := [], alts := [], laidByText := true, laidKinds := [.data, .data, .data, .data, .pinned], laidTests := true, laidLooks := .later }
def TreeKeepsUptoCardSaid : Prop := Claim7.holds Tryz.pinned (.plain (OpenSpec.upto treeKeepsSpec)) treeKeepsUptoCard

/-- THE SECOND FORM's CARD OF 'aviarylaw11.TreeOwners'. -/
def treeOwnersUptoCard : Claim7 := { stood := { row := treeOwnersUptoRow, standIns := [], harness := (true, "4dde13030899f662bd2011087b8a3e031376c2bddc2d02206ae72ad34aa3b3a6"), looks := false }, kinds := [], alts := [], laidByText := true, laidKinds := [.data, .data, .data, .data, .pinned], laidTests := true, laidLooks := .later }
def TreeOwnersUptoCardSaid : Prop := Claim7.holds Tryz.pinned (.plain (OpenSpec.upto treeOwnersSpec)) treeOwnersUptoCard

/-- THE SECOND FORM's CARD OF 'aviarylaw11.TreeLoads'. -/
def treeLoadsUptoCard : Claim7 := { stood := { row := treeLoadsUptoRow, standIns := [], harness := (true, "4dde13030899f662bd2011087b8a3e031376c2bddc2d02206ae72ad34aa3b3a6"), looks := false }, kinds := [], alts := [], laidByText := true, laidKinds := [.data, .data, .data, .data, .pinned], laidTests := true, laidLooks := .later }
def TreeLoadsUptoCardSaid : Prop := Claim7.holds Tryz.pinned (.plain (OpenSpec.upto treeLoadsSpec)) treeLoadsUptoCard

/-- THE SECOND FORM's CARD OF 'aviarylaw11.TreeKnown'. -/
def treeKnownUptoCard : Claim7 := { stood := { row := treeKnownUptoRow, standIns := [], harness := (true, "4dde13030899f662bd2011087b8a3e031376c2bddc2d02206ae72ad34aa3b3a6"), looks := false }, kinds := [], alts := [], laidByText := true, laidKinds := [.data, .data, .data, .data, .pinned], laidTests := true, laidLooks := .later }
def TreeKnownUptoCardSaid : Prop := Claim7.holds Tryz.pinned (.plain (OpenSpec.upto treeKnownSpec)) treeKnownUptoCard

/-- THE SECOND FORM's CARD OF 'aviarylaw11.TreePlays'. -/
def treePlaysUptoCard : Claim7 := { stood := { row := treePlaysUptoRow, standIns := [], harness := (true, "4dde13030899f662bd2011087b8a3e031376c2bddc2d02206ae72ad34aa3b3a6"), looks := false }, kinds := [], alts := [], laidByText := true, laidKinds := [.data, .data, .data, .data, .pinned], laidTests := true, laidLooks := .later }
def TreePlaysUptoCardSaid : Prop := Claim7.holds Tryz.pinned (.plain (OpenSpec.upto treePlaysSpec)) treePlaysUptoCard
end Rows
end Go.Proofs.YtkpcmbgnaenbhaaGreatDoor
