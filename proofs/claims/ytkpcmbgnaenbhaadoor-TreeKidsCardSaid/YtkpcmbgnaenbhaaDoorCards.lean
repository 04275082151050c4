/-
  DERIVED. GIVEN WITH THE SEED: THE CARDS: each row of YtkpcmbgnaenbhaaDoorRows.lean that lists a variable, with what it lists TIED to the program's text (the seventh form; the later family's looks); each row that meets fmt, with fmt's text TOLD by the authors' own Lean function (tested against real Go, not proved from fmt's source: count such statements apart). THE CARD IS WHAT COUNTS. Prove the row's statement (the work); the ties are given (YtkpcmbgnaenbhaaDoorTie.lean); close each card by the builder's one call (the guide's Derived/Test/ToyasCard.lean, 'card_holds'). Laid BY PROGRAM, IN A SANDBOX (cutbox-door.mjs). By AI agents, Wed Nov 11 2026. No macro, syntax, notation, axiom, sorry.
-/
import Derived.Test.YtkpcmbgnaenbhaaDoorRows
import GoSem.ClaimSeven
namespace Go.Proofs.YtkpcmbgnaenbhaaDoor
namespace Rows

/-- THE TIED CARD OF 'aviarylaw11.TreeNumbers'. -/
def treeNumbersCard : Claim7 := { stood := { row := treeNumbersRow, standIns := [], harness := (true, "15981edcb429891d0f23de3c8a11dead45d3ad1f0035c495f4d359ed6fcad197"), looks := false }, kinds := [], alts := [], laidByText := true, laidKinds := [.data, .data, .data, .data, .pinned], laidTests := true, laidLooks := .later }
def TreeNumbersCardSaid : Prop := Claim7.holds Tryd.pinned (.plain (OpenSpec.ofChange treeNumbersSpec)) treeNumbersCard

/-- THE TIED CARD OF 'aviarylaw11.TreeVersions'. -/
def treeVersionsCard : Claim7 := { stood := { row := treeVersionsRow, standIns := [], harness := (true, "15981edcb429891d0f23de3c8a11dead45d3ad1f0035c495f4d359ed6fcad197"), looks := false }, kinds := [], alts := [], laidByText := true, laidKinds := [.data, .data, .data, .data, .pinned], laidTests := true, laidLooks := .later }
def TreeVersionsCardSaid : Prop := Claim7.holds Tryd.pinned (.plain (OpenSpec.ofChange treeVersionsSpec)) treeVersionsCard

/-- THE TIED CARD OF 'aviarylaw11.TreeKids'. -/
def treeKidsCard : Claim7 := { stood := { row := treeKidsRow, standIns := [], harness := (true, "15981edcb429891d0f23de3c8a11dead45d3ad1f0035c495f4d359ed6fcad197"), looks := false }, kinds := [], alts := [], laidByText := true, laidKinds := [.data, .data, .data, .data, .pinned], laidTests := true, laidLooks := .later }
def TreeKidsCardSaid : Prop := Claim7.holds Tryd.pinned (.plain (OpenSpec.ofChange treeKidsSpec)) treeKidsCard

/-- THE SECOND FORM's CARD OF 'aviarylaw11.TreeNumbers'. -/
def treeNumbersUptoCard : Claim7 := { stood := { row := treeNumbersUptoRow, standIns := [], harness := (true, "15981edcb429891d0f23de3c8a11dead45d3ad1f0035c495f4d359ed6fcad197"), looks := false }, kinds := [], alts := [], laidByText := true, laidKinds := [.data, .data, .data, .data, .pinned], laidTests := true, laidLooks := .later }
def TreeNumbersUptoCardSaid : Prop := Claim7.holds Tryd.pinned (.plain (OpenSpec.upto treeNumbersSpec)) treeNumbersUptoCard

/-- THE SECOND FORM's CARD OF 'aviarylaw11.TreeVersions'. -/
def treeVersionsUptoCard : Claim7 := { stood := { row := treeVersionsUptoRow, standIns := [], harness := (true, "15981edcb429891d0f23de3c8a11dead45d3ad1f0035c495f4d359ed6fcad197"), looks := false }, kinds := [], alts := [], laidByText := true, laidKinds := [.data, .data, .data, .data, .pinned], laidTests := true, laidLooks := .later }
def TreeVersionsUptoCardSaid : Prop := Claim7.holds Tryd.pinned (.plain (OpenSpec.upto treeVersionsSpec)) treeVersionsUptoCard

/-- THE SECOND FORM's CARD OF 'aviarylaw11.TreeKids'. -/
def treeKidsUptoCard : Claim7 := { stood := { row := treeKidsUptoRow, standIns := [], harness := (true, "15981edcb429891d0f23de3c8a11dead45d3ad1f0035c495f4d359ed6fcad197"), looks := false }, kinds := [], alts := [], laidByText := true, laidKinds := [.data, .data, .data, .data, .pinned], laidTests := true, laidLooks := .later }
def TreeKidsUptoCardSaid : Prop := Claim7.holds Tryd.pinned (.plain (OpenSpec.upto treeKidsSpec)) treeKidsUptoCard
end Rows
end Go.Proofs.YtkpcmbgnaenbhaaDoor
