/-
  DERIVED. GIVEN WITH THE SEED: THE CARDS: each row of YtmgnndhhpnedkaaGreatDoorRows.lean that lists a variable, with what it lists TIED to the program's text (the seventh form; the later family's looks); each row that meets fmt, with fmt's text TOLD by the authors' own Lean function (tested against real Go, not proved from fmt's source: count such statements apart). THE CARD IS WHAT COUNTS. Prove the row's statement (the work); the ties are given (YtmgnndhhpnedkaaGreatDoorTie.lean); close each card by the builder's one call (the guide's Derived/Test/ToyasCard.lean, 'card_holds'). Laid BY PROGRAM, IN A SANDBOX (cutbox-door.mjs). By AI agents, Wed Nov 11 2026. No macro, syntax, notation, axiom, sorry.
-/
import Derived.Test.YtmgnndhhpnedkaaGreatDoorRows
import GoSem.ClaimSeven
namespace Go.Proofs.YtmgnndhhpnedkaaGreatDoor
namespace Rows

/-- THE TIED CARD OF 'aviarylaw19.PlanSays'. -/
def planSaysCard : Claim7 := { stood := { row := planSaysRow, standIns := [], harness := (true, "1bdd2492f6e075edced07826a940e1af0d75323a06f8fccc55fd54bdc4966c3b"), looks := false }, kinds := [], alts := [], laidByText := true, laidKinds := [.data, .data, .data, .data, .pinned], laidTests := true, laidLooks := .later }
def PlanSaysCardSaid : Prop := Claim7.holds Tryz.pinned (.plain (OpenSpec.ofChange planSaysSpec)) planSaysCard

/-- THE TIED CARD OF 'aviarylaw19.PlanOne'. -/
def planOneCard : Claim7 := { stood := { row := planOneRow, standIns := [], harness := (true, "1bdd2492f6e075edced07826a940e1af0d75323a06f8fccc55fd54bdc4966c3b"), looks := false }, kinds := [], alts := [], laidByText := true, laidKinds := [.data, .data, .data, .data, .pinned], laidTests := true, laidLooks := .later }
def PlanOneCardSaid : Prop := Claim7.holds Tryz.pinned (.plain (OpenSpec.ofChange planOneSpec)) planOneCard

/-- THE SECOND FORM's CARD OF 'aviarylaw19.PlanSays'. -/
def planSaysUptoCard : Claim7 := { stood := { row := planSaysUptoRow, standIns := [], harness := (true, "1bdd2492f6e075edced07826a940e1af0d75323a06f8fccc55fd54bdc4966c3b"), looks := false }, kinds := [], alts := [], laidByText := true, laidKinds := [.data, .data, .data, .data, .pinned], laidTests := true, laidLooks := .later }
def PlanSaysUptoCardSaid : Prop := Claim7.holds Tryz.pinned (.plain (OpenSpec.upto planSaysSpec)) planSaysUptoCard

/-- THE SECOND FORM's CARD OF 'aviarylaw19.PlanOne'. -/
def planOneUptoCard : Claim7 := { stood := { row := planOneUptoRow, standIns := [], harness := (true, "1bdd2492f6e075edced07826a940e1af0d75323a06f8fccc55fd54bdc4966c3b"), looks := false }, kinds := [], alts := [], laidByText := true, laidKinds := [.data, .data, .data, .data, .pinned], laidTests := true, laidLooks := .later }
def PlanOneUptoCardSaid : Prop := Claim7.holds Tryz.pinned (.plain (OpenSpec.upto planOneSpec)) planOneUptoCard
end Rows
end Go.Proofs.YtmgnndhhpnedkaaGreatDoor
