/-
  DERIVED. GIVEN WITH THE SEED: THE CARDS: each row of YtmgnndhhpnedkaaDoorRows.lean that lists a variable, with what it lists TIED to the program's text (the seventh form; the later family's looks); each row that meets fmt, with fmt's text TOLD by the authors' own Lean function (tested against real Go, not proved from fmt's source: count such statements apart). THE CARD IS WHAT COUNTS. Prove the row's statement (the work); the ties are given (YtmgnndhhpnedkaaDoorTie.lean); close each card by the builder's one call (the guide's Derived/Test/ToyasCard.lean, 'card_holds'). Laid BY PROGRAM, IN A SANDBOX (cutbox-door.mjs). By AI agents, Wed Nov 11 2026. No macro, syntax, notation, axiom, sorry.
-/
import Derived.Test.YtmgnndhhpnedkaaDoorRows
import GoSem.ClaimSeven
namespace Go.Proofs.YtmgnndhhpnedkaaDoor
namespace Rows

/-- THE TIED CARD OF 'aviarylaw19.PlanModel'. -/
def planModelCard : Claim7 := { stood := { row := planModelRow, standIns := [], harness := (true, "55d0a03a75f226cded2da887bb903e98b502f2df8ad533fa36fbc9e956e597d1"), looks := false }, kinds := [], alts := [], laidByText := true, laidKinds := [.data, .data, .data, .data, .pinned], laidTests := true, laidLooks := .later }
def PlanModelCardSaid : Prop := Claim7.holds Tryd.pinned (.plain (OpenSpec.ofChange planModelSpec)) planModelCard

/-- THE TIED CARD OF 'aviarylaw19.PlanKnown'. -/
def planKnownCard : Claim7 := { stood := { row := planKnownRow, standIns := [], harness := (true, "55d0a03a75f226cded2da887bb903e98b502f2df8ad533fa36fbc9e956e597d1"), looks := false }, kinds := [], alts := [], laidByText := true, laidKinds := [.data, .data, .data, .data, .pinned], laidTests := true, laidLooks := .later }
def PlanKnownCardSaid : Prop := Claim7.holds Tryd.pinned (.plain (OpenSpec.ofChange planKnownSpec)) planKnownCard

/-- THE TIED CARD OF 'aviarylaw19.PlanWhole'. -/
def planWholeCard : Claim7 := { stood := { row := planWholeRow, standIns := [], harness := (true, "55d0a03a75f226cded2da887bb903e98b502f2df8ad533fa36fbc9e956e597d1"), looks := false }, kinds := [], alts := [], laidByText := true, laidKinds := [.data, .data, .data, .data, .pinned], laidTests := true, laidLooks := .later }
def PlanWholeCardSaid : Prop := Claim7.holds Tryd.pinned (.plain (OpenSpec.ofChange planWholeSpec)) planWholeCard

/-- THE SECOND FORM's CARD OF 'aviarylaw19.PlanModel'. -/
def planModelUptoCard : Claim7 := { stood := { row := planModelUptoRow, standIns := [], harness := (true, "55d0a03a75f226cded2da887bb903e98b502f2df8ad533fa36fbc9e956e597d1"), looks := false }, kinds := [], alts := [], laidByText := true, laidKinds := [.data, .data, .data, .data, .pinned], laidTests := true, laidLooks := .later }
def PlanModelUptoCardSaid : Prop := Claim7.holds Tryd.pinned (.plain (OpenSpec.upto planModelSpec)) planModelUptoCard

/-- THE SECOND FORM's CARD OF 'aviarylaw19.PlanKnown'. -/
def planKnownUptoCard : Claim7 := { stood := { row := planKnownUptoRow, standIns := [], harness := (true, "55d0a03a75f226cded2da887bb903e98b502f2df8ad533fa36fbc9e956e597d1"), looks := false }, kinds := [], alts := [], laidByText := true, laidKinds := [.data, .data, .data, .data, .pinned], laidTests := true, laidLooks := .later }
def PlanKnownUptoCardSaid : Prop := Claim7.holds Tryd.pinned (.plain (OpenSpec.upto planKnownSpec)) planKnownUptoCard

/-- THE SECOND FORM's CARD OF 'aviarylaw19.PlanWhole'. -/
def planWholeUptoCard : Claim7 := { stood := { row := planWholeUptoRow, standIns := [], harness := (true, "55d0a03a75f226cded2da887bb903e98b502f2df8ad533fa36fbc9e956e597d1"), looks := false }, kinds := [], alts := [], laidByText := true, laidKinds := [.data, .data, .data, .data, .pinned], laidTests := true, laidLooks := .later }
def PlanWholeUptoCardSaid : Prop := Claim7.holds Tryd.pinned (.plain (OpenSpec.upto planWholeSpec)) planWholeUptoCard
end Rows
end Go.Proofs.YtmgnndhhpnedkaaDoor
