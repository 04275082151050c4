/-
  DERIVED. GIVEN WITH THE SEED: THE CARDS: each row of YtlcbllgmnbhphaaDoorRows.lean that lists a variable, with what it lists TIED to the program's text (the seventh form; the later family's looks); each row that meets fmt, with fmt's text TOLD by the authors' own Lean function (tested against real Go, not proved from fmt's source: count such statements apart). THE CARD IS WHAT COUNTS. Prove the row's statement (the work); the ties are given (YtlcbllgmnbhphaaDoorTie.lean); close each card by the builder's one call (the guide's Derived/Test/ToyasCard.lean, 'card_holds'). Laid BY PROGRAM, IN A SANDBOX (cutbox-door.mjs). By AI agents, Wed Nov 11 2026. No macro, syntax, notation, axiom, sorry.
-/
import Derived.Test.YtlcbllgmnbhphaaDoorRows
import GoSem.ClaimSeven
namespace Go.Proofs.YtlcbllgmnbhphaaDoor
namespace Rows

/-- THE TIED CARD OF 'aviarylaw5.OpBytes'. -/
def opBytesCard : Claim7 := { stood := { row := opBytesRow, standIns := [], harness := (true, "eb9ffe5d38dca1fce036b57da462d2886ca24ca7420f9b06c0c756dcfce0c969"), looks := false }, kinds := [], alts := [], laidByText := true, laidKinds := [.data, .data, .data, .data, .pinned], laidTests := true, laidLooks := .later }
def OpBytesCardSaid : Prop := Claim7.holds Tryd.pinned (.plain (OpenSpec.ofChange opBytesSpec)) opBytesCard

/-- THE TIED CARD OF 'aviarylaw5.OpBack'. -/
def opBackCard : Claim7 := { stood := { row := opBackRow, standIns := [], harness := (true, "eb9ffe5d38dca1fce036b57da462d2886ca24ca7420f9b06c0c756dcfce0c969"), looks := false }, kinds := [], alts := [], laidByText := true, laidKinds := [.data, .data, .data, .data, .pinned], laidTests := true, laidLooks := .later }
def OpBackCardSaid : Prop := Claim7.holds Tryd.pinned (.plain (OpenSpec.ofChange opBackSpec)) opBackCard

/-- THE TIED CARD OF 'aviarylaw5.OpParts'. -/
def opPartsCard : Claim7 := { stood := { row := opPartsRow, standIns := [], harness := (true, "eb9ffe5d38dca1fce036b57da462d2886ca24ca7420f9b06c0c756dcfce0c969"), looks := false }, kinds := [], alts := [], laidByText := true, laidKinds := [.data, .data, .data, .data, .pinned], laidTests := true, laidLooks := .later }
def OpPartsCardSaid : Prop := Claim7.holds Tryd.pinned (.plain (OpenSpec.ofChange opPartsSpec)) opPartsCard

/-- THE SECOND FORM's CARD OF 'aviarylaw5.OpBytes'. -/
def opBytesUptoCard : Claim7 := { stood := { row := opBytesUptoRow, standIns := [], harness := (true, "eb9ffe5d38dca1fce036b57da462d2886ca24ca7420f9b06c0c756dcfce0c969"), looks := false }, kinds := [], alts := [], laidByText := true, laidKinds := [.data, .data, .data, .data, .pinned], laidTests := true, laidLooks := .later }
def OpBytesUptoCardSaid : Prop := Claim7.holds Tryd.pinned (.plain (OpenSpec.upto opBytesSpec)) opBytesUptoCard

/-- THE SECOND FORM's CARD OF 'aviarylaw5.OpBack'. -/
def opBackUptoCard : Claim7 := { stood := { row := opBackUptoRow, standIns := [], harness := (true, "eb9ffe5d38dca1fce036b57da462d2886ca24ca7420f9b06c0c756dcfce0c969"), looks := false }, kinds := [], alts := [], laidByText := true, laidKinds := [.data, .data, .data, .data, .pinned], laidTests := true, laidLooks := .later }
def OpBackUptoCardSaid : Prop := Claim7.holds Tryd.pinned (.plain (OpenSpec.upto opBackSpec)) opBackUptoCard

/-- THE SECOND FORM's CARD OF 'aviarylaw5.OpParts'. -/
def opPartsUptoCard : Claim7 := { stood := { row := opPartsUptoRow, standIns := [], harness := (true, "eb9ffe5d38dca1fce036b57da462d2886ca24ca7420f9b06c0c756dcfce0c969"), looks := false }, kinds := [], alts := [], laidByText := true, laidKinds := [.data, .data, .data, .data, .pinned], laidTests := true, laidLooks := .later }
def OpPartsUptoCardSaid : Prop := Claim7.holds Tryd.pinned (.plain (OpenSpec.upto opPartsSpec)) opPartsUptoCard
end Rows
end Go.Proofs.YtlcbllgmnbhphaaDoor
