/-
  DERIVED. GIVEN WITH THE SEED: THE CARDS: each row of YtlcbllgmnbhphaaGreatDoorRows.lean that lists a variable, with what it lists TIED to the program's text (the seventh form; the later family's looks); each row that meets fmt, with fmt's text TOLD by the authors' own Lean function (tested against real Go, not proved from fmt's source: count such statements apart). THE CARD IS WHAT COUNTS. Prove the row's statement (the work); the ties are given (YtlcbllgmnbhphaaGreatDoorTie.lean); close each card by the builder's one call (the guide's Derived/Test/ToyasCard.lean, 'card_holds'). Laid BY PROGRAM, IN A SANDBOX (cutbox-door.mjs). By AI agents, Wed Nov 11 2026. No macro, syntax, notation, axiom, sorry.
-/
import Derived.Test.YtlcbllgmnbhphaaGreatDoorRows
import GoSem.ClaimSeven
namespace Go.Proofs.YtlcbllgmnbhphaaGreatDoor
namespace Rows

/-- THE TIED CARD OF 'aviarylaw5.OpKnown'. -/
def opKnownCard : Claim7 := { stood := { row := opKnownRow, standIns := [], harness := (true, "42acf996a26055aeb888a517e97adcdf41ec5503274a0b967686d51027419692"), looks := false }, kinds := [], alts := [], laidByText := true, laidKinds := [.data, .data, .data, .data, .pinned], laidTests := true, laidLooks := .later }
def OpKnownCardSaid : Prop := Claim7.holds Tryz.pinned (.plain (OpenSpec.ofChange opKnownSpec)) opKnownCard

/-- THE TIED CARD OF 'aviarylaw5.OpSays'. -/
def opSaysCard : Claim7 := { stood := { row := opSaysRow, standIns := [], harness := (true, "42acf996a26055aeb888a517e97adcdf41ec5503274a0b967686d51027419692"), looks := false }, kinds := [], alts := [], laidByText := true, laidKinds := [.data, .data, .data, .data, .pinned], laidTests := true, laidLooks := .later }
def OpSaysCardSaid : Prop := Claim7.holds Tryz.pinned (.plain (OpenSpec.ofChange opSaysSpec)) opSaysCard

/-- THE TIED CARD OF 'aviarylaw5.OpTops'. -/
def opTopsCard : Claim7 := { stood := { row := opTopsRow, standIns := [], harness := (true, "42acf996a26055aeb888a517e97adcdf41ec5503274a0b967686d51027419692"), looks := false }, kinds := [], alts := [], laidByText := true, laidKinds := [.data, .data, .data, .data, .pinned], laidTests := true, laidLooks := .later }
def OpTopsCardSaid : Prop := Claim7.holds Tryz.pinned (.plain (OpenSpec.ofChange opTopsSpec)) opTopsCard

/-- THE SECOND FORM's CARD OF 'aviarylaw5.OpKnown'. -/
def opKnownUptoCard : Claim7 := { stood := { row := opKnownUptoRow, standIns := [], harness := (true, "42acf996a26055aeb888a517e97adcdf41ec5503274a0b967686d51027419692"), looks := false }, kinds := [], alts := [], laidByText := true, laidKinds := [.data, .data, .data, .data, .pinned], laidTests := true, laidLooks := .later }
def OpKnownUptoCardSaid : Prop := Claim7.holds Tryz.pinned (.plain (OpenSpec.upto opKnownSpec)) opKnownUptoCard

/-- THE SECOND FORM's CARD OF 'aviarylaw5.OpSays'. -/
def opSaysUptoCard : Claim7 := { stood := { row := opSaysUptoRow, standIns := [], harness := (true, "42acf996a26055aeb888a517e97adcdf41ec5503274a0b967686d51027419692"), looks := false }, kinds := [], alts := [], laidByText := true, laidKinds := [.data, .data, .data, .data, .pinned], laidTests := true, laidLooks := .later }
def OpSaysUptoCardSaid : Prop := Claim7.holds Tryz.pinned (.plain (OpenSpec.upto opSaysSpec)) opSaysUptoCard

/-- THE SECOND FORM's CARD OF 'aviarylaw5.OpTops'. -/
def opTopsUptoCard : Claim7 := { stood := { row := opTopsUptoRow, standIns := [], harness := (true, "42acf996a26055aeb888a517e97adcdf41ec5503274a0b967686d51027419692"), looks := false }, kinds := [], alts := [], laidByText := true, laidKinds := [.data, .data, .data, .data, .pinned], laidTests := true, laidLooks := .later }
def OpTopsUptoCardSaid : Prop := Claim7.holds Tryz.pinned (.plain (OpenSpec.upto opTopsSpec)) opTopsUptoCard
end Rows
end Go.Proofs.YtlcbllgmnbhphaaGreatDoor
