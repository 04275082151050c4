/-
  DERIVED. GIVEN WITH THE SEED: THE CARDS: each row of YtdaoamnemkiloaaDoorRows.lean that lists a variable, with what it lists TIED to the program's text (the seventh form; the later family's looks); each row that meets fmt, with fmt's text TOLD by the authors' own Lean function (tested against real Go, not proved from fmt's source: count such statements apart). THE CARD IS WHAT COUNTS. Prove the row's statement (the work); the ties are given (YtdaoamnemkiloaaDoorTie.lean); close each card by the builder's one call (the guide's Derived/Test/ToyasCard.lean, 'card_holds'). Laid BY PROGRAM, IN A SANDBOX (cutbox-door.mjs). By AI agents, Wed Nov 11 2026. No macro, syntax, notation, axiom, sorry.
-/
import Derived.Test.YtdaoamnemkiloaaDoorRows
import GoSem.ClaimSeven
namespace Go.Proofs.YtdaoamnemkiloaaDoor
namespace Rows

/-- THE TIED CARD OF 'aviarylaw17.LockFar'. -/
def lockFarCard : Claim7 := { stood := { row := lockFarRow, standIns := [], harness := (true, "b696231d99e4c40207d08ce85cd50b988a36e9bb10acec952a2aefab0b258c44"), looks := false }, kinds := [], alts := [], laidByText := true, laidKinds := [.data, .pinned], laidTests := true, laidLooks := .later }
def LockFarCardSaid : Prop := Claim7.holds Tryd.pinned (.plain (OpenSpec.ofChange lockFarSpec)) lockFarCard

/-- THE TIED CARD OF 'aviarylaw17.LockKnown'. -/
def lockKnownCard : Claim7 := { stood := { row := lockKnownRow, standIns := [], harness := (true, "b696231d99e4c40207d08ce85cd50b988a36e9bb10acec952a2aefab0b258c44"), looks := false }, kinds := [], alts := [], laidByText := true, laidKinds := [.data, .pinned], laidTests := true, laidLooks := .later }
def LockKnownCardSaid : Prop := Claim7.holds Tryd.pinned (.plain (OpenSpec.ofChange lockKnownSpec)) lockKnownCard

/-- THE TIED CARD OF 'aviarylaw17.LockPlays'. -/
def lockPlaysCard : Claim7 := { stood := { row := lockPlaysRow, standIns := [], harness := (true, "b696231d99e4c40207d08ce85cd50b988a36e9bb10acec952a2aefab0b258c44"), looks := false }, kinds := [], alts := [], laidByText := true, laidKinds := [.data, .pinned], laidTests := true, laidLooks := .later }
def LockPlaysCardSaid : Prop := Claim7.holds Tryd.pinned (.plain (OpenSpec.ofChange lockPlaysSpec)) lockPlaysCard

/-- THE TIED CARD OF 'aviarylaw17.LockApart'. -/
def lockApartCard : Claim7 := { stood := { row := lockApartRow, standIns := [], harness := (true, "b696231d99e4c40207d08ce85cd50b988a36e9bb10acec952a2aefab0b258c44"), looks := false }, kinds := [], alts := [], laidByText := true, laidKinds := [.data, .pinned], laidTests := true, laidLooks := .later }
def LockApartCardSaid : Prop := Claim7.holds Tryd.pinned (.plain (OpenSpec.ofChange lockApartSpec)) lockApartCard

/-- THE TIED CARD OF 'aviarylaw17.LockFrees'. -/
def lockFreesCard : Claim7 := { stood := { row := lockFreesRow, standIns := [], harness := (true, "b696231d99e4c40207d08ce85cd50b988a36e9bb10acec952a2aefab0b258c44"), looks := false }, kinds := [], alts := [], laidByText := true, laidKinds := [.data, .pinned], laidTests := true, laidLooks := .later }
def LockFreesCardSaid : Prop := Claim7.holds Tryd.pinned (.plain (OpenSpec.ofChange lockFreesSpec)) lockFreesCard

/-- THE SECOND FORM's CARD OF 'aviarylaw17.LockFar'. -/
def lockFarUptoCard : Claim7 := { stood := { row := lockFarUptoRow, standIns := [], harness := (true, "b696231d99e4c40207d08ce85cd50b988a36e9bb10acec952a2aefab0b258c44"), looks := false }, kinds := [], alts := [], laidByText := true, laidKinds := [.data, .pinned], laidTests := true, laidLooks := .later }
def LockFarUptoCardSaid : Prop := Claim7.holds Tryd.pinned (.plain (OpenSpec.upto lockFarSpec)) lockFarUptoCard

/-- THE SECOND FORM's CARD OF 'aviarylaw17.LockKnown'. -/
def lockKnownUptoCard : Claim7 := { stood := { row := lockKnownUptoRow, standIns := [], harness := (true, "b696231d99e4c40207d08ce85cd50b988a36e9bb10acec952a2aefab0b258c44"), looks := false }, kinds := [], alts := [], laidByText := true, laidKinds := [.data, .pinned], laidTests := true, laidLooks := .later }
def LockKnownUptoCardSaid : Prop := Claim7.holds Tryd.pinned (.plain (OpenSpec.upto lockKnownSpec)) lockKnownUptoCard

/-- THE SECOND FORM's CARD OF 'aviarylaw17.LockPlays'. -/
def lockPlaysUptoCard : Claim7 := { stood := { row := lockPlaysUptoRow, standIns := [], harness := (true, "b696231d99e4c40207d08ce85cd50b988a36e9bb10acec952a2aefab0b258c44"), looks := false }, kinds := [], alts := [], laidByText := true, laidKinds := [.data, .pinned], laidTests := true, laidLooks := .later }
def LockPlaysUptoCardSaid : Prop := Claim7.holds Tryd.pinned (.plain (OpenSpec.upto lockPlaysSpec)) lockPlaysUptoCard

/-- THE SECOND FORM's CARD OF 'aviarylaw17.LockApart'. -/
def lockApartUptoCard : Claim7 := { stood := { row := lockApartUptoRow, standIns := [], harness := (true, "b696231d99e4c40207d08ce85cd50b988a36e9bb10acec952a2aefab0b258c44"), looks := false }, kinds := [], alts := [], laidByText := true, laidKinds := [.data, .pinned], laidTests := true, laidLooks := .later }
def LockApartUptoCardSaid : Prop := Claim7.holds Tryd.pinned (.plain (OpenSpec.upto lockApartSpec)) lockApartUptoCard

/-- THE SECOND FORM's CARD OF 'aviarylaw17.LockFrees'. -/
def lockFreesUptoCard : Claim7 := { stood := { row := lockFreesUptoRow, standIns := [], harness := (true, "b696231d99e4c40207d08ce85cd50b988a36e9bb10acec952a2aefab0b258c44"), looks := false }, kinds := [], alts := [], laidByText := true, laidKinds := [.data, .pinned], laidTests := true, laidLooks := .later }
def LockFreesUptoCardSaid : Prop := Claim7.holds Tryd.pinned (.plain (OpenSpec.upto lockFreesSpec)) lockFreesUptoCard
end Rows
end Go.Proofs.YtdaoamnemkiloaaDoor
