/-
  DERIVED. GIVEN WITH THE SEED: THE CARDS: each row of YtpiejhfmokmaaaaDoorRows.lean that lists a variable, with what it lists TIED to the program's text (the seventh form; the later family's looks); each row that meets fmt, with fmt's text TOLD by the authors' own Lean function (tested against real Go, not proved from fmt's source: count such statements apart). THE CARD IS WHAT COUNTS. Prove the row's statement (the work); the ties are given (YtpiejhfmokmaaaaDoorTie.lean); close each card by the builder's one call (the guide's Derived/Test/ToyasCard.lean, 'card_holds'). Laid BY PROGRAM, IN A SANDBOX (cutbox-door.mjs). By AI agents, Wed Nov 11 2026. No macro, syntax, notation, axiom, sorry.
-/
import Derived.Test.YtpiejhfmokmaaaaDoorRows
import GoSem.ClaimSeven
namespace Go.Proofs.YtpiejhfmokmaaaaDoor
namespace Rows

/-- THE TIED CARD OF 'aviarylaw1.PathSays'. -/
def pathSaysCard : Claim7 := { stood := { row := pathSaysRow, standIns := [], harness := (true, "af4f6c713dee143bc993b193b5b3268af67652740cad601683f07046889d4dba"), looks := false }, kinds := [], alts := [], laidByText := true, laidKinds := [.data, .data, .data, .data, .pinned], laidTests := true, laidLooks := .later }
def PathSaysCardSaid : Prop := Claim7.holds Tryd.pinned (.plain (OpenSpec.ofChange pathSaysSpec)) pathSaysCard

/-- THE TIED CARD OF 'aviarylaw1.PathUnder'. -/
def pathUnderCard : Claim7 := { stood := { row := pathUnderRow, standIns := [], harness := (true, "af4f6c713dee143bc993b193b5b3268af67652740cad601683f07046889d4dba"), looks := false }, kinds := [], alts := [], laidByText := true, laidKinds := [.data, .data, .data, .data, .pinned], laidTests := true, laidLooks := .later }
def PathUnderCardSaid : Prop := Claim7.holds Tryd.pinned (.plain (OpenSpec.ofChange pathUnderSpec)) pathUnderCard

/-- THE TIED CARD OF 'aviarylaw1.PathNumbers'. -/
def pathNumbersCard : Claim7 := { stood := { row := pathNumbersRow, standIns := [], harness := (true, "af4f6c713dee143bc993b193b5b3268af67652740cad601683f07046889d4dba"), looks := false }, kinds := [], alts := [], laidByText := true, laidKinds := [.data, .data, .data, .data, .pinned], laidTests := true, laidLooks := .later }
def PathNumbersCardSaid : Prop := Claim7.holds Tryd.pinned (.plain (OpenSpec.ofChange pathNumbersSpec)) pathNumbersCard

/-- THE TIED CARD OF 'aviarylaw1.PathDeeper'. -/
def pathDeeperCard : Claim7 := { stood := { row := pathDeeperRow, standIns := [], harness := (true, "af4f6c713dee143bc993b193b5b3268af67652740cad601683f07046889d4dba"), looks := false }, kinds := [], alts := [], laidByText := true, laidKinds := [.data, .data, .data, .data, .pinned], laidTests := true, laidLooks := .later }
def PathDeeperCardSaid : Prop := Claim7.holds Tryd.pinned (.plain (OpenSpec.ofChange pathDeeperSpec)) pathDeeperCard

/-- THE TIED CARD OF 'aviarylaw1.PathApart'. -/
def pathApartCard : Claim7 := { stood := { row := pathApartRow, standIns := [], harness := (true, "af4f6c713dee143bc993b193b5b3268af67652740cad601683f07046889d4dba"), looks := false }, kinds := [], alts := [], laidByText := true, laidKinds := [.data, .data, .data, .data, .pinned], laidTests := true, laidLooks := .later }
def PathApartCardSaid : Prop := Claim7.holds Tryd.pinned (.plain (OpenSpec.ofChange pathApartSpec)) pathApartCard

/-- THE TIED CARD OF 'aviarylaw1.PathKnown'. -/
def pathKnownCard : Claim7 := { stood := { row := pathKnownRow, standIns := [], harness := (true, "af4f6c713dee143bc993b193b5b3268af67652740cad601683f07046889d4dba"), looks := false }, kinds := [], alts := [], laidByText := true, laidKinds := [.data, .data, .data, .data, .pinned], laidTests := true, laidLooks := .later }
def PathKnownCardSaid : Prop := Claim7.holds Tryd.pinned (.plain (OpenSpec.ofChange pathKnownSpec)) pathKnownCard

/-- THE SECOND FORM's CARD OF 'aviarylaw1.PathSays'. -/
def pathSaysUptoCard : Claim7 := { stood := { row := pathSaysUptoRow, standIns := [], harness := (true, "af4f6c713dee143bc993b193b5b3268af67652740cad601683f07046889d4dba"), looks := false }, kinds := [], alts := [], laidByText := true, laidKinds := [.data, .data, .data, .data, .pinned], laidTests := true, laidLooks := .later }
def PathSaysUptoCardSaid : Prop := Claim7.holds Tryd.pinned (.plain (OpenSpec.upto pathSaysSpec)) pathSaysUptoCard

/-- THE SECOND FORM's CARD OF 'aviarylaw1.PathUnder'. -/
def pathUnderUptoCard : Claim7 := { stood := { row := pathUnderUptoRow, standIns := [], harness := (true, "af4f6c713dee143bc993b193b5b3268af67652740cad601683f07046889d4dba"), looks := false }, kinds := [], alts := [], laidByText := true, laidKinds := [.data, .data, .data, .data, .pinned], laidTests := true, laidLooks := .later }
def PathUnderUptoCardSaid : Prop := Claim7.holds Tryd.pinned (.plain (OpenSpec.upto pathUnderSpec)) pathUnderUptoCard

/-- THE SECOND FORM's CARD OF 'aviarylaw1.PathNumbers'. -/
def pathNumbersUptoCard : Claim7 := { stood := { row := pathNumbersUptoRow, standIns := [], harness := (true, "af4f6c713dee143bc993b193b5b3268af67652740cad601683f07046889d4dba"), looks := false }, kinds := [], alts := [], laidByText := true, laidKinds := [.data, .data, .data, .data, .pinned], laidTests := true, laidLooks := .later }
def PathNumbersUptoCardSaid : Prop := Claim7.holds Tryd.pinned (.plain (OpenSpec.upto pathNumbersSpec)) pathNumbersUptoCard

/-- THE SECOND FORM's CARD OF 'aviarylaw1.PathDeeper'. -/
def pathDeeperUptoCard : Claim7 := { stood := { row := pathDeeperUptoRow, standIns := [], harness := (true, "af4f6c713dee143bc993b193b5b3268af67652740cad601683f07046889d4dba"), looks := false }, kinds := [], alts := [], laidByText := true, laidKinds := [.data, .data, .data, .data, .pinned], laidTests := true, laidLooks := .later }
def PathDeeperUptoCardSaid : Prop := Claim7.holds Tryd.pinned (.plain (OpenSpec.upto pathDeeperSpec)) pathDeeperUptoCard

/-- THE SECOND FORM's CARD OF 'aviarylaw1.PathApart'. -/
def pathApartUptoCard : Claim7 := { stood := { row := pathApartUptoRow, standIns := [], harness := (true, "af4f6c713dee143bc993b193b5b3268af67652740cad601683f07046889d4dba"), looks := false }, kinds := [], alts := [], laidByText := true, laidKinds := [.data, .data, .data, .data, .pinned], laidTests := true, laidLooks := .later }
def PathApartUptoCardSaid : Prop := Claim7.holds Tryd.pinned (.plain (OpenSpec.upto pathApartSpec)) pathApartUptoCard

/-- THE SECOND FORM's CARD OF 'aviarylaw1.PathKnown'. -/
def pathKnownUptoCard : Claim7 := { stood := { row := pathKnownUptoRow, standIns := [], harness := (true, "af4f6c713dee143bc993b193b5b3268af67652740cad601683f07046889d4dba"), looks := false }, kinds := [], alts := [], laidByText := true, laidKinds := [.data, .data, .data, .data, .pinned], laidTests := true, laidLooks := .later }
def PathKnownUptoCardSaid : Prop := Claim7.holds Tryd.pinned (.plain (OpenSpec.upto pathKnownSpec)) pathKnownUptoCard
end Rows
end Go.Proofs.YtpiejhfmokmaaaaDoor
