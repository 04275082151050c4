/-
  DERIVED. GIVEN WITH THE SEED: THE CARDS: each row of YtiplmahjmkmddaaDoorRows.lean that lists a variable, with what it lists TIED to the program's text (the seventh form; the later family's looks); each row that meets fmt, with fmt's text TOLD by the authors' own Lean function (tested against real Go, not proved from fmt's source: count such statements apart). THE CARD IS WHAT COUNTS. Prove the row's statement (the work); the ties are given (YtiplmahjmkmddaaDoorTie.lean); close each card by the builder's one call (the guide's Derived/Test/ToyasCard.lean, 'card_holds'). Laid BY PROGRAM, IN A SANDBOX (cutbox-door.mjs). By AI agents, Wed Nov 11 2026. No macro, syntax, notation, axiom, sorry.
-/
import Derived.Test.YtiplmahjmkmddaaDoorRows
import GoSem.ClaimSeven
namespace Go.Proofs.YtiplmahjmkmddaaDoor
namespace Rows

/-- THE TIED CARD OF 'aviarylaw13.WatchOnce'. -/
def watchOnceCard : Claim7 := { stood := { row := watchOnceRow, standIns := [], harness := (true, "1ab658ffa3866006914f905ddf8d2028e0a88d1415b797a41983aeae57d11c6b"), looks := false }, kinds := [], alts := [], laidByText := true, laidKinds := [.data, .pinned], laidTests := true, laidLooks := .later }
def WatchOnceCardSaid : Prop := Claim7.holds Tryd.pinned (.plain (OpenSpec.ofChange watchOnceSpec)) watchOnceCard

/-- THE TIED CARD OF 'aviarylaw13.WatchKids'. -/
def watchKidsCard : Claim7 := { stood := { row := watchKidsRow, standIns := [], harness := (true, "1ab658ffa3866006914f905ddf8d2028e0a88d1415b797a41983aeae57d11c6b"), looks := false }, kinds := [], alts := [], laidByText := true, laidKinds := [.data, .pinned], laidTests := true, laidLooks := .later }
def WatchKidsCardSaid : Prop := Claim7.holds Tryd.pinned (.plain (OpenSpec.ofChange watchKidsSpec)) watchKidsCard

/-- THE TIED CARD OF 'aviarylaw13.WatchKnown'. -/
def watchKnownCard : Claim7 := { stood := { row := watchKnownRow, standIns := [], harness := (true, "1ab658ffa3866006914f905ddf8d2028e0a88d1415b797a41983aeae57d11c6b"), looks := false }, kinds := [], alts := [], laidByText := true, laidKinds := [.data, .pinned], laidTests := true, laidLooks := .later }
def WatchKnownCardSaid : Prop := Claim7.holds Tryd.pinned (.plain (OpenSpec.ofChange watchKnownSpec)) watchKnownCard

/-- THE TIED CARD OF 'aviarylaw13.WatchPlays'. -/
def watchPlaysCard : Claim7 := { stood := { row := watchPlaysRow, standIns := [], harness := (true, "1ab658ffa3866006914f905ddf8d2028e0a88d1415b797a41983aeae57d11c6b"), looks := false }, kinds := [], alts := [], laidByText := true, laidKinds := [.data, .pinned], laidTests := true, laidLooks := .later }
def WatchPlaysCardSaid : Prop := Claim7.holds Tryd.pinned (.plain (OpenSpec.ofChange watchPlaysSpec)) watchPlaysCard

/-- THE TIED CARD OF 'aviarylaw13.WatchOwn'. -/
def watchOwnCard : Claim7 := { stood := { row := watchOwnRow, standIns := [], harness := (true, "1ab658ffa3866006914f905ddf8d2028e0a88d1415b797a41983aeae57d11c6b"), looks := false }, kinds := [], alts := [], laidByText := true, laidKinds := [.data, .pinned], laidTests := true, laidLooks := .later }
def WatchOwnCardSaid : Prop := Claim7.holds Tryd.pinned (.plain (OpenSpec.ofChange watchOwnSpec)) watchOwnCard

/-- THE SECOND FORM's CARD OF 'aviarylaw13.WatchOnce'. -/
def watchOnceUptoCard : Claim7 := { stood := { row := watchOnceUptoRow, standIns := [], harness := (true, "1ab658ffa3866006914f905ddf8d2028e0a88d1415b797a41983aeae57d11c6b"), looks := false }, kinds := [], alts := [], laidByText := true, laidKinds := [.data, .pinned], laidTests := true, laidLooks := .later }
def WatchOnceUptoCardSaid : Prop := Claim7.holds Tryd.pinned (.plain (OpenSpec.upto watchOnceSpec)) watchOnceUptoCard

/-- THE SECOND FORM's CARD OF 'aviarylaw13.WatchKids'. -/
def watchKidsUptoCard : Claim7 := { stood := { row := watchKidsUptoRow, standIns := [], harness := (true, "1ab658ffa3866006914f905ddf8d2028e0a88d1415b797a41983aeae57d11c6b"), looks := false }, kinds := [], alts := [], laidByText := true, laidKinds := [.data, .pinned], laidTests := true, laidLooks := .later }
def WatchKidsUptoCardSaid : Prop := Claim7.holds Tryd.pinned (.plain (OpenSpec.upto watchKidsSpec)) watchKidsUptoCard

/-- THE SECOND FORM's CARD OF 'aviarylaw13.WatchKnown'. -/
def watchKnownUptoCard : Claim7 := { stood := { row := watchKnownUptoRow, standIns := [], harness := (true, "1ab658ffa3866006914f905ddf8d2028e0a88d1415b797a41983aeae57d11c6b"), looks := false }, kinds := [], alts := [], laidByText := true, laidKinds := [.data, .pinned], laidTests := true, laidLooks := .later }
def WatchKnownUptoCardSaid : Prop := Claim7.holds Tryd.pinned (.plain (OpenSpec.upto watchKnownSpec)) watchKnownUptoCard

/-- THE SECOND FORM's CARD OF 'aviarylaw13.WatchPlays'. -/
def watchPlaysUptoCard : Claim7 := { stood := { row := watchPlaysUptoRow, standIns := [], harness := (true, "1ab658ffa3866006914f905ddf8d2028e0a88d1415b797a41983aeae57d11c6b"), looks := false }, kinds := [], alts := [], laidByText := true, laidKinds := [.data, .pinned], laidTests := true, laidLooks := .later }
def WatchPlaysUptoCardSaid : Prop := Claim7.holds Tryd.pinned (.plain (OpenSpec.upto watchPlaysSpec)) watchPlaysUptoCard

/-- THE SECOND FORM's CARD OF 'aviarylaw13.WatchOwn'. -/
def watchOwnUptoCard : Claim7 := { stood := { row := watchOwnUptoRow, standIns := [], harness := (true, "1ab658ffa3866006914f905ddf8d2028e0a88d1415b797a41983aeae57d11c6b"), looks := false }, kinds := [], alts := [], laidByText := true, laidKinds := [.data, .pinned], laidTests := true, laidLooks := .later }
def WatchOwnUptoCardSaid : Prop := Claim7.holds Tryd.pinned (.plain (OpenSpec.upto watchOwnSpec)) watchOwnUptoCard
end Rows
end Go.Proofs.YtiplmahjmkmddaaDoor
