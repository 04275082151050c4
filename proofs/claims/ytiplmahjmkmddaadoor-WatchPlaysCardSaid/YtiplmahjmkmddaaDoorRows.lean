/-
  NARROWER THAN 'FOR EVERY INPUT', by the rows' own cells (each row's printed sentence says how): WatchOnce: laid · WatchKids: laid · WatchKnown: laid · WatchPlays: laid · WatchOwn: laid.
  DERIVED. THE GIVEN ROWS OF THIS SEAT. 5 by the template 'for every input the law returns true; each argument reads behind the call as it read before'; 0 by the template 'total and deterministic' (their statements: YtiplmahjmkmddaaDoorTotals.lean).
  GIVEN WITH THE SEED: the statements are not yours to turn. If you find one false, say at which input.
  Laid BY PROGRAM, IN A SANDBOX (cutbox-rows.mjs): the forced cells as the released guide's own fill.sh prints them over the translation e9cc99daf43ab1da… (all of the seat's roots in one cut). By AI agents, Wed Nov 11 2026. No macro, syntax, notation, axiom, sorry.
-/
import Derived.Test.YtiplmahjmkmddaaDoorChecked
import GoSem.PinnedTables
import GoSem.Claim
import GoSem.ClaimJoined
import GoSem.ClaimMapViews
import Derived.JoinedTies
import Derived.KernelRfl
namespace Go.Proofs.YtiplmahjmkmddaaDoor
/- THE CELL 'sum', in the pinned program and in every row, IS THE sha256 OF THE DUMP (.gsa) THAT YtiplmahjmkmddaaDoorProg.lean LOADS. Nothing in Lean hashes anything: it is a label: what it is worth is what the hold of that sum in a sandbox is worth. -/
noncomputable def Tryd.pinned : Pinned := { name := "ytiplmahjmkmddaadoor", sum := "e9cc99daf43ab1da6a4610bce686f8418acb7c55f5c03efdaa541302071f00b9", checked := Tryd.checked }
namespace Rows
def none {H : Type} : Left H := { results := [], args := [] }

/- WHAT THE LISTED PACKAGE-LEVEL VARIABLES READ AS WHEN THE CALL BEGINS. Each datum BY PROGRAM (the guide's laid-datum.mjs) off the statement by which the dump's own 'gosem.cut.vars' lays the variable. In a bare row this is a premise. The card (YtiplmahjmkmddaaDoorCards.lean) ties it to the program's text. -/
def laid_unicode_utf8_acceptRanges {H : Type} : DataW H := .agg [.agg [.lit (.int .u8 128), .lit (.int .u8 191)], .agg [.lit (.int .u8 160), .lit (.int .u8 191)], .agg [.lit (.int .u8 128), .lit (.int .u8 159)], .agg [.lit (.int .u8 144), .lit (.int .u8 191)], .agg [.lit (.int .u8 128), .lit (.int .u8 143)], .agg [.lit (.int .u8 0), .lit (.int .u8 0)], .agg [.lit (.int .u8 0), .lit (.int .u8 0)], .agg [.lit (.int .u8 0), .lit (.int .u8 0)], .agg [.lit (.int .u8 0), .lit (.int .u8 0)], .agg [.lit (.int .u8 0), .lit (.int .u8 0)], .agg [.lit (.int .u8 0), .lit (.int .u8 0)], .agg [.lit (.int .u8 0), .lit (.int .u8 0)], .agg [.lit (.int .u8 0), .lit (.int .u8 0)], .agg [.lit (.int .u8 0), .lit (.int .u8 0)], .agg [.lit (.int .u8 0), .lit (.int .u8 0)], .agg [.lit (.int .u8 0), .lit (.int .u8 0)]]
/-- One of Go's own tables, pinned by name: the form's constant. -/
def laid_unicode_utf8_first : DataW Unit := Go.Pinned.utf8First

/-- 'aviarylaw13.WatchOnce': WHATEVER THE INPUT: true; the input reads as it did. -/
def watchOnceSpec : ChangeSpec := { name := "watchOnce", fn := fun _ => fun
  | [d] => { results := [.lit (.bool true)], args := [d] }
  | _ => none }
def watchOnceRow : OpenClaim := { program := "ytiplmahjmkmddaadoor", sum := "e9cc99daf43ab1da6a4610bce686f8418acb7c55f5c03efdaa541302071f00b9", func := "aviary/aviarylaw13.WatchOnce", spec := "watchOnce", inPlace := ["internal/bytealg.CountString", "internal/bytealg.IndexByteString", "internal/bytealg.IndexString", "internal/abi.NoEscape", "internal/bytealg.MakeNoZero"], unfollowed := true, recurses := true, named := ["unicode/utf8.first", "unicode/utf8.acceptRanges", "internal/bytealg.MaxLen"], apart := false, laid := [("unicode/utf8.acceptRanges", laid_unicode_utf8_acceptRanges), ("unicode/utf8.first", laid_unicode_utf8_first)] }
def WatchOnceSaid : Prop := watchOnceRow.holds Tryd.pinned (OpenSpec.ofChange watchOnceSpec)

/-- ITS FALSE NEIGHBOUR: 'it returns false'. Refute it at one input. -/
def watchOnceWrong : ChangeSpec := { name := "watchOnce", fn := fun _ => fun
  | [d] => { results := [.lit (.bool false)], args := [d] }
  | _ => none }
def WatchOnceWrongFalsely : Prop := watchOnceRow.holds Tryd.pinned (OpenSpec.ofChange watchOnceWrong)

/-- 'aviarylaw13.WatchKids': WHATEVER THE INPUT: true; the input reads as it did. -/
def watchKidsSpec : ChangeSpec := { name := "watchKids", fn := fun _ => fun
  | [d1, d2] => { results := [.lit (.bool true)], args := [d1, d2] }
  | _ => none }
def watchKidsRow : OpenClaim := { program := "ytiplmahjmkmddaadoor", sum := "e9cc99daf43ab1da6a4610bce686f8418acb7c55f5c03efdaa541302071f00b9", func := "aviary/aviarylaw13.WatchKids", spec := "watchKids", inPlace := ["internal/bytealg.CountString", "internal/bytealg.IndexByteString", "internal/bytealg.IndexString", "internal/abi.NoEscape", "internal/bytealg.MakeNoZero"], unfollowed := true, recurses := true, named := ["unicode/utf8.first", "unicode/utf8.acceptRanges", "internal/bytealg.MaxLen"], apart := false, laid := [("unicode/utf8.acceptRanges", laid_unicode_utf8_acceptRanges), ("unicode/utf8.first", laid_unicode_utf8_first)] }
def WatchKidsSaid : Prop := watchKidsRow.holds Tryd.pinned (OpenSpec.ofChange watchKidsSpec)

/-- ITS FALSE NEIGHBOUR: 'it returns false'. Refute it at one input. -/
def watchKidsWrong : ChangeSpec := { name := "watchKids", fn := fun _ => fun
  | [d1, d2] => { results := [.lit (.bool false)], args := [d1, d2] }
  | _ => none }
def WatchKidsWrongFalsely : Prop := watchKidsRow.holds Tryd.pinned (OpenSpec.ofChange watchKidsWrong)

/-- 'aviarylaw13.WatchKnown': WHATEVER THE INPUT: true; the input reads as it did. -/
def watchKnownSpec : ChangeSpec := { name := "watchKnown", fn := fun _ => fun
  | [] => { results := [.lit (.bool true)], args := [] }
  | _ => none }
def watchKnownRow : OpenClaim := { program := "ytiplmahjmkmddaadoor", sum := "e9cc99daf43ab1da6a4610bce686f8418acb7c55f5c03efdaa541302071f00b9", func := "aviary/aviarylaw13.WatchKnown", spec := "watchKnown", inPlace := ["internal/bytealg.CountString", "internal/bytealg.IndexByteString", "internal/bytealg.IndexString", "internal/abi.NoEscape", "internal/bytealg.MakeNoZero"], unfollowed := true, recurses := true, named := ["unicode/utf8.first", "unicode/utf8.acceptRanges", "internal/bytealg.MaxLen"], apart := false, laid := [("unicode/utf8.acceptRanges", laid_unicode_utf8_acceptRanges), ("unicode/utf8.first", laid_unicode_utf8_first)] }
def WatchKnownSaid : Prop := watchKnownRow.holds Tryd.pinned (OpenSpec.ofChange watchKnownSpec)

/-- ITS FALSE NEIGHBOUR: 'it returns false'. Refute it at one input. -/
def watchKnownWrong : ChangeSpec := { name := "watchKnown", fn := fun _ => fun
  | [] => { results := [.lit (.bool false)], args := [] }
  | _ => none }
def WatchKnownWrongFalsely : Prop := watchKnownRow.holds Tryd.pinned (OpenSpec.ofChange watchKnownWrong)

/-- 'aviarylaw13.WatchPlays': WHATEVER THE INPUT: true; the input reads as it did. -/
def watchPlaysSpec : ChangeSpec := { name := "watchPlays", fn := fun _ => fun
  | [d1, d2] => { results := [.lit (.bool true)], args := [d1, d2] }
  | _ => none }
def watchPlaysRow : OpenClaim := { program := "ytiplmahjmkmddaadoor", sum := "e9cc99daf43ab1da6a4610bce686f8418acb7c55f5c03efdaa541302071f00b9", func := "aviary/aviarylaw13.WatchPlays", spec := "watchPlays", inPlace := ["internal/bytealg.CountString", "internal/bytealg.IndexByteString", "internal/bytealg.IndexString", "internal/abi.NoEscape", "internal/bytealg.MakeNoZero"], unfollowed := true, recurses := true, named := ["unicode/utf8.first", "unicode/utf8.acceptRanges", "internal/bytealg.MaxLen"], apart := false, laid := [("unicode/utf8.acceptRanges", laid_unicode_utf8_acceptRanges), ("unicode/utf8.first", laid_unicode_utf8_first)] }
def WatchPlaysSaid : Prop := watchPlaysRow.holds Tryd.pinned (OpenSpec.ofChange watchPlaysSpec)

/-- ITS FALSE NEIGHBOUR: 'it returns false'. Refute it at one input. -/
def watchPlaysWrong : ChangeSpec := { name := "watchPlays", fn := fun _ => fun
  | [d1, d2] => { results := [.lit (.bool false)], args := [d1, d2] }
  | _ => none }
def WatchPlaysWrongFalsely : Prop := watchPlaysRow.holds Tryd.pinned (OpenSpec.ofChange watchPlaysWrong)

/-- 'aviarylaw13.WatchOwn': WHATEVER THE INPUT: true; the input reads as it did. -/
def watchOwnSpec : ChangeSpec := { name := "watchOwn", fn := fun _ => fun
  | [d1, d2] => { results := [.lit (.bool true)], args := [d1, d2] }
  | _ => none }
def watchOwnRow : OpenClaim := { program := "ytiplmahjmkmddaadoor", sum := "e9cc99daf43ab1da6a4610bce686f8418acb7c55f5c03efdaa541302071f00b9", func := "aviary/aviarylaw13.WatchOwn", spec := "watchOwn", inPlace := ["internal/bytealg.CountString", "internal/bytealg.IndexByteString", "internal/bytealg.IndexString", "internal/abi.NoEscape", "internal/bytealg.MakeNoZero"], unfollowed := true, recurses := true, named := ["unicode/utf8.first", "unicode/utf8.acceptRanges", "internal/bytealg.MaxLen"], apart := false, laid := [("unicode/utf8.acceptRanges", laid_unicode_utf8_acceptRanges), ("unicode/utf8.first", laid_unicode_utf8_first)] }
def WatchOwnSaid : Prop := watchOwnRow.holds Tryd.pinned (OpenSpec.ofChange watchOwnSpec)

/-- ITS FALSE NEIGHBOUR: 'it returns false'. Refute it at one input. -/
def watchOwnWrong : ChangeSpec := { name := "watchOwn", fn := fun _ => fun
  | [d1, d2] => { results := [.lit (.bool false)], args := [d1, d2] }
  | _ => none }
def WatchOwnWrongFalsely : Prop := watchOwnRow.holds Tryd.pinned (OpenSpec.ofChange watchOwnWrong)

/- THE SECOND FORM. 'bulk': how many values and letters a reading holds, each counted each time it is reached (what is shared counts as often as it is met; a slice's spare places count too). A statement '..UptoSaid' is the law's where the arguments, and the package variables that the reading takes, are together of bulk at most 1048576: NARROWER than '..Said'. Prove '..Said' where nothing that the law and all that it calls make is longer than what came in: it says more and counts as full. Else prove '..UptoSaid'. A law counts once. -/
mutual
def uptoBulk {H : Type} : DataW H → Nat
  | .lit (.string bytes) => bytes.length + 1
  | .lit _ => 1
  | .nil => 1
  | .ptr d => uptoBulk d + 1
  | .slice elems spare => uptoBulkAll elems + uptoBulkAll spare + 1
  | .agg parts => uptoBulkAll parts + 1
  | .iface _ d => uptoBulk d + 1
  | .map entries => uptoBulkEntries entries + 1
  | .held _ => 1
def uptoBulkAll {H : Type} : List (DataW H) → Nat
  | [] => 0
  | d :: r => uptoBulk d + uptoBulkAll r
def uptoBulkEntries {H : Type} : List (Lit × DataW H) → Nat
  | [] => 0
  | x :: r => uptoBulkEntry x + uptoBulkEntries r
def uptoBulkEntry {H : Type} : Lit × DataW H → Nat
  | (.string bytes, d) => bytes.length + uptoBulk d + 1
  | (_, d) => uptoBulk d + 1
 end
def uptoSmall : (H : Type) → List (DataW H) → Bool := fun _ ds => decide (uptoBulkAll ds ≤ 1048576)
def OpenSpec.upto (s : _root_.Go.ChangeSpec) : _root_.Go.OpenSpec := { _root_.Go.OpenSpec.ofChange s with cond := some uptoSmall }

/-- 'aviarylaw13.WatchOnce', WHERE WHAT IT READS IS OF BULK AT MOST 1048576: true; the input reads as it did. -/
def watchOnceUptoRow : OpenClaim := { program := "ytiplmahjmkmddaadoor", sum := "e9cc99daf43ab1da6a4610bce686f8418acb7c55f5c03efdaa541302071f00b9", func := "aviary/aviarylaw13.WatchOnce", spec := "watchOnce", inPlace := ["internal/bytealg.CountString", "internal/bytealg.IndexByteString", "internal/bytealg.IndexString", "internal/abi.NoEscape", "internal/bytealg.MakeNoZero"], unfollowed := true, recurses := true, named := ["unicode/utf8.first", "unicode/utf8.acceptRanges", "internal/bytealg.MaxLen"], apart := false, laid := [("unicode/utf8.acceptRanges", laid_unicode_utf8_acceptRanges), ("unicode/utf8.first", laid_unicode_utf8_first)], narrowed := true }
def WatchOnceUptoSaid : Prop := watchOnceUptoRow.holds Tryd.pinned (OpenSpec.upto watchOnceSpec)

/-- 'aviarylaw13.WatchKids', WHERE WHAT IT READS IS OF BULK AT MOST 1048576: true; the input reads as it did. -/
def watchKidsUptoRow : OpenClaim := { program := "ytiplmahjmkmddaadoor", sum := "e9cc99daf43ab1da6a4610bce686f8418acb7c55f5c03efdaa541302071f00b9", func := "aviary/aviarylaw13.WatchKids", spec := "watchKids", inPlace := ["internal/bytealg.CountString", "internal/bytealg.IndexByteString", "internal/bytealg.IndexString", "internal/abi.NoEscape", "internal/bytealg.MakeNoZero"], unfollowed := true, recurses := true, named := ["unicode/utf8.first", "unicode/utf8.acceptRanges", "internal/bytealg.MaxLen"], apart := false, laid := [("unicode/utf8.acceptRanges", laid_unicode_utf8_acceptRanges), ("unicode/utf8.first", laid_unicode_utf8_first)], narrowed := true }
def WatchKidsUptoSaid : Prop := watchKidsUptoRow.holds Tryd.pinned (OpenSpec.upto watchKidsSpec)

/-- 'aviarylaw13.WatchKnown', WHERE WHAT IT READS IS OF BULK AT MOST 1048576: true; the input reads as it did. -/
def watchKnownUptoRow : OpenClaim := { program := "ytiplmahjmkmddaadoor", sum := "e9cc99daf43ab1da6a4610bce686f8418acb7c55f5c03efdaa541302071f00b9", func := "aviary/aviarylaw13.WatchKnown", spec := "watchKnown", inPlace := ["internal/bytealg.CountString", "internal/bytealg.IndexByteString", "internal/bytealg.IndexString", "internal/abi.NoEscape", "internal/bytealg.MakeNoZero"], unfollowed := true, recurses := true, named := ["unicode/utf8.first", "unicode/utf8.acceptRanges", "internal/bytealg.MaxLen"], apart := false, laid := [("unicode/utf8.acceptRanges", laid_unicode_utf8_acceptRanges), ("unicode/utf8.first", laid_unicode_utf8_first)], narrowed := true }
def WatchKnownUptoSaid : Prop := watchKnownUptoRow.holds Tryd.pinned (OpenSpec.upto watchKnownSpec)

/-- 'aviarylaw13.WatchPlays', WHERE WHAT IT READS IS OF BULK AT MOST 1048576: true; the input reads as it did. -/
def watchPlaysUptoRow : OpenClaim := { program := "ytiplmahjmkmddaadoor", sum := "e9cc99daf43ab1da6a4610bce686f8418acb7c55f5c03efdaa541302071f00b9", func := "aviary/aviarylaw13.WatchPlays", spec := "watchPlays", inPlace := ["internal/bytealg.CountString", "internal/bytealg.IndexByteString", "internal/bytealg.IndexString", "internal/abi.NoEscape", "internal/bytealg.MakeNoZero"], unfollowed := true, recurses := true, named := ["unicode/utf8.first", "unicode/utf8.acceptRanges", "internal/bytealg.MaxLen"], apart := false, laid := [("unicode/utf8.acceptRanges", laid_unicode_utf8_acceptRanges), ("unicode/utf8.first", laid_unicode_utf8_first)], narrowed := true }
def WatchPlaysUptoSaid : Prop := watchPlaysUptoRow.holds Tryd.pinned (OpenSpec.upto watchPlaysSpec)

/-- 'aviarylaw13.WatchOwn', WHERE WHAT IT READS IS OF BULK AT MOST 1048576: true; the input reads as it did. -/
def watchOwnUptoRow : OpenClaim := { program := "ytiplmahjmkmddaadoor", sum := "e9cc99daf43ab1da6a4610bce686f8418acb7c55f5c03efdaa541302071f00b9", func := "aviary/aviarylaw13.WatchOwn", spec := "watchOwn", inPlace := ["internal/bytealg.CountString", "internal/bytealg.IndexByteString", "internal/bytealg.IndexString", "internal/abi.NoEscape", "internal/bytealg.MakeNoZero"], unfollowed := true, recurses := true, named := ["unicode/utf8.first", "unicode/utf8.acceptRanges", "internal/bytealg.MaxLen"], apart := false, laid := [("unicode/utf8.acceptRanges", laid_unicode_utf8_acceptRanges), ("unicode/utf8.first", laid_unicode_utf8_first)], narrowed := true }
def WatchOwnUptoSaid : Prop := watchOwnUptoRow.holds Tryd.pinned (OpenSpec.upto watchOwnSpec)

end Rows
end Go.Proofs.YtiplmahjmkmddaaDoor
