/- Chapter 5 in plain Lean: what may be asked. No program. -/
import Derived.Test.YtkpcmbgnaenbhaaDoorAvPathLaw
import Derived.Test.YtkpcmbgnaenbhaaDoorAvBase
namespace Av
set_option maxRecDepth 100000
open Go Go.RowKit
/-- What is asked of one path. -/
structure OpV where
  kind : Int
  path : ByteArray
  data : ByteArray
  ver : Int
  flags : Int
deriving DecidableEq
def OpV.cells (o : OpV) : List Value := [.int .i64 o.kind, .string o.path, .string o.data, .int .i64 o.ver, .int .i64 o.flags]
def OpV.val (o : OpV) : Value := .agg #[.int .i64 o.kind, .string o.path, .string o.data, .int .i64 o.ver, .int .i64 o.flags]
def versionedB (k : Int) : Bool := decide (k = 2) || (decide (k = 3) || decide (k = 4))
def readsB (k : Int) : Bool := decide (k = 5) || (decide (k = 6) || decide (k = 7))
def formedB (o : OpV) : Bool := decide (1 ≤ o.kind) && (decide (o.kind ≤ 7) && (goodL o.path.data.toList && (decide (-1 ≤ o.ver) && (decide (0 ≤ o.flags) && decide (o.flags ≤ 3)))))
def ownB (o : OpV) : Bool := (decide (o.data.size = 0) || (decide (o.kind = 1) || decide (o.kind = 3))) && ((decide (o.ver = 0) || versionedB o.kind) && (decide (o.flags = 0) || decide (o.kind = 1)))
def numberedB (o : OpV) : Bool := decide (o.flags < 2) || (decide (1 < (partsL o.path.data.toList).length) && (numberL o.path.data.toList 0).isSome)
/-- What is wrong with an op first. -/
def goodO (o : OpV) : Int := if formedB o then (if 1000 < o.data.size then 2 else if ownB o && numberedB o then 0 else 1) else 1
end Av
