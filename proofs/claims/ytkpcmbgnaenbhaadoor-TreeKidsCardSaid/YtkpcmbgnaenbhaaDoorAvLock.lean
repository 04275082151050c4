/- Locks as a list of pairs: what chapter 17 says, in plain Lean. No program. -/
import Derived.Test.YtkpcmbgnaenbhaaDoorAvPath
import Derived.Test.YtkpcmbgnaenbhaaDoorAvMap
namespace Av
set_option maxRecDepth 100000
/-- The path without its last name, as a text; empty: there is none. -/
def optS (o : Option Bs) : ByteArray := ⟨(o.getD []).toArray⟩
abbrev goodB (p : ByteArray) : Bool := goodL p.data.toList
abbrev upB (p : ByteArray) : Option Bs := parentL p.data.toList
/-- Does a held path block p for who? -/
def blk (who : Int) (p : ByteArray) (e : ByteArray × Int) : Bool :=
  decide (e.2 ≠ who) && (decide (e.1 = p) || (decide (e.1 = optS (upB p)) || ((upB e.1).isSome && decide (optS (upB e.1) = p))))
def blocksL (st : List (ByteArray × Int)) (who : Int) (p : ByteArray) : Bool := goodB p && st.any (blk who p)
/-- The first path that one may not take. -/
def wrongL (st : List (ByteArray × Int)) (who : Int) (ps : List ByteArray) : Option ByteArray :=
  match ps.find? fun p => !goodB p with
  | some p => some p
  | none => ps.find? fun p => blocksL st who p
def takeAll (st : List (ByteArray × Int)) (who : Int) (ps : List ByteArray) : List (ByteArray × Int) := ps.foldl (fun s p => mset s p who) st
def takeL (st : List (ByteArray × Int)) (who : Int) (ps : List ByteArray) : List (ByteArray × Int) :=
  if (wrongL st who ps).isSome then st else takeAll st who ps
def freeL (st : List (ByteArray × Int)) (who : Int) : List (ByteArray × Int) := st.filter fun e => decide (e.2 ≠ who)
end Av
