/- Walks of package aviaryref1: Digits, Number. -/
import Derived.Test.YtkpcmbgnaenbhaaDoorAvWRefD
import Derived.Laws.BytesArg
namespace Go.Proofs.YtkpcmbgnaenbhaaDoor
set_option maxRecDepth 100000
open Go.RowKit Av

/-- Cells that lay there read as they did. -/
theorem ext_cells {w w' : World} (h : Ext w w') : ∀ b o, b < w.heap.size → w'.cell? ⟨b, o, none⟩ = w.cell? ⟨b, o, none⟩ := fun b _ hb =>
  World.cell?_of_block (w := w) (h.block b hb (fun f => f))
/-- One byte in a block of its own, as a string. -/
theorem conv_one (W : World) (g : Nat) (z : Int) (h : W.cell? ⟨g, 0, none⟩ = some (.int .u8 z)) :
    (convert 85 9 (.slice (some ⟨g, 0, none⟩) 1 1)).run Tryd.prog W = .ok (.string (strOfNums [z])) W :=
  run_convert_bytes_arg W 85 5 Tryd.underlying85 Tryd.underlying5 g 0 1 1 [z] rfl (fun i hi => by
    obtain rfl : i = 0 := by omega
    exact h) 9 Tryd.underlying9
theorem strOne (z : Int) (k : Nat) (h : z = k) : strOfNums [z] = ⟨#[UInt8.ofNat k]⟩ := by subst h; rfl

/-- The loop that puts noughts ahead. -/
def PadRel (D : List UInt8) (s : Value) : Prop := ∃ k : Nat, k ≤ 10 - D.length ∧ s = .string ⟨(List.replicate k 48 ++ D).toArray⟩
def strLen (v : Value) : Nat := match v with | .string s => s.size | _ => 0

end Go.Proofs.YtkpcmbgnaenbhaaDoor
