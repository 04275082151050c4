/- Walks of package aviaryref1: the reader. -/
import Derived.Test.YtlcbllgmnbhphaaGreatDoorAvWText
import Derived.Test.YtlcbllgmnbhphaaGreatDoorAvDag
import Derived.Test.YtlcbllgmnbhphaaGreatDoorAvCut
namespace Go.Proofs.YtlcbllgmnbhphaaGreatDoor
set_option maxRecDepth 100000
open Go.RowKit Av

theorem conv_bytes {W : World} {v : Value} {bs : Bs} (h : BytesR W v bs) : (convert 27 9 v).run Tryz.prog W = .ok (.string (mkS bs)) W := by
  obtain ⟨a, c, rfl, _, _, hop⟩ := BytesR.open h
  have := conv_any W a bs.length c bs (Nat.le_refl _) (fun h => by obtain ⟨b, off, e, _, hc⟩ := hop h; exact ⟨b, off, e, hc⟩)
  rwa [List.take_length] at this
theorem _root_.Av.BytesR.kpn {S : Nat → Prop} {w w' : World} {v : Value} {bs : List UInt8} (h : BytesR w v bs) (k : Kp S w w') (hs : bs ≠ [] → ∀ b, v.ownBlock = some b → b < w.heap.size → ¬ S b) : BytesR w' v bs := by
  by_cases h0 : bs = []
  · subst h0
    obtain ⟨a, c, rfl, hcc, _⟩ := BytesR.open h
    exact ⟨⟨rfl, Nat.zero_le _, a, c, rfl, hcc, .inl rfl⟩, h.2⟩
  · exact h.kp k (hs h0)
def GetRelR (w : World) (l : Bs) (u i : Value) (wr : World) : Prop :=
  ∃ j : Nat, j ≤ 8 ∧ i = .int .i64 j ∧ u = .int .u64 (fold8 (l.take j) : Nat) ∧ Ext w wr
theorem rdI_64 (s : Rd) : I64 (rdI s).1 := by
  cases s with
  | none => exact ⟨by decide, by decide⟩
  | some l =>
    show I64 (if 8 ≤ l.length then (un8 (l.take 8), some (l.drop 8)) else (0, none)).1
    split
    · rename_i h8; exact (be8_un8 _ (by simp; omega)).2
    · exact ⟨by decide, by decide⟩
theorem rdI_bad {s : Rd} (h : (rdI s).2 = none) : (rdI s).1 = 0 := by
  cases s with
  | none => rfl
  | some l =>
    change (if 8 ≤ l.length then (un8 (l.take 8), some (l.drop 8)) else (0, none)).2 = none at h
    change (if 8 ≤ l.length then (un8 (l.take 8), some (l.drop 8)) else (0, none)).1 = 0
    split at h
    · cases h
    · rename_i h8; rw [if_neg h8]
end Go.Proofs.YtlcbllgmnbhphaaGreatDoor
