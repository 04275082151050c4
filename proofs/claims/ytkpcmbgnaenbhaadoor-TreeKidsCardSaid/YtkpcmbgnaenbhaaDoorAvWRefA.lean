/- Walks of package aviaryref1: Cut, IsName. -/
import Derived.Test.YtkpcmbgnaenbhaaDoorAvWPathB
import Derived.StillTailTactics
import Derived.IntWalk
namespace Go.Proofs.YtkpcmbgnaenbhaaDoor
set_option maxRecDepth 100000
open Go.RowKit Av

theorem str_facts : Tryd.prog.underlying 28 = some (.slice 9) ∧ (Tryd.prog.info? 9).map (fun i => (i.zero.map fun z => z.cells.size, i.size, decide (i.bytes ≤ 64))) = some (some 1, 1, true) := ⟨by kernel_rfl, by kernel_rfl⟩

/-- A slice of strings that a call owns from block base on. -/
def OwnS (w : World) (base : Nat) (v : Value) (xs : List ByteArray) : Prop := w.ownsRow base 9 1 v xs.length (xs.map Value.string)

theorem OwnS.cell {w : World} {base g cap n : Nat} {ps : List ByteArray} (h : OwnS w base (.slice (some ⟨g, 0, none⟩) n cap) ps) (i : Nat) (hi : i < ps.length) : w.cell? ⟨g, i, none⟩ = some (.string ps[i]) := by
  have hn : n = ps.length := by have := h.1; rcases h.2 with ⟨h', _⟩ | ⟨_, _, _, h', _⟩ <;> simp_all
  subst hn
  have := World.ownsRow.cellAt h i (by omega)
  rw [this, List.getElem?_map, List.getElem?_eq_getElem hi]; rfl
theorem OwnS.open {w : World} {base : Nat} {v : Value} {ps : List ByteArray} (h : OwnS w base v ps) (hn : 0 < ps.length) :
    ∃ g cap, v = .slice (some ⟨g, 0, none⟩) ps.length cap ∧ base ≤ g ∧ g < w.heap.size ∧ ps.length ≤ cap ∧ cap ≤ maxLen := by
  rcases h.2 with ⟨_, h0⟩ | ⟨g, cap, cur, h1, h2, h3, h4, h5, _⟩
  · omega
  · exact ⟨g, cap, h1, h2, (Array.getElem?_eq_some_iff.1 h3).1, h4, h5⟩
theorem OwnS.strs {w : World} {base : Nat} {v : Value} {ps : List ByteArray} (h : OwnS w base v ps) : Strs w v ps := Strs.of_owns h
theorem OwnS.set {w : World} {base g cap n : Nat} {ps : List ByteArray} (h : OwnS w base (.slice (some ⟨g, 0, none⟩) n cap) ps) (i : Nat) (x : ByteArray) :
    OwnS (w.setCell ⟨g, i, none⟩ (.string x)) base (.slice (some ⟨g, 0, none⟩) n cap) (ps.set i x) := by
  have hn : n = ps.length := by have := h.1; rcases h.2 with ⟨h', _⟩ | ⟨_, _, _, h', _⟩ <;> simp_all
  subst hn
  have := (World.ownsRow.stored h i (.string x)).1
  unfold OwnS
  rw [List.length_set, List.map_set]
  exact this

theorem set_last (ps : List ByteArray) (i : List Bs) (y z : Bs) (x : ByteArray) (h : ps.map (·.data.toList) = i ++ [y]) (h1 : ps.length - 1 < ps.length) (hx : x.data.toList = z) :
    (ps.set (ps.length - 1) (ps[ps.length - 1] ++ x)).map (·.data.toList) = i ++ [y ++ z] := by
  rcases List.eq_nil_or_concat ps with rfl | ⟨l, b, rfl⟩
  · simp at h1
  · simp only [List.concat_eq_append, List.map_append, List.map_cons, List.map_nil] at h ⊢
    obtain ⟨h2, h3⟩ := List.append_inj' h rfl
    simp only [List.cons.injEq, and_true] at h3
    subst h2
    simp [hx, h3]
/-- The loop of Cut: what stands behind k rounds. -/
def CutRel (s : ByteArray) (w : World) (l i : Value) (wr : World) : Prop :=
  ∃ k : Nat, k ≤ s.size ∧ i = .int .i64 k ∧ ∃ ps : List ByteArray, OwnS wr w.heap.size l ps ∧ ps.map (·.data.toList) = cut (s.data.toList.take k) ∧ Ext w wr

end Go.Proofs.YtkpcmbgnaenbhaaDoor
