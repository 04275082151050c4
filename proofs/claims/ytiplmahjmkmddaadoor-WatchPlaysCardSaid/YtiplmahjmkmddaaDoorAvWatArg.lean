/- Acts on watches that come in. -/
import Derived.Test.YtiplmahjmkmddaaDoorAvArg
import Derived.Test.YtiplmahjmkmddaaDoorAvRows
namespace Go.Proofs.YtiplmahjmkmddaaDoor
set_option maxRecDepth 100000
open Go.ChangeShapes Go.WideShapes Go.ChangeAt Go.RowKit Av

/-- One act: which, whose, of what, of which kind. -/
structure WActV where
  op : Int
  sess : Int
  p : ByteArray
  kind : Int
deriving Inhabited
abbrev WActV.cells (a : WActV) : List Value := [.int .i64 a.op, .int .i64 a.sess, .string a.p, .int .i64 a.kind]
theorem trod_wact {H : Type} {enc : TypeId × Value → H} {W : World} {fuel : Nat} {cs : List Value} {x : DataW H × List MemPlace} (h : DataW.trod enc Tryd.prog W 0 (fun _ => true) true fuel 29 cs = some x) : ∃ o : WActV, cs = o.cells ∧ o.p.size ≤ maxLen := by
  obtain ⟨xs, n2, _, _, hlcs, hxl, hf⟩ := DataW.trod_struct Tryd.underlying29 h
  have q0 := hf 0 _ rfl
  have q1 := hf 1 _ rfl
  have q2 := hf 2 _ rfl
  have q3 := hf 3 _ rfl
  have k2 : Program.cellsOf Tryd.prog 2 = 1 := by kernel_rfl
  have k3 : Program.cellsOf Tryd.prog 3 = 1 := by kernel_rfl
  have k9 : Program.cellsOf Tryd.prog 9 = 1 := by kernel_rfl
  have k5 : Program.cellsOf Tryd.prog 29 = 4 := by kernel_rfl
  simp at hxl
  obtain ⟨z0, z1, z2, z3, rfl⟩ : ∃ z0 z1 z2 z3, xs = [z0, z1, z2, z3] := by
    match xs, hxl with
    | [z0, z1, z2, z3], _ => exact ⟨z0, z1, z2, z3, rfl⟩
  rw [k5] at hlcs
  obtain ⟨v0, v1, v2, v3, rfl⟩ : ∃ v0 v1 v2 v3, cs = [v0, v1, v2, v3] := by
    match cs, hlcs with
    | [v0, v1, v2, v3], _ => exact ⟨v0, v1, v2, v3, rfl⟩
  simp [k2, k3, k9] at q0 q1 q2 q3
  obtain ⟨i0, e0, _⟩ := trod_i64 Tryd.underlying3 q0
  obtain ⟨i1, e1, _⟩ := trod_i64 Tryd.underlying2 q1
  obtain ⟨i2, e2, b2⟩ := trod_str1 Tryd.underlying9 q2
  obtain ⟨i3, e3, _⟩ := trod_i64 Tryd.underlying3 q3
  simp at e0 e1 e2 e3
  subst e0 e1 e2 e3
  exact ⟨⟨i0, i1, i2, i3⟩, rfl, b2⟩
/-- A slice of acts that can be read. -/
def WActs (w : World) (v : Value) (xs : List WActV) : Prop := Sl w 4 v xs.length (xs.flatMap WActV.cells) ∧ ∀ o ∈ xs, o.p.size ≤ maxLen
theorem WActs.ext {w w' : World} {v : Value} {xs : List WActV} (h : WActs w v xs) (k : Ext w w') : WActs w' v xs := ⟨Sl.ext h.1 k, h.2⟩
theorem WActs.open {w : World} {v : Value} {xs : List WActV} (h : WActs w v xs) :
    ∃ a c, v = .slice a xs.length c ∧ xs.length ≤ maxLen ∧ (0 < xs.length → ∃ b off, a = some ⟨b, off, none⟩ ∧ b < w.heap.size ∧ ∀ k (hk : k < xs.length),
      w.cell? ⟨b, off + k * 4, none⟩ = some (.int .i64 xs[k].op) ∧ w.cell? ⟨b, off + k * 4 + 1, none⟩ = some (.int .i64 xs[k].sess) ∧ w.cell? ⟨b, off + k * 4 + 2, none⟩ = some (.string xs[k].p) ∧ w.cell? ⟨b, off + k * 4 + 3, none⟩ = some (.int .i64 xs[k].kind)) := by
  obtain ⟨a, c, rfl, _, hm, hop⟩ := Sl.rows (f := WActV.cells) (K := 4) (fun _ => rfl) h.1
  refine ⟨a, c, rfl, hm, fun h0 => ?_⟩
  obtain ⟨b, off, rfl, hb, hc⟩ := hop h0
  exact ⟨b, off, rfl, hb, fun k hk => ⟨hc k hk 0 _ (by decide) rfl, hc k hk 1 _ (by decide) rfl, hc k hk 2 _ (by decide) rfl, hc k hk 3 _ (by decide) rfl⟩⟩
theorem arg_wacts {H : Type} {enc : TypeId × Value → H} {W : World} {base : Nat} {r : Reach} {v : Value} {d : DataW H} {p : List MemPlace} (hv : Value.okWide Tryd.prog W r base 22 v) (h : DataW.Trod enc Tryd.prog W 0 (fun _ => true) true 22 v d p) :
    ∃ xs : List WActV, WActs W v xs := by
  obtain ⟨a0, len, cap, rfl⟩ := okWide_slice Tryd.underlying22 hv
  obtain ⟨n, h⟩ := h
  obtain ⟨v', hcs, xs, h1, _, h3⟩ := trod_sl WActV.cells 4 (fun o => o.p.size ≤ maxLen) (fun _ => rfl) (by decide) Tryd.underlying22 (by kernel_rfl) (fun fuel cs x hx => trod_wact hx) h
  simp only [Value.cells, List.cons.injEq, and_true] at hcs
  subst hcs
  exact ⟨xs, h1, h3⟩
end Go.Proofs.YtiplmahjmkmddaaDoor
