/- Texts put together: AvDagApp, AvTreeU. -/
import Derived.Test.YtdagikbdpeblhaaGreatDoorAvHDag
import Derived.Test.YtdagikbdpeblhaaGreatDoorAvG22
import Derived.Test.YtdagikbdpeblhaaGreatDoorAvG21
import Derived.Test.YtdagikbdpeblhaaGreatDoorAvG14

/- Appends in a region that draws its order. No program. -/
namespace Av
set_option maxRecDepth 100000
open Go Go.RowKit
/-- A slice literal of nothing. -/
def Fresh0 (base : Nat) (e : TypeId) (k : Nat) (v : Value) (w : World) : Prop := w.ownsRow base e k v 0 [] ∧ ∃ g, v = .slice (some ⟨g, 0, none⟩) 0 0 ∧ w.heap[g]? = some (.cells #[] e (0, 0))
theorem Fresh0.ext {base k : Nat} {e : TypeId} {v : Value} {w w' : World} (h : Fresh0 base e k v w) (x : Ext w w') : Fresh0 base e k v w' := by
  obtain ⟨h1, g, rfl, h2⟩ := h
  exact ⟨ownsRow.ext h1 x, g, rfl, x.obj h2 (fun f => f)⟩
theorem Fresh0.new {base k : Nat} {e : TypeId} {w : World} (hb : base ≤ w.heap.size) : Fresh0 base e k (.slice (some ⟨w.heap.size, 0, none⟩) 0 0) (w.alloc (.cells #[] e)) := by
  refine ⟨⟨by simp, .inr ⟨w.heap.size, 0, #[], rfl, hb, ?_, Nat.le_refl _, Nat.zero_le _, by simp, by simp⟩⟩, w.heap.size, rfl, heap_alloc_new w _⟩
  exact heap_alloc_new w _
/-- A slice literal of m elements. -/
def BoxL (base : Nat) (e : TypeId) (m : Nat) (ys : List Value) (u : Value) (w : World) : Prop := ∃ g, base ≤ g ∧ u = .slice (some ⟨g, 0, none⟩) m m ∧ w.heap[g]? = some (.cells ys.toArray e (0, 0))
theorem BoxL.ext {base m : Nat} {e : TypeId} {ys : List Value} {u : Value} {w w' : World} (h : BoxL base e m ys u w) (x : Ext w w') : BoxL base e m ys u w' := by
  obtain ⟨g, h1, rfl, h2⟩ := h
  exact ⟨g, h1, rfl, x.obj h2 (fun f => f)⟩
theorem BoxL.new {base m : Nat} {e : TypeId} {ys : List Value} {w : World} (hb : base ≤ w.heap.size) : BoxL base e m ys (.slice (some ⟨w.heap.size, 0, none⟩) m m) (w.alloc (.cells ys.toArray e)) :=
  ⟨w.heap.size, hb, rfl, heap_alloc_new w _⟩
theorem BoxL.sl {base m k : Nat} {e : TypeId} {ys : List Value} {u : Value} {w : World} (h : BoxL base e m ys u w) (hl : ys.length = m * k) (hm : m ≤ maxLen) : Sl w k u m ys ∧ Shp u := by
  obtain ⟨g, h1, rfl, h2⟩ := h
  exact ⟨Sl.of_block h2 hl hm (Nat.le_refl _), Shp.some⟩
/-- What is written behind an empty literal leaves a literal of some element alone. -/
theorem BoxL.kp0 {base base' m k : Nat} {e e' : TypeId} {ys : List Value} {u v : Value} {w w' : World} (h : BoxL base e m ys u w) (hy : ys ≠ []) (hv : Fresh0 base' e' k v w) (x : Kp (fun i => v.ownBlock = some i) w w') : BoxL base e m ys u w' := by
  obtain ⟨g, h1, rfl, h2⟩ := h
  obtain ⟨_, g', rfl, h3⟩ := hv
  refine ⟨g, h1, rfl, x.obj h2 (fun e => ?_)⟩
  simp [Value.ownBlock] at e
  subst e
  rw [h2] at h3
  simp only [Option.some.injEq, Obj.cells.injEq] at h3
  exact hy (by have := congrArg Array.toList h3.1; simpa using this)
theorem Fresh0.keep {base base' k k' n : Nat} {e e' : TypeId} {u v : Value} {xs : List Value} {w w' : World} (h : Fresh0 base e k u w) (hv : w.ownsRow base' e' k' v n xs) (hn : 0 < n) (hk : 0 < k') (x : Kp (fun i => v.ownBlock = some i) w w') : Fresh0 base e k u w' := by
  obtain ⟨h1, g, rfl, h2⟩ := h
  have key : ¬ v.ownBlock = some g := by
    intro e1
    rcases hv.2 with ⟨rfl, _⟩ | ⟨g', cap, cur, rfl, _, hg, h3, _, h4, _⟩
    · simp [Value.ownBlock] at e1
    · simp [Value.ownBlock] at e1
      subst e1
      rw [h2] at hg
      simp only [Option.some.injEq, Obj.cells.injEq] at hg
      rw [← hg.1] at h4
      have : 0 < cap * k' := Nat.mul_pos (by omega) hk
      simp at h4
      omega
  refine ⟨ownsRow.kp h1 x (fun b hb e1 => ?_), g, rfl, x.obj h2 key⟩
  simp [Value.ownBlock] at hb
  subst hb
  exact key e1
theorem owns_kp0 {base base' k k' n : Nat} {e e' : TypeId} {u v : Value} {xs : List Value} {w w' : World} (h : w.ownsRow base e k u n xs) (hn : 0 < n) (hk : 0 < k) (hv : Fresh0 base' e' k' v w) (x : Kp (fun i => v.ownBlock = some i) w w') : w'.ownsRow base e k u n xs := by
  refine ownsRow.kp h x (fun b hb e1 => ?_)
  obtain ⟨_, g, rfl, h2⟩ := hv
  simp [Value.ownBlock] at e1
  subst e1
  rcases h.2 with ⟨rfl, _⟩ | ⟨g', cap, cur, rfl, _, hg, h3, _, h4, _⟩
  · simp [Value.ownBlock] at hb
  · simp [Value.ownBlock] at hb
    subst hb
    rw [h2] at hg
    simp only [Option.some.injEq, Obj.cells.injEq] at hg
    rw [← hg.1] at h4
    have : 0 < cap * k := Nat.mul_pos (by omega) hk
    simp at h4
    omega
/-- The blocks that are made on the way. -/
theorem Kp.over {base : Nat} {v : Value} {w w' : World} (x : Kp (fun i => v.ownBlock = some i) w w') (h : ∀ i, v.ownBlock = some i → base ≤ i) : Kp (fun i => base ≤ i) w w' := x.mono (fun i _ hi => h i hi)
theorem owns_base {w : World} {base k n : Nat} {e : TypeId} {v : Value} {xs : List Value} (h : w.ownsRow base e k v n xs) : ∀ b, v.ownBlock = some b → base ≤ b := by
  obtain ⟨_, h2⟩ := h
  rcases h2 with ⟨rfl, _⟩ | ⟨g, cap, cur, rfl, hb, hg, _⟩
  · intro b hb; simp [Value.ownBlock] at hb
  · intro b hb'
    simp [Value.ownBlock] at hb'
    subst hb'
    exact hb
theorem dUpon_app {P : Program} {o : Oper} {a : Act} {w : World} {K : Value → World → Prop} {d : Tmp} (hd : o.dst = .some d) (hlt : decide (d < a.tmps.size) = true) (t e : TypeId) (k : Nat) (hk : 0 < k) (hfacts : ElemOk P t e k)
    (hgd : o.guard = none) (s x : Operand) (ho : o.op = .call { callee := .builtin .append, args := #[s, x], argTypes := #[t, t] })
    (base : Nat) (v : Value) (n : Nat) (xs : List Value) (hs : a.eval s = v) (hown : w.ownsRow base e k v n xs)
    (u : Value) (m : Nat) (ys : List Value) (hx : a.eval x = u) (hu : Sl w k u m ys) (hsh : Shp u) (hone : ∀ y ∈ ys, y.oneCell' = true) (hn : n + m ≤ 100000000000) (hbase : base ≤ w.heap.size)
    (h : ∀ v' w', w'.ownsRow base e k v' (n + m) (xs ++ ys) → Kp (fun k => v.ownBlock = some k) w w' → K v' w') : DUpon P K ((execOp a.eval o).run P w) :=
  DUpon.of_list (ops := #[]) hd (of_decide_eq_true hlt) hgd
    (wpList_appK t e k hk hfacts hgd s x ho base v n xs hs hown u m ys hx hu hsh hone hn hbase (fun v' w' h1 h2 => ⟨rfl, v', rfl, h v' w' h1 h2⟩))
end Av

/- A law's tree: its paths; what soundness says of one node; loops over paths. -/
namespace Go.Proofs.YtdagikbdpeblhaaGreatDoor
set_option maxRecDepth 100000
open Go.RowKit Av
theorem strs_open {w : World} {base n : Nat} {v : Value} {L : List Bs} (h : w.ownsRow base strT 1 v n (L.map encStr)) : ∃ a c, v = .slice a n c ∧ (0 < n → ∃ g off, a = some ⟨g, off, none⟩ ∧ ∀ k (hk : k < L.length), w.cell? ⟨g, off + k, none⟩ = some (encStr L[k])) := by
  obtain ⟨a, c, e, _, _, _, hop⟩ := Sl.open (Sl.of_owns h)
  refine ⟨a, c, e, fun h0 => ?_⟩
  obtain ⟨g, off, e2, _, hc⟩ := hop h0
  exact ⟨g, off, e2, fun k hk => hc k _ (by rw [List.getElem?_map, List.getElem?_eq_getElem hk]; rfl)⟩
/-- What soundness says of one node. -/
structure SoundAt (t : Pt) (p : ByteArray) (n : NodeV) : Prop where
  size : p.size ≤ 200
  cnt : n.cnt = n.names.length
  eph : n.own ≠ 0 → n.names = []
  kid : ∀ x ∈ n.names, ∃ y, mget t (childB p x) = some y
  small : ∀ x ∈ n.names, x.length ≤ 200
  par : ∀ up, parentL p.data.toList = some up → ∃ m, mget t ⟨up.toArray⟩ = some m ∧ m.own = 0 ∧ lastL p.data.toList ∈ m.names
end Go.Proofs.YtdagikbdpeblhaaGreatDoor
