/- Appending rows of k cells each, whatever they hold; appending a string's bytes. No program. -/
import Derived.Test.YtkpcmbgnaenbhaaDoorAvBase
import Derived.Laws.AppendOwnNone
import Derived.Lib.AppendStr
namespace Av
set_option maxRecDepth 100000
open Go Go.RowKit
/-- nil, or a slice that lies somewhere. -/
def Shp (u : Value) : Prop := u = .slice none 0 0 ∨ ∃ ad l c, u = .slice (some ad) l c
theorem Shp.some {ad : Addr} {l c : Nat} : Shp (.slice (some ad) l c) := .inr ⟨_, _, _, rfl⟩
theorem Shp.none : Shp (.slice none 0 0) := .inl rfl
theorem shp_owns {w : World} {base : Nat} {e : TypeId} {k : Nat} {v : Value} {n : Nat} {xs : List Value} (h : w.ownsRow base e k v n xs) : Shp v := by
  rcases h.2 with ⟨h, _⟩ | ⟨g, cap, cur, h, _⟩
  · exact .inl h
  · exact .inr ⟨_, _, _, h⟩
/-- What the type table says of an element's type. -/
def ElemOk (P : Program) (t e : TypeId) (k : Nat) : Prop := P.underlying t = some (.slice e) ∧ (P.info? e).map (fun i => (i.zero.map fun z => z.cells.size, i.size, decide (i.bytes ≤ 1000))) = some (some k, k, true)
theorem wpList_appK {P : Program} {ops : Array Oper} {rest : List Oper} {o : Oper} {a : Act} {Q : Exit → Act → World → Prop} {w : World} (t e : TypeId) (k : Nat) (hk : 0 < k) (hfacts : ElemOk P t e k)
    (hgd : o.guard = none) (s x : Operand) (ho : o.op = .call { callee := .builtin .append, args := #[s, x], argTypes := #[t, t] })
    (base : Nat) (v : Value) (n : Nat) (xs : List Value) (hs : a.eval s = v) (hown : w.ownsRow base e k v n xs)
    (u : Value) (m : Nat) (ys : List Value) (hx : a.eval x = u) (hu : Sl w k u m ys) (hsh : Shp u) (hone : ∀ y ∈ ys, y.oneCell' = true) (hn : n + m ≤ 100000000000) (hbase : base ≤ w.heap.size)
    (h : ∀ v' w', w'.ownsRow base e k v' (n + m) (xs ++ ys) → Kp (fun k => v.ownBlock = some k) w w' → wpList P ops Q rest (a.put o.dst v') w') : wpList P ops Q (o :: rest) a w := by
  obtain ⟨ht, hi⟩ := hfacts
  cases hie : P.info? e with
  | none => simp [hie] at hi
  | some i =>
    simp only [hie, Option.map_some, Option.some.injEq, Prod.mk.injEq, decide_eq_true_eq] at hi
    obtain ⟨hz, hsz, hby⟩ := hi
    cases hze : i.zero with
    | none => simp [hze] at hz
    | some z =>
      simp only [hze, Option.map_some, Option.some.injEq] at hz
      rcases hsh with hsh | ⟨ad, l, c, hsh⟩
      · obtain ⟨a2, c2, hv, _, _, hyl, _⟩ := Sl.open hu
        have h0 : m = 0 := by rw [hsh] at hv; simp at hv; exact hv.2.1.symm ▸ rfl
        subst h0
        obtain rfl : ys = [] := List.length_eq_zero_iff.1 (by simpa using hyl)
        refine wpList_append_own_none hgd s x t ho base e i k ht hie v n xs hs hown (hx.trans hsh) ?_
        exact h v w (by simpa using hown) (Kp.refl _ w)
      · obtain ⟨a2, c2, hv, _, _, hyl, hcells⟩ := Sl.open hu
        rw [hsh] at hv
        simp at hv
        obtain ⟨h1, h2, h3⟩ := hv
        subst h2 h3
        have hnb : (n + l) * i.bytes ≤ 140737488355328 := by
          have := Nat.mul_le_mul hn hby
          omega
        refine wpList_append_own w hgd s x t ho base e i z k i.bytes ht hie hze hsz rfl hz hk v n xs hs hown ad l _ ys (hx.trans hsh) hyl ?_ hone (by unfold maxLen; omega) hnb hbase ?_
        · intro j u' hj
          have hj' : j < l * k := by have := (List.getElem?_eq_some_iff.1 hj).1; omega
          have hl0 : 0 < l := by
            rcases Nat.eq_zero_or_pos l with h0 | h0
            · subst h0; simp at hj'
            · exact h0
          obtain ⟨b, off, e2, _, hc⟩ := hcells hl0
          rw [← h1] at e2
          obtain rfl : ad = ⟨b, off, none⟩ := by simpa using e2
          rw [show (⟨b, off, none⟩ : Addr).add j = ⟨b, off + j, none⟩ by by_cases h : j = 0 <;> simp [Addr.add, h]]
          exact hc j u' hj
        · intro v' w' h1 h2 _
          exact h v' w' h1 ((Kp.refl _ w).grown h2 (fun k hk _ => hk))

/-! Bytes. -/
def byteV (b : UInt8) : Value := .int .u8 (b.toNat : Int)
/-- A slice of bytes that can be read. -/
def BytesR (w : World) (v : Value) (bs : List UInt8) : Prop := Sl w 1 v bs.length (bs.map byteV) ∧ Shp v
theorem BytesR.ext {w w' : World} {v : Value} {bs : List UInt8} (h : BytesR w v bs) (k : Ext w w') : BytesR w' v bs := ⟨h.1.ext k, h.2⟩
theorem BytesR.kp {S : Nat → Prop} {w w' : World} {v : Value} {bs : List UInt8} (h : BytesR w v bs) (k : Kp S w w') (hs : ∀ b, v.ownBlock = some b → b < w.heap.size → ¬ S b) : BytesR w' v bs := ⟨h.1.kp k hs, h.2⟩
theorem BytesR.nil (w : World) : BytesR w (.slice none 0 0) [] := ⟨Sl.nil w 1, .inl rfl⟩
theorem byteV_one (bs : List UInt8) : ∀ y ∈ bs.map byteV, y.oneCell' = true := by
  intro y hy
  obtain ⟨b, _, rfl⟩ := List.mem_map.1 hy
  rfl
theorem BytesR.open {w : World} {v : Value} {bs : List UInt8} (h : BytesR w v bs) :
    ∃ a c, v = .slice a bs.length c ∧ bs.length ≤ c ∧ bs.length ≤ maxLen ∧ (0 < bs.length → ∃ b off, a = some ⟨b, off, none⟩ ∧ b < w.heap.size ∧ ∀ i (hi : i < bs.length), w.cell? ⟨b, off + i, none⟩ = some (byteV bs[i])) := by
  obtain ⟨a, c, rfl, hcc, h1, h2, h3⟩ := Sl.open h.1
  refine ⟨a, c, rfl, hcc, h1, fun hn => ?_⟩
  obtain ⟨b, off, rfl, hb, hc⟩ := h3 hn
  exact ⟨b, off, rfl, hb, fun i hi => hc i _ (by rw [List.getElem?_map, List.getElem?_eq_getElem hi]; rfl)⟩
theorem strCells_map (s : ByteArray) : Go.Lib.strCells s = s.data.toList.map byteV := by
  unfold Go.Lib.strCells byteV; first | rfl | simp
theorem wpList_appStr {P : Program} {ops : Array Oper} {rest : List Oper} {o : Oper} {a : Act} {Q : Exit → Act → World → Prop} {w : World} (t u e : TypeId)
    (hfacts : (P.underlying t = some (.slice e) ∧ P.underlying u = some .string) ∧ (P.info? e).map (fun i => (i.zero, i.size, i.bytes)) = some (some (.int .u8 0), 1, 1))
    (hgd : o.guard = none) (sl x : Operand) (ho : o.op = .call { callee := .builtin .append, args := #[sl, x], argTypes := #[t, u] })
    (base : Nat) (v : Value) (bs : List UInt8) (hs : a.eval sl = v) (hown : w.ownsRow base e 1 v bs.length (bs.map byteV)) (s : ByteArray) (hx : a.eval x = .string s) (hn : bs.length + s.size ≤ 100000000000) (hbase : base ≤ w.heap.size)
    (h : ∀ v' w', w'.ownsRow base e 1 v' (bs ++ s.data.toList).length ((bs ++ s.data.toList).map byteV) → Kp (fun k => v.ownBlock = some k) w w' → wpList P ops Q rest (a.put o.dst v') w') : wpList P ops Q (o :: rest) a w := by
  obtain ⟨⟨ht, hu⟩, hi⟩ := hfacts
  cases hie : P.info? e with
  | none => simp [hie] at hi
  | some i =>
    simp only [hie, Option.map_some, Option.some.injEq, Prod.mk.injEq] at hi
    obtain ⟨hz, hsz, hby⟩ := hi
    refine Go.Lib.wpList_append_own_string (w := w) hgd sl x t u ho base e i ht hu hie hz hsz hby v _ _ hs hown s hx (by unfold maxLen; omega) (by omega) hbase ?_
    intro v' w' h1 h2 _
    refine h v' w' ?_ ((Kp.refl _ w).grown h2 (fun k hk _ => hk))
    rw [strCells_map, ← List.map_append, Lib.size_eq, ← List.length_append] at h1
    exact h1
def mkS (l : List UInt8) : ByteArray := ⟨l.toArray⟩
theorem mkS_list (l : List UInt8) : (mkS l).data.toList = l := rfl
theorem mkS_of (s : ByteArray) : mkS s.data.toList = s := rfl
theorem mkS_size (l : List UInt8) : (mkS l).size = l.length := rfl
/-- A block known whole. -/
def Blk (w : World) (g : Nat) (cs : Array Value) (T : TypeId) : Prop := w.heap[g]? = some (.cells cs T (0, 0))
theorem Blk.cell {w : World} {g : Nat} {cs : Array Value} {T : TypeId} (h : Blk w g cs T) (i : Nat) (v : Value) (hv : cs[i]? = some v) : w.cell? ⟨g, i, none⟩ = some v := by
  unfold Blk at h
  simp [World.cell?, h, hv]
theorem Blk.free {w : World} {g : Nat} {cs : Array Value} {T : TypeId} (h : Blk w g cs T) (i : Nat) : w.frozen? ⟨g, i, none⟩ = false := by
  unfold Blk at h
  simp [World.frozen?, h]
theorem Blk.set {w : World} {g : Nat} {cs : Array Value} {T : TypeId} (h : Blk w g cs T) (i : Nat) (u : Value) : Blk (w.setCell ⟨g, i, none⟩ u) g (cs.setIfInBounds i u) T := by
  unfold Blk at *
  simp [World.setCell, Array.getElem?_modify, h]
theorem Blk.kp {S : Nat → Prop} {w w' : World} {g : Nat} {cs : Array Value} {T : TypeId} (h : Blk w g cs T) (k : Kp S w w') (hs : ¬ S g) : Blk w' g cs T := k.obj h hs
theorem Blk.lt {w : World} {g : Nat} {cs : Array Value} {T : TypeId} (h : Blk w g cs T) : g < w.heap.size := (Array.getElem?_eq_some_iff.1 h).1

theorem Kp.set1 {S : Nat → Prop} {a w : World} (h : Kp S a w) (g i : Nat) (u : Value) (hs : S g) : Kp S a (w.setCell ⟨g, i, none⟩ u) := h.setCell ⟨g, i, none⟩ u (fun _ => hs)
end Av
