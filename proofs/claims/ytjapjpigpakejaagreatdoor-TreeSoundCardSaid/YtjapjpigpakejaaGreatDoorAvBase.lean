/- Vocabulary for walks: what stays of memory, slices that are read, and slices that a call owns. Plain; no program. -/
import Derived.WalkKit
import Derived.WalkSpells
import Derived.WalkLawsBesides
import Derived.Lib.Hide
import Derived.Deep.Light
import Derived.Lib.Strings
namespace Av
set_option maxRecDepth 100000
open Go Go.RowKit

/-- Of what lay in w nothing has turned in w' but the blocks in S. -/
structure Kp (S : Nat → Prop) (w w' : World) : Prop where
  os : w'.os = w.os
  tape : w'.tape = w.tape
  output : w'.output = w.output
  size : w.heap.size ≤ w'.heap.size
  block : ∀ k, k < w.heap.size → ¬ S k → w'.heap[k]? = w.heap[k]?

/-- Nothing that lay there has turned. -/
abbrev Ext (w w' : World) : Prop := Kp (fun _ => False) w w'

theorem Kp.refl (S : Nat → Prop) (w : World) : Kp S w w := ⟨rfl, rfl, rfl, Nat.le_refl _, fun _ _ _ => rfl⟩
theorem Kp.trans {S : Nat → Prop} {a b c : World} (h : Kp S a b) (k : Kp S b c) : Kp S a c :=
  ⟨k.os.trans h.os, k.tape.trans h.tape, k.output.trans h.output, Nat.le_trans h.size k.size,
   fun i hi hs => (k.block i (Nat.lt_of_lt_of_le hi h.size) hs).trans (h.block i hi hs)⟩
/-- A later step may also turn blocks that were not there at the start. -/
theorem Kp.next {S T : Nat → Prop} {a b c : World} (h : Kp S a b) (k : Kp T b c) (hT : ∀ i, i < a.heap.size → T i → S i) : Kp S a c :=
  ⟨k.os.trans h.os, k.tape.trans h.tape, k.output.trans h.output, Nat.le_trans h.size k.size,
   fun i hi hs => (k.block i (Nat.lt_of_lt_of_le hi h.size) (fun t => hs (hT i hi t))).trans (h.block i hi hs)⟩
theorem Kp.mono {S T : Nat → Prop} {w w' : World} (h : Kp S w w') (hst : ∀ i, i < w.heap.size → S i → T i) : Kp T w w' :=
  ⟨h.os, h.tape, h.output, h.size, fun i hi hs => h.block i hi (fun s => hs (hst i hi s))⟩
theorem Kp.ext {S : Nat → Prop} {a b c : World} (h : Kp S a b) (k : Ext b c) : Kp S a c := h.next k (fun _ _ f => f.elim)
theorem Ext.kp {S : Nat → Prop} {w w' : World} (h : Ext w w') : Kp S w w' := h.mono (fun _ _ f => f.elim)
theorem Kp.drew {S : Nat → Prop} {a w : World} (h : Kp S a w) : Kp S a w.drew := ⟨h.os, h.tape, h.output, h.size, h.block⟩
theorem Kp.drewN {S : Nat → Prop} {a w : World} (h : Kp S a w) (n : Nat) : Kp S a (w.drewN n) := ⟨h.os, h.tape, h.output, h.size, h.block⟩
theorem Kp.alloc {S : Nat → Prop} {a w : World} (h : Kp S a w) (o : Obj) : Kp S a (w.alloc o) :=
  h.next (T := fun _ => False) ⟨rfl, rfl, rfl, by simp, fun k hk _ => Below.heap_alloc _ _ _ hk⟩ (fun _ _ f => f.elim)
theorem Kp.setCell {S : Nat → Prop} {a w : World} (h : Kp S a w) (p : Addr) (u : Value) (hp : p.block < a.heap.size → S p.block) : Kp S a (w.setCell p u) :=
  h.next (T := fun k => k = p.block) ⟨rfl, rfl, rfl, by simp [World.setCell], fun k _ hs => Below.heap_setCell _ _ _ _ hs⟩ (fun i hi e => by subst e; exact hp hi)
theorem Kp.of_below {w w' : World} (h : Below w.heap.size w w') : Ext w w' := ⟨h.os, h.tape, h.output, h.size, fun k hk _ => h.block k hk⟩
theorem Kp.below {w w' : World} (h : Ext w w') : Below w.heap.size w w' := ⟨h.os, h.tape, h.output, h.size, fun k hk => h.block k hk (fun f => f)⟩
theorem Kp.grown {S : Nat → Prop} {a w w' : World} {row : Option Nat} (h : Kp S a w) (hg : w.grownBy w' row) (hr : ∀ k, row = some k → k < a.heap.size → S k) : Kp S a w' :=
  h.next (T := fun k => row = some k) ⟨hg.os, hg.tape, hg.output, hg.size, fun k hk hs => hg.block k hk (fun e => hs e.symm)⟩ (fun i hi e => hr i e hi)
theorem Kp.cell {S : Nat → Prop} {w w' : World} (h : Kp S w w') {p : Addr} {v : Value} (hc : w.cell? p = some v) (hs : ¬ S p.block) : w'.cell? p = some v :=
  (World.cell?_of_block (w := w) (h.block p.block (World.block_lt_of_cell? w p hc) hs)).trans hc
theorem Kp.frozen {S : Nat → Prop} {w w' : World} (h : Kp S w w') {p : Addr} (hb : p.block < w.heap.size) (hs : ¬ S p.block) : w'.frozen? p = w.frozen? p :=
  World.frozen?_of_block (w := w) (h.block p.block hb hs)
theorem Kp.obj {S : Nat → Prop} {w w' : World} (h : Kp S w w') {b : Nat} {o : Obj} (ho : w.heap[b]? = some o) (hs : ¬ S b) : w'.heap[b]? = some o :=
  (h.block b (Array.getElem?_eq_some_iff.1 ho).1 hs).trans ho

/-- A slice of n elements of k cells each that can be read: its cells hold xs. -/
def Sl (w : World) (k : Nat) (v : Value) (n : Nat) (xs : List Value) : Prop :=
  xs.length = n * k ∧ n ≤ maxLen ∧ ∃ a c, v = .slice a n c ∧ n ≤ c ∧ (n = 0 ∨ ∃ b off, a = some ⟨b, off, none⟩ ∧ b < w.heap.size ∧ ∀ i x, xs[i]? = some x → w.cell? ⟨b, off + i, none⟩ = some x)

theorem Sl.kp {S : Nat → Prop} {w w' : World} {k : Nat} {v : Value} {n : Nat} {xs : List Value} (h : Sl w k v n xs) (hk : Kp S w w') (hs : ∀ b, v.ownBlock = some b → b < w.heap.size → ¬ S b) : Sl w' k v n xs := by
  obtain ⟨h1, h2, a, c, rfl, hcc, h3⟩ := h
  refine ⟨h1, h2, a, c, rfl, hcc, ?_⟩
  rcases h3 with h3 | ⟨b, off, rfl, hb, hc⟩
  · exact .inl h3
  · exact .inr ⟨b, off, rfl, Nat.lt_of_lt_of_le hb hk.size, fun i x hx => hk.cell (hc i x hx) (hs b rfl hb)⟩
theorem Sl.ext {w w' : World} {k : Nat} {v : Value} {n : Nat} {xs : List Value} (h : Sl w k v n xs) (hk : Ext w w') : Sl w' k v n xs := h.kp hk (fun _ _ _ f => f)
/-- Open a slice: its value, and each cell under its bound. -/
theorem Sl.open {w : World} {k : Nat} {v : Value} {n : Nat} {xs : List Value} (h : Sl w k v n xs) :
    ∃ a c, v = .slice a n c ∧ n ≤ c ∧ n ≤ maxLen ∧ xs.length = n * k ∧ (0 < n → ∃ b off, a = some ⟨b, off, none⟩ ∧ b < w.heap.size ∧ ∀ i x, xs[i]? = some x → w.cell? ⟨b, off + i, none⟩ = some x) := by
  obtain ⟨h1, h2, a, c, rfl, hcc, h3⟩ := h
  refine ⟨a, c, rfl, hcc, h2, h1, fun hn => ?_⟩
  rcases h3 with h3 | h3
  · omega
  · exact h3
theorem Sl.nil (w : World) (k : Nat) : Sl w k (.slice none 0 0) 0 [] := ⟨by simp, Nat.zero_le _, none, 0, rfl, Nat.le_refl _, .inl rfl⟩
/-- What a call owns can be read. -/
theorem Sl.of_owns {w : World} {base : Nat} {e : TypeId} {k : Nat} {v : Value} {n : Nat} {xs : List Value} (h : w.ownsRow base e k v n xs) : Sl w k v n xs := by
  obtain ⟨h1, h2⟩ := h
  rcases h2 with ⟨rfl, rfl⟩ | ⟨g, cap, cur, rfl, hb, hg, hn, hm, hcs, ht⟩
  · exact ⟨h1, Nat.zero_le _, none, 0, rfl, Nat.le_refl _, .inl rfl⟩
  · refine ⟨h1, Nat.le_trans hn hm, some ⟨g, 0, none⟩, cap, rfl, hn, .inr ⟨g, 0, rfl, (Array.getElem?_eq_some_iff.1 hg).1, fun i x hx => ?_⟩⟩
    rw [← ht, List.getElem?_take] at hx
    split at hx
    · simp [World.cell?, hg]; simpa using hx
    · simp at hx
/-- A block just laid, as a slice of its own. -/
theorem Sl.of_block {w : World} {b : Nat} {k n c : Nat} {xs : List Value} {e : TypeId} {fr : Nat × Nat} (h : w.heap[b]? = some (.cells xs.toArray e fr)) (hl : xs.length = n * k) (hm : n ≤ maxLen) (hcc : n ≤ c) :
    Sl w k (.slice (some ⟨b, 0, none⟩) n c) n xs :=
  ⟨hl, hm, _, _, rfl, hcc, .inr ⟨b, 0, rfl, (Array.getElem?_eq_some_iff.1 h).1, fun i x hx => by simp [World.cell?, h]; simpa using hx⟩⟩

theorem ownsRow.kp {S : Nat → Prop} {w w' : World} {base : Nat} {e : TypeId} {k : Nat} {v : Value} {n : Nat} {xs : List Value} (h : w.ownsRow base e k v n xs) (hk : Kp S w w') (hs : ∀ b, v.ownBlock = some b → ¬ S b) : w'.ownsRow base e k v n xs := by
  obtain ⟨h1, h2⟩ := h
  refine ⟨h1, ?_⟩
  rcases h2 with h2 | ⟨g, cap, cur, rfl, hb, hg, r⟩
  · exact .inl h2
  · exact .inr ⟨g, cap, cur, rfl, hb, hk.obj hg (hs g rfl), r⟩
theorem ownsRow.ext {w w' : World} {base : Nat} {e : TypeId} {k : Nat} {v : Value} {n : Nat} {xs : List Value} (h : w.ownsRow base e k v n xs) (hk : Ext w w') : w'.ownsRow base e k v n xs := ownsRow.kp h hk (fun _ _ f => f)
theorem ownsRow.base_mono {w : World} {base base' : Nat} {e : TypeId} {k : Nat} {v : Value} {n : Nat} {xs : List Value} (h : w.ownsRow base e k v n xs) (hb : base' ≤ base) : w.ownsRow base' e k v n xs := by
  obtain ⟨h1, h2⟩ := h
  refine ⟨h1, ?_⟩
  rcases h2 with h2 | ⟨g, cap, cur, rfl, hbg, r⟩
  · exact .inl h2
  · exact .inr ⟨g, cap, cur, rfl, Nat.le_trans hb hbg, r⟩


/-- A slice of strings that can be read. -/
def Strs (w : World) (v : Value) (xs : List ByteArray) : Prop := Sl w 1 v xs.length (xs.map Value.string)
theorem Strs.kp {S : Nat → Prop} {w w' : World} {v : Value} {xs : List ByteArray} (h : Strs w v xs) (hk : Kp S w w') (hs : ∀ b, v.ownBlock = some b → b < w.heap.size → ¬ S b) : Strs w' v xs := Sl.kp h hk hs
theorem Strs.ext {w w' : World} {v : Value} {xs : List ByteArray} (h : Strs w v xs) (hk : Ext w w') : Strs w' v xs := Sl.ext h hk
theorem Strs.nil (w : World) : Strs w (.slice none 0 0) [] := Sl.nil w 1
/-- Open it: one way for none, one for some. -/
theorem Strs.open {w : World} {v : Value} {xs : List ByteArray} (h : Strs w v xs) :
    ∃ a c, v = .slice a xs.length c ∧ xs.length ≤ c ∧ xs.length ≤ maxLen ∧ (0 < xs.length → ∃ b off, a = some ⟨b, off, none⟩ ∧ b < w.heap.size ∧ ∀ i (hi : i < xs.length), w.cell? ⟨b, off + i, none⟩ = some (.string xs[i])) := by
  obtain ⟨a, c, rfl, hcc, h1, h2, h3⟩ := Sl.open h
  refine ⟨a, c, rfl, hcc, h1, fun hn => ?_⟩
  obtain ⟨b, off, rfl, hb, hc⟩ := h3 hn
  exact ⟨b, off, rfl, hb, fun i hi => hc i _ (by rw [List.getElem?_map, List.getElem?_eq_getElem hi]; rfl)⟩
theorem Strs.of_cells {w : World} {b off c : Nat} {xs : List ByteArray} (hm : xs.length ≤ maxLen) (hcc : xs.length ≤ c) (hb : b < w.heap.size) (h : ∀ i (hi : i < xs.length), w.cell? ⟨b, off + i, none⟩ = some (.string xs[i])) :
    Strs w (.slice (some ⟨b, off, none⟩) xs.length c) xs :=
  ⟨by simp, hm, _, _, rfl, hcc, .inr ⟨b, off, rfl, hb, fun i x hx => by
    rw [List.getElem?_map, Option.map_eq_some_iff] at hx
    obtain ⟨y, hy, rfl⟩ := hx
    obtain ⟨hi, rfl⟩ := List.getElem?_eq_some_iff.1 hy
    exact h i hi⟩⟩
theorem Strs.of_block {w : World} {b c : Nat} {xs : List ByteArray} {e : TypeId} {fr : Nat × Nat} (h : w.heap[b]? = some (.cells (xs.map Value.string).toArray e fr)) (hm : xs.length ≤ maxLen) (hcc : xs.length ≤ c) :
    Strs w (.slice (some ⟨b, 0, none⟩) xs.length c) xs := Sl.of_block h (by simp) hm hcc
theorem Strs.of_owns {w : World} {base : Nat} {e : TypeId} {v : Value} {n : Nat} {xs : List ByteArray} (h : w.ownsRow base e 1 v n (xs.map Value.string)) : Strs w v xs := by
  have hn : n = xs.length := by have := h.1; simp at this; exact this.symm
  subst hn
  exact Sl.of_owns h


/-- One more element of one cell. The element's type is e, the slice's t. -/
theorem wpList_app1 {P : Program} {ops : Array Oper} {rest : List Oper} {o : Oper} {a : Act} {Q : Exit → Act → World → Prop} {w : World} (t e : TypeId) (hfacts : P.underlying t = some (.slice e) ∧ (P.info? e).map (fun i => (i.zero.map fun z => z.cells.size, i.size, decide (i.bytes ≤ 64))) = some (some 1, 1, true))
    (hgd : o.guard = none) (s x : Operand) (ho : o.op = .call { callee := .builtin .append, args := #[s, x], argTypes := #[t, t] })
    (base : Nat) (v : Value) (n : Nat) (xs : List Value) (hs : a.eval s = v) (hown : w.ownsRow base e 1 v n xs)
    (b c : Nat) (u : Value) (hx : a.eval x = .slice (some ⟨b, 0, none⟩) 1 c) (hy : w.cell? ⟨b, 0, none⟩ = some u) (hu : u.oneCell' = true) (hn : n ≤ 1000000000000) (hbase : base ≤ w.heap.size)
    (h : ∀ v' w', w'.ownsRow base e 1 v' (n + 1) (xs ++ [u]) → Kp (fun k => v.ownBlock = some k) w w' → wpList P ops Q rest (a.put o.dst v') w') : wpList P ops Q (o :: rest) a w := by
  obtain ⟨ht, hi⟩ := hfacts
  cases hie : P.info? e with
  | none => simp [hie] at hi
  | some i =>
    simp only [hie, Option.map_some, Option.some.injEq, Prod.mk.injEq, decide_eq_true_eq] at hi
    obtain ⟨hz, hsz, hby⟩ := hi
    cases hze : i.zero with
    | none => simp [hze] at hz
    | some z =>
      simp only [hze, Option.map_some, Option.some.injEq] at hz
      have hnb : (n + 1) * i.bytes ≤ 140737488355328 := by
        have := Nat.mul_le_mul (show n + 1 ≤ 1000000000001 by omega) hby
        omega
      refine wpList_append_own w hgd s x t ho base e i z 1 i.bytes ht hie hze hsz rfl hz (by decide) v n xs hs hown ⟨b, 0, none⟩ 1 c [u] hx rfl ?_ ?_ (by unfold maxLen; omega) hnb hbase ?_
      · intro j u' hj
        match j, hj with
        | 0, hj => simp at hj; subst hj; exact hy
      · intro u' hu'; simp at hu'; subst hu'; exact hu
      · intro v' w' h1 h2 _
        exact h v' w' h1 ((Kp.refl _ w).grown h2 (fun k hk _ => hk))

theorem bytes_append (a b : List UInt8) : (⟨a.toArray⟩ ++ ⟨b.toArray⟩ : ByteArray) = ⟨(a ++ b).toArray⟩ := by
  apply ByteArray.ext; simp
theorem bytes_eq {a b : ByteArray} (h : a.data.toList = b.data.toList) : a = b := by
  apply ByteArray.ext; exact Array.toList_inj.1 h
theorem bytes_self (a : ByteArray) : (⟨a.data.toList.toArray⟩ : ByteArray) = a := bytes_eq (by simp)
theorem ret_val {a b : Value} (h : a = b) : Ending.returned a = .returned b := by rw [h]
end Av
