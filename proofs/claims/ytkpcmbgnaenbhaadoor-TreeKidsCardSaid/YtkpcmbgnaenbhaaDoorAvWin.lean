/- A row of one-cell elements that lies in a block from some place on, with spare cells behind it: append, and a slice without its head. No program. -/
import Derived.Test.YtkpcmbgnaenbhaaDoorAvApp2
import Derived.ArgAppend
import Derived.Test.YtkpcmbgnaenbhaaDoorAvNest
namespace Av
set_option maxRecDepth 100000
open Go Go.RowKit

/-- The row's address, its spare cells. -/
def Win (w : World) (base : Nat) (T : TypeId) (ao : Option Addr) (cap : Nat) (xs : List Value) : Prop :=
  xs.length ≤ cap ∧ cap ≤ maxLen ∧ (ao = none → cap = 0) ∧ (0 < cap → ∃ g off cur, ao = some ⟨g, off, none⟩ ∧ base ≤ g ∧ w.heap[g]? = some (.cells cur T (0, 0)) ∧ off + cap ≤ cur.size ∧ ∀ j (hj : j < xs.length), cur[off + j]? = some xs[j])
theorem Win.nil (w : World) (base : Nat) (T : TypeId) : Win w base T none 0 [] := ⟨Nat.le_refl _, Nat.zero_le _, fun _ => rfl, fun h => absurd h (by decide)⟩
theorem Win.of_owns {w : World} {base b n : Nat} {T : TypeId} {ao : Option Addr} {cap : Nat} {xs : List Value} (h : w.ownsRow b T 1 (.slice ao n cap) n xs) (hb : base ≤ b) : Win w base T ao cap xs ∧ xs.length = n := by
  obtain ⟨h1, ⟨h2, h3⟩ | ⟨g, c, cur, hv, hbg, hg, hn, hm, hcs, ht⟩⟩ := h
  · simp only [Value.slice.injEq] at h2
    obtain ⟨rfl, rfl, rfl⟩ := h2
    obtain rfl : xs = [] := List.eq_nil_of_length_eq_zero (by simpa using h1)
    exact ⟨Win.nil w base T, rfl⟩
  · simp only [Value.slice.injEq, true_and] at hv
    obtain ⟨rfl, rfl⟩ := hv
    have hl : xs.length = n := by omega
    refine ⟨⟨by omega, hm, fun h => by (cases h), fun _ => ⟨g, 0, cur, rfl, Nat.le_trans hb hbg, hg, by omega, fun j hj => ?_⟩⟩, hl⟩
    obtain ⟨x, hx⟩ : ∃ x, xs[j] = x := ⟨_, rfl⟩
    have h5 : xs[j]? = some x := by rw [← hx]; exact List.getElem?_eq_getElem hj
    rw [hx]
    rw [← ht, List.getElem?_take] at h5
    split at h5
    · simpa using h5
    · cases h5
theorem Win.keep {w w' : World} {base : Nat} {T : TypeId} {ao : Option Addr} {cap : Nat} {xs : List Value} (h : Win w base T ao cap xs) (hk : ∀ (g : Nat) (cur : Array Value), w.heap[g]? = some (Obj.cells cur T (0, 0)) → w'.heap[g]? = some (Obj.cells cur T (0, 0))) : Win w' base T ao cap xs :=
  ⟨h.1, h.2.1, h.2.2.1, fun h0 => by
    obtain ⟨g, off, cur, h1, h2, h3, h4⟩ := h.2.2.2 h0
    exact ⟨g, off, cur, h1, h2, hk g cur h3, h4⟩⟩
theorem Win.ext {w w' : World} {base : Nat} {T : TypeId} {ao : Option Addr} {cap : Nat} {xs : List Value} (h : Win w base T ao cap xs) (k : Ext w w') : Win w' base T ao cap xs := h.keep fun _ _ hg => k.obj hg (fun f => f)
/-- The first element. -/
theorem Win.head {w : World} {base : Nat} {T : TypeId} {ao : Option Addr} {cap : Nat} {x : Value} {xs : List Value} (h : Win w base T ao cap (x :: xs)) : ∃ g off, ao = some ⟨g, off, none⟩ ∧ w.cell? ⟨g, off, none⟩ = some x := by
  have h0 : 0 < cap := by have := h.1; simp at this; omega
  obtain ⟨g, off, cur, h1, _, h3, _, h5⟩ := h.2.2.2 h0
  refine ⟨g, off, h1, ?_⟩
  have := h5 0 (by simp)
  simp only [Nat.add_zero, List.getElem_cons_zero] at this
  simp [World.cell?, h3, this]
/-- Without its head. -/
theorem Win.tail {w : World} {base : Nat} {T : TypeId} {ao : Option Addr} {cap : Nat} {x : Value} {xs : List Value} (h : Win w base T ao cap (x :: xs)) (ao' : Option Addr) (ha : cap ≠ 1 → ao' = ao.map (fun a => a.add 1)) : Win w base T ao' (cap - 1) xs := by
  have h1 : xs.length + 1 ≤ cap := by have := h.1; simpa using this
  have h2 := h.2.1
  refine ⟨by omega, by omega, fun hnone => ?_, fun h0 => ?_⟩
  · by_cases hc : cap = 1
    · omega
    · rw [ha hc] at hnone
      have := h.2.2.1 (by simpa using hnone)
      omega
  · obtain ⟨g, off, cur, h3, h4, h5, h6, h7⟩ := h.2.2.2 (by omega)
    refine ⟨g, off + 1, cur, ?_, h4, h5, by omega, fun j hj => ?_⟩
    · rw [ha (by omega), h3]; simp [Addr.add]
    · have := h7 (j + 1) (by simp; omega)
      simp only [List.getElem_cons_succ] at this
      rw [Nat.add_assoc, Nat.add_comm 1 j]
      exact this
/-- The row's block begins with an element of this kind, and the row's end lies behind it. -/
def WinH (w : World) (T : TypeId) (ao : Option Addr) (cap n : Nat) (Pr : Value → Prop) : Prop := 0 < cap → ∃ g off cur x, ao = some ⟨g, off, none⟩ ∧ w.heap[g]? = some (Obj.cells cur T (0, 0)) ∧ cur[0]? = some x ∧ Pr x ∧ 0 < off + n
theorem WinH.nil (w : World) (T : TypeId) (Pr : Value → Prop) : WinH w T none 0 0 Pr := fun h => absurd h (by decide)
theorem WinH.keep {w w' : World} {T : TypeId} {ao : Option Addr} {cap n : Nat} {Pr : Value → Prop} (h : WinH w T ao cap n Pr) (hk : ∀ (g : Nat) (cur : Array Value), w.heap[g]? = some (Obj.cells cur T (0, 0)) → w'.heap[g]? = some (Obj.cells cur T (0, 0))) : WinH w' T ao cap n Pr := fun h0 => by
  obtain ⟨g, off, cur, x, h1, h2, h3⟩ := h h0
  exact ⟨g, off, cur, x, h1, hk g cur h2, h3⟩
theorem WinH.ext {w w' : World} {T : TypeId} {ao : Option Addr} {cap n : Nat} {Pr : Value → Prop} (h : WinH w T ao cap n Pr) (k : Ext w w') : WinH w' T ao cap n Pr := h.keep fun _ _ hg => k.obj hg (fun f => f)
theorem WinH.tail {w : World} {T : TypeId} {ao : Option Addr} {cap n : Nat} {Pr : Value → Prop} (h : WinH w T ao cap (n + 1) Pr) (ao' : Option Addr) (ha : cap ≠ 1 → ao' = ao.map (fun a => a.add 1)) : WinH w T ao' (cap - 1) n Pr := fun h0 => by
  obtain ⟨g, off, cur, x, h1, h2, h3, h4, _⟩ := h (by omega)
  exact ⟨g, off + 1, cur, x, by rw [ha (by omega), h1]; simp [Addr.add], h2, h3, h4, by omega⟩
/-- Rows of this type stand, but for cells of the row's own block. -/
def TouchT (w w' : World) (T : TypeId) (ao : Option Addr) : Prop := ∀ (i : Nat) (cur : Array Value), w.heap[i]? = some (Obj.cells cur T (0, 0)) → w'.heap[i]? = some (Obj.cells cur T (0, 0)) ∨ ∃ cur', (∃ off, ao = some ⟨i, off, none⟩) ∧ w'.heap[i]? = some (Obj.cells cur' T (0, 0)) ∧ cur'.size = cur.size
/-- One more behind it: written where there is room, or all of it anew. -/
theorem wpList_appWin {P : Program} {ops : Array Oper} {rest : List Oper} {o : Oper} {a : Act} {Q : Exit → Act → World → Prop} {w : World} (t T : TypeId) (hfacts : ElemOk P t T 1)
    (hgd : o.guard = none) (s x : Operand) (ho : o.op = .call { callee := .builtin .append, args := #[s, x], argTypes := #[t, t] })
    (base : Nat) (ao : Option Addr) (cap n : Nat) (xs : List Value) (hs : a.eval s = .slice ao n cap) (hwin : Win w base T ao cap xs) (hxn : xs.length = n)
    (ad : Addr) (c : Nat) (u : Value) (hx : a.eval x = .slice (some ad) 1 c) (hy : w.cell? ad = some u) (hu : u.oneCell' = true) (hn : n ≤ 100000) (hbase : base ≤ w.heap.size)
    (Pr : Value → Prop) (hP : ∀ x ∈ xs ++ [u], Pr x) (hH : WinH w T ao cap n Pr)
    (h : ∀ (ao' : Option Addr) (cap' : Nat) (w' : World), Win w' base T ao' cap' (xs ++ [u]) → WinH w' T ao' cap' (n + 1) Pr → ((0 < cap ∨ ∀ (i : Nat) (cur : Array Value), w.heap[i]? = some (Obj.cells cur T (0, 0)) → w'.heap[i]? = some (Obj.cells cur T (0, 0))) ∧ TouchT w w' T ao) → Kp (fun i => base ≤ i ∧ ∃ cur, w.heap[i]? = some (.cells cur T (0, 0))) w w' → wpList P ops Q rest (a.put o.dst (.slice ao' (n + 1) cap')) w') : wpList P ops Q (o :: rest) a w := by
  obtain ⟨ht, hi⟩ := hfacts
  cases hie : P.info? T with
  | none => simp [hie] at hi
  | some i =>
    simp only [hie, Option.map_some, Option.some.injEq, Prod.mk.injEq, decide_eq_true_eq] at hi
    obtain ⟨hz, hsz, hby⟩ := hi
    cases hze : i.zero with
    | none => simp [hze] at hz
    | some z =>
      simp only [hze, Option.map_some, Option.some.injEq] at hz
      have hnb : (n + 1) * i.bytes ≤ 140737488355328 := by
        have := Nat.mul_le_mul (show n + 1 ≤ 100001 by omega) hby
        omega
      have hnews : ∀ j v, [u][j]? = some v → w.cell? (ad.add j) = some v := by
        intro j v hj
        match j, hj with
        | 0, hj => simp at hj; subst hj; simpa [Addr.add] using hy
      have hone : ∀ v ∈ [u], v.oneCell' = true := fun v hv => by simp at hv; subst hv; exact hu
      have grows : ∀ v' w', w'.ownsRow w.heap.size T 1 v' (n + 1) (xs ++ [u]) → w.grownBy w' none → wpList P ops Q rest (a.put o.dst v') w' := by
        intro v' w' h1 h2
        obtain ⟨a', c', rfl⟩ := owns_slice h1
        have hk := (Kp.refl (fun i => base ≤ i ∧ ∃ cur, w.heap[i]? = some (Obj.cells cur T (0, 0))) w).grown h2 (fun k hk _ => by cases hk)
        have hw' := (Win.of_owns h1 hbase).1
        have hold : ∀ (j : Nat) (cur : Array Value), w.heap[j]? = some (Obj.cells cur T (0, 0)) → w'.heap[j]? = some (Obj.cells cur T (0, 0)) := fun j cur hj => h2.block j (Array.getElem?_eq_some_iff.1 hj).1 (fun e => by cases e) ▸ hj
        refine h a' c' w' hw' (fun h0 => ?_) ⟨.inr hold, fun j cur hj => .inl (hold j cur hj)⟩ hk
        obtain ⟨_, ⟨h5, _⟩ | ⟨g, c2, cur, hv, _, hg, _, _, _, ht2⟩⟩ := h1
        · simp only [Value.slice.injEq] at h5
          omega
        · simp only [Value.slice.injEq, true_and] at hv
          obtain ⟨rfl, rfl⟩ := hv
          obtain ⟨x, hx0⟩ : ∃ x, (xs ++ [u])[0]? = some x := ⟨(xs ++ [u])[0]'(by simp), List.getElem?_eq_getElem _⟩
          refine ⟨g, 0, cur, x, rfl, hg, ?_, hP x (List.mem_of_getElem? hx0), by omega⟩
          rw [← ht2, List.getElem?_take] at hx0
          split at hx0
          · simpa using hx0
          · cases hx0
      by_cases hr : n + 1 ≤ cap
      · obtain ⟨g, off, cur, rfl, h4, h5, h6, h7⟩ := hwin.2.2.2 (by omega)
        have hsz5 : off + n < cur.size := by omega
        refine wpList_append_arg w hgd s x t ho T i z 1 i.bytes ht hie hze hsz rfl hz (by decide) g off n cap xs hs (by omega) (fun j v hj => ?_) ad 1 c [u] hx rfl hnews hone (fun _ j hj => ?_) (by unfold maxLen; omega) hnb (fun _ => ?_) (fun hlt => by omega)
        · obtain ⟨hj1, rfl⟩ := List.getElem?_eq_some_iff.1 hj
          simp [World.cell?, h5, h7 j hj1]
        · obtain rfl : j = 0 := by simp at hj; omega
          simp [World.cell?, World.frozen?, h5, hsz5]
        · rw [Nat.mul_one]
          have e : w.setCells g (off + n) [u] = w.setCell ⟨g, off + n, none⟩ u := by
            simp [World.setCells, World.setCell]
          rw [e]
          obtain ⟨g2, off2, cur2, x2, e1, e2, e3, e4, e5⟩ := hH (by omega)
          simp only [Option.some.injEq, Addr.mk.injEq, and_true] at e1
          obtain ⟨rfl, rfl⟩ := e1
          rw [h5] at e2
          simp only [Option.some.injEq, Obj.cells.injEq, and_true] at e2
          subst e2
          have hnew : (w.setCell ⟨g, off + n, none⟩ u).heap[g]? = some (Obj.cells (cur.setIfInBounds (off + n) u) T (0, 0)) := Blk.set (show Blk w g cur T from h5) (off + n) u
          refine h _ _ _ ⟨by simp; omega, hwin.2.1, fun hh => by (cases hh), fun _ => ⟨g, off, cur.setIfInBounds (off + n) u, rfl, h4, ?_, by simpa using h6, fun j hj => ?_⟩⟩ (fun _ => ⟨g, off, _, x2, rfl, hnew, by rw [Array.getElem?_setIfInBounds_ne (by omega)]; exact e3, e4, by omega⟩) ⟨.inl (by omega), fun j cj hj => ?_⟩ (((Kp.refl _ w).setCell ⟨g, off + n, none⟩ u (fun _ => ⟨h4, cur, h5⟩)))
          · exact hnew
          · simp at hj
            by_cases hjn : j < xs.length
            · rw [List.getElem_append_left hjn, Array.getElem?_setIfInBounds_ne (by omega)]
              exact h7 j hjn
            · obtain rfl : j = n := by omega
              rw [Array.getElem?_setIfInBounds_self_of_lt hsz5, List.getElem_append_right (by omega)]
              simp
          · by_cases hjg : j = g
            · subst hjg
              rw [h5] at hj
              simp only [Option.some.injEq, Obj.cells.injEq, and_true] at hj
              subst hj
              exact .inr ⟨_, ⟨off, rfl⟩, hnew, by simp⟩
            · exact .inl ((Below.heap_setCell w ⟨g, off + n, none⟩ u j hjg).trans hj)
      · refine wpList_append_grows w hgd s x t ho T i z 1 i.bytes ht hie hze hsz rfl hz (by decide) ao n cap xs hs (fun hnone => ?_) (by omega) (fun b hb j v hj => ?_) ad 1 c [u] hx rfl hnews hone (by omega) (by unfold maxLen; omega) hnb grows
        · have := hwin.2.2.1 hnone
          have := hwin.1
          omega
        · obtain ⟨hj1, rfl⟩ := List.getElem?_eq_some_iff.1 hj
          have := hwin.1
          obtain ⟨g, off, cur, e, h4, h5, h6, h7⟩ := hwin.2.2.2 (by omega)
          rw [hb] at e
          simp only [Option.some.injEq] at e
          subst e
          rw [show (⟨g, off, none⟩ : Addr).add j = ⟨g, off + j, none⟩ by by_cases hj0 : j = 0 <;> simp [Addr.add, hj0]]
          simp [World.cell?, h5, h7 j hj1]
end Av
