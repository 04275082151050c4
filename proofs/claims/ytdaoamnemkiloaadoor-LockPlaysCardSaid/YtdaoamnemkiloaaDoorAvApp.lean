/- Appending a slice of strings whole. No program. -/
import Derived.Test.YtdaoamnemkiloaaDoorAvBase
import Derived.Laws.AppendOwnNone
namespace Av
set_option maxRecDepth 100000
open Go Go.RowKit
theorem wpList_appS {P : Program} {ops : Array Oper} {rest : List Oper} {o : Oper} {a : Act} {Q : Exit → Act → World → Prop} {w : World} (t e : TypeId) (hfacts : P.underlying t = some (.slice e) ∧ (P.info? e).map (fun i => (i.zero.map fun z => z.cells.size, i.size, decide (i.bytes ≤ 64))) = some (some 1, 1, true))
    (hgd : o.guard = none) (s x : Operand) (ho : o.op = .call { callee := .builtin .append, args := #[s, x], argTypes := #[t, t] })
    (base : Nat) (v : Value) (n : Nat) (xs : List Value) (hs : a.eval s = v) (hown : w.ownsRow base e 1 v n xs)
    (u : Value) (ps : List ByteArray) (hx : a.eval x = u) (hu : Strs w u ps) (hsh : u = .slice none 0 0 ∨ ∃ ad l c, u = .slice (some ad) l c) (hn : n + ps.length ≤ 1000000000000) (hbase : base ≤ w.heap.size)
    (h : ∀ v' w', w'.ownsRow base e 1 v' (n + ps.length) (xs ++ ps.map Value.string) → Kp (fun k => v.ownBlock = some k) w w' → wpList P ops Q rest (a.put o.dst v') w') : wpList P ops Q (o :: rest) a w := by
  obtain ⟨ht, hi⟩ := hfacts
  cases hie : P.info? e with
  | none => simp [hie] at hi
  | some i =>
    simp only [hie, Option.map_some, Option.some.injEq, Prod.mk.injEq, decide_eq_true_eq] at hi
    obtain ⟨hz, hsz, hby⟩ := hi
    cases hze : i.zero with
    | none => simp [hze] at hz
    | some z =>
      simp only [hze, Option.map_some, Option.some.injEq] at hz
      rcases hsh with hsh | ⟨ad, l, c, hsh⟩
      · obtain ⟨a2, c2, hv, _, _, _⟩ := Strs.open hu
        have h0 : ps.length = 0 := by rw [hsh] at hv; simp at hv; exact hv.2.1.symm ▸ rfl
        obtain rfl : ps = [] := List.length_eq_zero_iff.1 h0
        refine wpList_append_own_none hgd s x t ho base e i 1 ht hie v n xs hs hown (hx.trans hsh) ?_
        exact h v w (by simpa using hown) (Kp.refl _ w)
      · obtain ⟨a2, c2, hv, _, _, hcells⟩ := Strs.open hu
        rw [hsh] at hv
        simp at hv
        obtain ⟨h1, h2, h3⟩ := hv
        subst h2 h3
        have hnb : (n + ps.length) * i.bytes ≤ 140737488355328 := by
          have := Nat.mul_le_mul hn hby
          omega
        refine wpList_append_own w hgd s x t ho base e i z 1 i.bytes ht hie hze hsz rfl hz (by decide) v n xs hs hown ad ps.length _ (ps.map Value.string) (hx.trans hsh) (by simp) ?_ ?_ (by unfold maxLen; omega) hnb hbase ?_
        · intro j u' hj
          have hj' : j < ps.length := by have := (List.getElem?_eq_some_iff.1 hj).1; simpa using this
          obtain ⟨b, off, e2, _, hc⟩ := hcells (by omega)
          rw [← h1] at e2
          obtain rfl : ad = ⟨b, off, none⟩ := by simpa using e2
          rw [show (⟨b, off, none⟩ : Addr).add j = ⟨b, off + j, none⟩ by by_cases h : j = 0 <;> simp [Addr.add, h]]
          rw [hc j hj']
          rw [List.getElem?_map, List.getElem?_eq_getElem hj'] at hj
          simpa using hj
        · intro u' hu'
          obtain ⟨q, _, rfl⟩ := List.mem_map.1 hu'
          rfl
        · intro v' w' h1 h2 _
          exact h v' w' h1 ((Kp.refl _ w).grown h2 (fun k hk _ => hk))
end Av
