/- Slices of acts: three cells each. -/
import Derived.Test.YtkpcmbgnaenbhaaDoorAvFrame
namespace Go.Proofs.YtkpcmbgnaenbhaaDoor
set_option maxRecDepth 100000
open Go.ChangeShapes Go.WideShapes Go.ChangeAt Go.RowKit Av

/-- One act that came in: its kind, whose it is, the value of its slice, the strings therein. -/
structure ActV where
  op : Int
  who : Int
  v : Value
  ps : List ByteArray
def ActV.cells (a : ActV) : List Value := [.int .i64 a.op, .int .i64 a.who, a.v]
/-- A slice of acts, and what each one's slice holds. -/
def Acts (w : World) (v : Value) (xs : List ActV) : Prop := Sl w 3 v xs.length (xs.flatMap ActV.cells) ∧ ∀ a ∈ xs, Strs w a.v a.ps ∧ (∀ p ∈ a.ps, p.size ≤ maxLen) ∧ (a.v = .slice none 0 0 ∨ ∃ ad l c, a.v = .slice (some ad) l c)
theorem acts_cell : ∀ (xs : List ActV) (k : Nat) (hk : k < xs.length) (j : Nat), j < 3 → (xs.flatMap ActV.cells)[k * 3 + j]? = (xs[k].cells)[j]?
  | [], _, hk, _, _ => by simp at hk
  | a :: xs, 0, _, j, hj => by
    simp only [List.flatMap_cons, List.getElem_cons_zero, Nat.zero_mul, Nat.zero_add]
    rw [List.getElem?_append_left (by simpa [ActV.cells] using hj)]
  | a :: xs, k + 1, hk, j, hj => by
    simp only [List.flatMap_cons, List.getElem_cons_succ]
    rw [List.getElem?_append_right (by simp [ActV.cells]; omega)]
    have := acts_cell xs k (by simpa using hk) j hj
    rw [← this]
    congr 1
    simp [ActV.cells]
    omega
theorem Acts.open {w : World} {v : Value} {xs : List ActV} (h : Acts w v xs) :
    ∃ a c, v = .slice a xs.length c ∧ xs.length ≤ c ∧ xs.length ≤ maxLen ∧ (0 < xs.length → ∃ b off, a = some ⟨b, off, none⟩ ∧ b < w.heap.size ∧ ∀ k (hk : k < xs.length),
      w.cell? ⟨b, off + k * 3, none⟩ = some (.int .i64 xs[k].op) ∧ w.cell? ⟨b, off + k * 3 + 1, none⟩ = some (.int .i64 xs[k].who) ∧ w.cell? ⟨b, off + k * 3 + 2, none⟩ = some xs[k].v) := by
  obtain ⟨a, c, rfl, hcc, h1, _, h3⟩ := Sl.open h.1
  refine ⟨a, c, rfl, hcc, h1, fun hn => ?_⟩
  obtain ⟨b, off, rfl, hb, hc⟩ := h3 hn
  refine ⟨b, off, rfl, hb, fun k hk => ⟨?_, ?_, ?_⟩⟩
  · exact hc (k * 3) _ (by have := acts_cell xs k hk 0 (by omega); simpa [ActV.cells] using this)
  · exact hc (k * 3 + 1) _ (by have := acts_cell xs k hk 1 (by omega); simpa [ActV.cells] using this)
  · exact hc (k * 3 + 2) _ (by have := acts_cell xs k hk 2 (by omega); simpa [ActV.cells] using this)

theorem list_of_each {α : Type} (R : Nat → α → Prop) : ∀ (n : Nat), (∀ i, i < n → ∃ x, R i x) → ∃ xs : List α, xs.length = n ∧ ∀ (i : Nat) (hi : i < xs.length), R i xs[i]
  | 0, _ => ⟨[], rfl, fun i hi => by simp at hi⟩
  | n + 1, h => by
    obtain ⟨xs, hl, hx⟩ := list_of_each R n (fun i hi => h i (by omega))
    obtain ⟨y, hy⟩ := h n (by omega)
    refine ⟨xs ++ [y], by simp [hl], fun i hi => ?_⟩
    simp at hi
    by_cases he : i < xs.length
    · rw [List.getElem_append_left he]; exact hx i he
    · have : i = n := by omega
      subst this
      rw [List.getElem_append_right (by omega)]
      simpa using hy
/-- Rows of three cells each, one behind the other. -/
theorem sl_rows {W : World} {b off len cap : Nat} (xs : List ActV) (hl : xs.length = len) (hm : len ≤ maxLen) (hcc : len ≤ cap) (hb : 0 < len → b < W.heap.size)
    (h : ∀ (i : Nat) (hi : i < xs.length), ∀ j, j < 3 → W.cell? ⟨b, off + i * 3 + j, none⟩ = (xs[i].cells)[j]?) : Sl W 3 (.slice (some ⟨b, off, none⟩) len cap) len (xs.flatMap ActV.cells) := by
  have hfl : (xs.flatMap ActV.cells).length = len * 3 := by
    rw [← hl]
    clear h hl hb
    induction xs with
    | nil => rfl
    | cons x xs ih => simp [ActV.cells] at *; omega
  refine ⟨hfl, hm, _, _, rfl, hcc, ?_⟩
  by_cases h0 : len = 0
  · exact .inl h0
  · refine .inr ⟨b, off, rfl, hb (by omega), fun i x hx => ?_⟩
    have hi : i < len * 3 := by rw [← hfl]; exact (List.getElem?_eq_some_iff.1 hx).1
    have hk : i / 3 < xs.length := by omega
    have h1 := acts_cell xs (i / 3) hk (i % 3) (by omega)
    have h2 := h (i / 3) hk (i % 3) (by omega)
    rw [← h1] at h2
    have e : i / 3 * 3 + i % 3 = i := by omega
    rw [Nat.add_assoc, e] at h2
    rw [h2, hx]

variable {P : Program} {H : Type} {enc : TypeId × Value → H} {W : World}
theorem trod_int1 {t : TypeId} {k : IntKind} {fuel : Nat} {cs : List Value} {x : DataW H × List MemPlace} (ht : P.underlying t = some (.int k)) (h : DataW.trod enc P W 0 (fun _ => true) true fuel t cs = some x) : ∃ n, cs = [.int k n] := by
  cases fuel with
  | zero => simp [DataW.trod] at h
  | succ n =>
    unfold DataW.trod at h
    rw [ht] at h
    split at h <;> simp_all
theorem trod_strs1 {t e : TypeId} {fuel : Nat} {cs : List Value} {x : DataW H × List MemPlace} (ht : P.underlying t = some (.slice e)) (he : P.underlying e = some .string) (hc : P.cellsOf e = 1)
    (h : DataW.trod enc P W 0 (fun _ => true) true fuel t cs = some x) : ∃ v, cs = [v] ∧ (v = .slice none 0 0 ∨ ∃ ad l c, v = .slice (some ad) l c) ∧ ∃ ss : List ByteArray, Strs W v ss ∧ ∀ p ∈ ss, p.size ≤ maxLen := by
  have key : ∀ a0 len cap, cs = [.slice a0 len cap] → ∃ ss : List ByteArray, Strs W (.slice a0 len cap) ss ∧ ∀ p ∈ ss, p.size ≤ maxLen := by
    intro a0 len cap e
    subst e
    exact strs_of_trod ht he hc h
  rcases open_strings ht he hc h with ⟨hcs, _⟩ | ⟨a, len', cap', ss, hcs, _⟩
  · exact ⟨_, hcs, .inl rfl, key _ _ _ hcs⟩
  · exact ⟨_, hcs, .inr ⟨_, _, _, rfl⟩, key _ _ _ hcs⟩
/-- A slice of acts that came in. -/
theorem arg_acts {base : Nat} {r : Reach} {t e ti tw ts te : TypeId} {v : Value} {d : DataW H} {p : List MemPlace} {f0 f1 f2 : Field} (ht : P.underlying t = some (.slice e)) (he : P.underlying e = some (.struct #[f0, f1, f2])) (hc : P.cellsOf e = 3)
    (e0 : f0.type = ti ∧ f0.offset = 0) (e1 : f1.type = tw ∧ f1.offset = 1) (e2 : f2.type = ts ∧ f2.offset = 2) (hti : P.underlying ti = some (.int .i64)) (htw : P.underlying tw = some (.int .i64)) (hts : P.underlying ts = some (.slice te)) (hte : P.underlying te = some .string)
    (c0 : P.cellsOf ti = 1) (c1 : P.cellsOf tw = 1) (c2 : P.cellsOf ts = 1) (c3 : P.cellsOf te = 1)
    (hv : Value.okWide P W r base t v) (h : DataW.Trod enc P W 0 (fun _ => true) true t v d p) : ∃ xs : List ActV, Acts W v xs := by
  obtain ⟨a0, len, cap, rfl⟩ := okWide_slice ht hv
  obtain ⟨n, h⟩ := h
  rcases DataW.trod_slice ht h with ⟨hcs, hx⟩ | ⟨a, len', cap', elems, rest, n', _, hcs, _, _, hl, hm, hlen, hel, _⟩
  · simp [Value.cells] at hcs
    obtain ⟨rfl, rfl, rfl⟩ := hcs
    exact ⟨[], Sl.nil _ _, by simp⟩
  · simp [Value.cells] at hcs
    obtain ⟨rfl, rfl, rfl⟩ := hcs
    have each : ∀ i, i < len → ∃ x : ActV, W.cells? 0 (a.add (i * 3)) 3 = some x.cells ∧ Strs W x.v x.ps ∧ (∀ p ∈ x.ps, p.size ≤ maxLen) ∧ (x.v = .slice none 0 0 ∨ ∃ ad l c, x.v = .slice (some ad) l c) := by
      intro i hi
      have h1 := hel i hi
      rw [hc] at h1
      cases hcs : W.cells? 0 (a.add (i * 3)) 3 with
      | none => rw [hcs] at h1; simp at h1; omega
      | some cs =>
        rw [hcs] at h1
        obtain ⟨y, hy⟩ : ∃ y, elems[i]? = some y := ⟨elems[i], by simp [hlen, hi]⟩
        rw [hy] at h1
        simp only [Option.bind_some] at h1
        obtain ⟨xs, n2, _, _, hlcs, hxl, hf⟩ := DataW.trod_struct he h1
        have q0 := hf 0 f0 rfl
        have q1 := hf 1 f1 rfl
        have q2 := hf 2 f2 rfl
        rw [e0.1, e0.2, c0] at q0
        rw [e1.1, e1.2, c1] at q1
        rw [e2.1, e2.2, c2] at q2
        simp at hxl
        obtain ⟨z0, z1, z2, rfl⟩ : ∃ z0 z1 z2, xs = [z0, z1, z2] := by
          match xs, hxl with
          | [z0, z1, z2], _ => exact ⟨z0, z1, z2, rfl⟩
        rw [hc] at hlcs
        obtain ⟨v0, v1, v2, rfl⟩ : ∃ v0 v1 v2, cs = [v0, v1, v2] := by
          match cs, hlcs with
          | [v0, v1, v2], _ => exact ⟨v0, v1, v2, rfl⟩
        simp at q0 q1 q2
        obtain ⟨i0, hi0⟩ := trod_int1 hti q0
        obtain ⟨i1, hi1⟩ := trod_int1 htw q1
        obtain ⟨w2, hw2, hshape, ss, hss, hsz⟩ := trod_strs1 hts hte c3 q2
        simp at hi0 hi1 hw2
        subst hi0 hi1 hw2
        exact ⟨⟨i0, i1, v2, ss⟩, rfl, hss, hsz, hshape⟩
    obtain ⟨xs, hxl, hxs⟩ := list_of_each _ len each
    refine ⟨xs, ?_, fun y hy => ?_⟩
    · rw [hxl]
      obtain ⟨b, off, spot⟩ := a
      by_cases h0 : len = 0
      · subst h0
        have : xs = [] := List.length_eq_zero_iff.1 hxl
        subst this
        exact ⟨rfl, Nat.zero_le _, _, _, rfl, Nat.zero_le _, .inl rfl⟩
      · have hat := fun i hi => World.cells?_some (hxs i hi).1
        have hfirst := (hat 0 (by omega)).2.2 0 (by omega)
        have hspot : spot = none := by
          have h5 : W.cell? ⟨b, off, spot⟩ = some (.int .i64 xs[0].op) := by simpa [Addr.add, ActV.cells] using hfirst
          simpa using World.cell?_spot h5
        subst hspot
        refine sl_rows xs hxl (by omega) hl (fun _ => ?_) (fun i hi j hj => ?_)
        · have h5 : W.cell? ⟨b, off, none⟩ = some (.int .i64 xs[0].op) := by simpa [Addr.add, ActV.cells] using hfirst
          exact World.block_lt_of_cell? _ _ h5
        · have := (hat i hi).2.2 j hj
          rwa [add_plain, add_plain] at this
    · obtain ⟨i, hi, rfl⟩ := List.getElem_of_mem hy
      exact (hxs i hi).2
end Go.Proofs.YtkpcmbgnaenbhaaDoor
