/- Ops and requests that come in. -/
import Derived.Test.YtkpcmbgnaenbhaaDoorAvActs
import Derived.Test.YtkpcmbgnaenbhaaDoorAvOps
import Derived.Test.YtkpcmbgnaenbhaaDoorAvPackLaw
namespace Go.Proofs.YtkpcmbgnaenbhaaDoor
set_option maxRecDepth 100000
open Go.ChangeShapes Go.WideShapes Go.ChangeAt Go.RowKit Av

/-- An op's numbers are int64s. -/
def Op64 (o : OpV) : Prop := I64 o.kind ∧ I64 o.ver ∧ I64 o.flags
/-- Rows of K cells each, one behind the other. -/
theorem sl_rowsK {α : Type} (f : α → List Value) (K : Nat) (hf : ∀ x, (f x).length = K) (hK : 0 < K) {W : World} {b off len cap : Nat} (xs : List α) (hl : xs.length = len) (hm : len ≤ maxLen) (hcc : len ≤ cap) (hb : 0 < len → b < W.heap.size)
    (h : ∀ (i : Nat) (hi : i < xs.length), ∀ j, j < K → W.cell? ⟨b, off + i * K + j, none⟩ = (f xs[i])[j]?) : Sl W K (.slice (some ⟨b, off, none⟩) len cap) len (xs.flatMap f) := by
  have hfl : (xs.flatMap f).length = len * K := by rw [rows_len f K hf, hl]
  refine ⟨hfl, hm, _, _, rfl, hcc, ?_⟩
  by_cases h0 : len = 0
  · exact .inl h0
  · refine .inr ⟨b, off, rfl, hb (by omega), fun i x hx => ?_⟩
    have hi : i < len * K := by rw [← hfl]; exact (List.getElem?_eq_some_iff.1 hx).1
    have hk : i / K < xs.length := by rw [hl]; exact Nat.div_lt_of_lt_mul (by rwa [Nat.mul_comm])
    have hr : i % K < K := Nat.mod_lt _ hK
    have h1 := rows_cell f K hf xs (i / K) hk (i % K) hr
    have h2 := h (i / K) hk (i % K) hr
    rw [← h1] at h2
    have e : i / K * K + i % K = i := by rw [Nat.mul_comm]; exact Nat.div_add_mod i K
    rw [Nat.add_assoc, e] at h2
    rw [h2, hx]

section
variable {P : Program} {H : Type} {enc : TypeId × Value → H} {W : World}
theorem trod_i64 {t : TypeId} {fuel : Nat} {cs : List Value} {x : DataW H × List MemPlace} (ht : P.underlying t = some (.int .i64)) (h : DataW.trod enc P W 0 (fun _ => true) true fuel t cs = some x) : ∃ n, cs = [.int .i64 n] ∧ I64 n := by
  obtain ⟨n, rfl, _, hw⟩ := DataW.trod_int ht h
  refine ⟨n, rfl, ?_⟩
  rw [Lit.wf, Bool.and_eq_true] at hw
  exact ⟨of_decide_eq_true hw.1, of_decide_eq_true hw.2⟩
theorem trod_str1 {t : TypeId} {fuel : Nat} {cs : List Value} {x : DataW H × List MemPlace} (ht : P.underlying t = some .string) (h : DataW.trod enc P W 0 (fun _ => true) true fuel t cs = some x) : ∃ s, cs = [.string s] ∧ s.size ≤ maxLen := by
  cases fuel with
  | zero => simp [DataW.trod] at h
  | succ n =>
    unfold DataW.trod at h
    rw [ht] at h
    split at h <;> simp_all
end
section
variable {H : Type} {enc : TypeId × Value → H} {W : World}
theorem trod_op {fuel : Nat} {cs : List Value} {x : DataW H × List MemPlace} (h : DataW.trod enc Tryd.prog W 0 (fun _ => true) true fuel 35 cs = some x) : ∃ o : OpV, cs = o.cells ∧ o.path.size ≤ maxLen ∧ o.data.size ≤ maxLen ∧ Op64 o := by
  obtain ⟨xs, n2, _, _, hlcs, hxl, hf⟩ := DataW.trod_struct Tryd.underlying35 h
  have q0 := hf 0 _ rfl
  have q1 := hf 1 _ rfl
  have q2 := hf 2 _ rfl
  have q3 := hf 3 _ rfl
  have q4 := hf 4 _ rfl
  have k3 : Program.cellsOf Tryd.prog 3 = 1 := by kernel_rfl
  have k9 : Program.cellsOf Tryd.prog 9 = 1 := by kernel_rfl
  have k5 : Program.cellsOf Tryd.prog 35 = 5 := by kernel_rfl
  simp at hxl
  obtain ⟨z0, z1, z2, z3, z4, rfl⟩ : ∃ z0 z1 z2 z3 z4, xs = [z0, z1, z2, z3, z4] := by
    match xs, hxl with
    | [z0, z1, z2, z3, z4], _ => exact ⟨z0, z1, z2, z3, z4, rfl⟩
  rw [k5] at hlcs
  obtain ⟨v0, v1, v2, v3, v4, rfl⟩ : ∃ v0 v1 v2 v3 v4, cs = [v0, v1, v2, v3, v4] := by
    match cs, hlcs with
    | [v0, v1, v2, v3, v4], _ => exact ⟨v0, v1, v2, v3, v4, rfl⟩
  simp [k3, k9] at q0 q1 q2 q3 q4
  obtain ⟨i0, e0, b0⟩ := trod_i64 Tryd.underlying3 q0
  obtain ⟨i1, e1, b1⟩ := trod_str1 Tryd.underlying9 q1
  obtain ⟨i2, e2, b2⟩ := trod_str1 Tryd.underlying9 q2
  obtain ⟨i3, e3, b3⟩ := trod_i64 Tryd.underlying3 q3
  obtain ⟨i4, e4, b4⟩ := trod_i64 Tryd.underlying3 q4
  simp at e0 e1 e2 e3 e4
  subst e0 e1 e2 e3 e4
  exact ⟨⟨i0, i1, i2, i3, i4⟩, rfl, b1, b2, b0, b3, b4⟩
end
end Go.Proofs.YtkpcmbgnaenbhaaDoor
