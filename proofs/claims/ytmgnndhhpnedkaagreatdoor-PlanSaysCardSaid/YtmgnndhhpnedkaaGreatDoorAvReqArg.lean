/- Ops and requests that come in. -/
import Derived.Test.YtmgnndhhpnedkaaGreatDoorAvActs
import Derived.Test.YtmgnndhhpnedkaaGreatDoorAvOps
import Derived.Test.YtmgnndhhpnedkaaGreatDoorAvPackLaw
namespace Go.Proofs.YtmgnndhhpnedkaaGreatDoor
set_option maxRecDepth 100000
open Go.ChangeShapes Go.WideShapes Go.ChangeAt Go.RowKit Av

/-- An op's numbers are int64s. -/
def Op64 (o : OpV) : Prop := I64 o.kind ∧ I64 o.ver ∧ I64 o.flags
/-- Rows of K cells each, one behind the other. -/
theorem sl_rowsK {α : Type} (f : α → List Value) (K : Nat) (hf : ∀ x, (f x).length = K) (hK : 0 < K) {W : World} {b off len cap : Nat} (xs : List α) (hl : xs.length = len) (hm : len ≤ maxLen) (hcc : len ≤ cap) (hb : 0 < len → b < W.heap.size)
    (h : ∀ (i : Nat) (hi : i < xs.length), ∀ j, j < K → W.cell? ⟨b, off + i * K + j, none⟩ = (f xs[i])[j]?) : Sl W K (.slice (some ⟨b, off, none⟩) len cap) len (xs.flatMap f) := by
  have hfl : (xs.flatMap f).length = len * K := by rw [rows_len f K hf, hl]
  refine ⟨hfl, hm, _, _, rfl, hcc, ?_⟩
  by_cases h0 : len = 0
  · exact .inl h0
  · refine .inr ⟨b, off, rfl, hb (by omega), fun i x hx => ?_⟩
    have hi : i < len * K := by rw [← hfl]; exact (List.getElem?_eq_some_iff.1 hx).1
    have hk : i / K < xs.length := by rw [hl]; exact Nat.div_lt_of_lt_mul (by rwa [Nat.mul_comm])
    have hr : i % K < K := Nat.mod_lt _ hK
    have h1 := rows_cell f K hf xs (i / K) hk (i % K) hr
    have h2 := h (i / K) hk (i % K) hr
    rw [← h1] at h2
    have e : i / K * K + i % K = i := by rw [Nat.mul_comm]; exact Nat.div_add_mod i K
    rw [Nat.add_assoc, e] at h2
    rw [h2, hx]

section
variable {P : Program} {H : Type} {enc : TypeId × Value → H} {W : World}
theorem trod_i64 {t : TypeId} {fuel : Nat} {cs : List Value} {x : DataW H × List MemPlace} (ht : P.underlying t = some (.int .i64)) (h : DataW.trod enc P W 0 (fun _ => true) true fuel t cs = some x) : ∃ n, cs = [.int .i64 n] ∧ I64 n := by
  obtain ⟨n, rfl, _, hw⟩ := DataW.trod_int ht h
  refine ⟨n, rfl, ?_⟩
  rw [Lit.wf, Bool.and_eq_true] at hw
  exact ⟨of_decide_eq_true hw.1, of_decide_eq_true hw.2⟩
theorem trod_str1 {t : TypeId} {fuel : Nat} {cs : List Value} {x : DataW H × List MemPlace} (ht : P.underlying t = some .string) (h : DataW.trod enc P W 0 (fun _ => true) true fuel t cs = some x) : ∃ s, cs = [.string s] ∧ s.size ≤ maxLen := by
  cases fuel with
  | zero => simp [DataW.trod] at h
  | succ n =>
    unfold DataW.trod at h
    rw [ht] at h
    split at h <;> simp_all
end
section
variable {H : Type} {enc : TypeId × Value → H} {W : World}
theorem trod_op {fuel : Nat} {cs : List Value} {x : DataW H × List MemPlace} (h : DataW.trod enc Tryz.prog W 0 (fun _ => true) true fuel 59 cs = some x) : ∃ o : OpV, cs = o.cells ∧ o.path.size ≤ maxLen ∧ o.data.size ≤ maxLen ∧ Op64 o := by
  obtain ⟨xs, n2, _, _, hlcs, hxl, hf⟩ := DataW.trod_struct Tryz.underlying59 h
  have q0 := hf 0 _ rfl
  have q1 := hf 1 _ rfl
  have q2 := hf 2 _ rfl
  have q3 := hf 3 _ rfl
  have q4 := hf 4 _ rfl
  have k3 : Program.cellsOf Tryz.prog 3 = 1 := by kernel_rfl
  have k9 : Program.cellsOf Tryz.prog 9 = 1 := by kernel_rfl
  have k5 : Program.cellsOf Tryz.prog 59 = 5 := by kernel_rfl
  simp at hxl
  obtain ⟨z0, z1, z2, z3, z4, rfl⟩ : ∃ z0 z1 z2 z3 z4, xs = [z0, z1, z2, z3, z4] := by
    match xs, hxl with
    | [z0, z1, z2, z3, z4], _ => exact ⟨z0, z1, z2, z3, z4, rfl⟩
  rw [k5] at hlcs
  obtain ⟨v0, v1, v2, v3, v4, rfl⟩ : ∃ v0 v1 v2 v3 v4, cs = [v0, v1, v2, v3, v4] := by
    match cs, hlcs with
    | [v0, v1, v2, v3, v4], _ => exact ⟨v0, v1, v2, v3, v4, rfl⟩
  simp [k3, k9] at q0 q1 q2 q3 q4
  obtain ⟨i0, e0, b0⟩ := trod_i64 Tryz.underlying3 q0
  obtain ⟨i1, e1, b1⟩ := trod_str1 Tryz.underlying9 q1
  obtain ⟨i2, e2, b2⟩ := trod_str1 Tryz.underlying9 q2
  obtain ⟨i3, e3, b3⟩ := trod_i64 Tryz.underlying3 q3
  obtain ⟨i4, e4, b4⟩ := trod_i64 Tryz.underlying3 q4
  simp at e0 e1 e2 e3 e4
  subst e0 e1 e2 e3 e4
  exact ⟨⟨i0, i1, i2, i3, i4⟩, rfl, b1, b2, b0, b3, b4⟩
/-- Ops that come in. -/
theorem trod_ops {fuel : Nat} {cs : List Value} {x : DataW H × List MemPlace} (h : DataW.trod enc Tryz.prog W 0 (fun _ => true) true fuel 23 cs = some x) : ∃ v, cs = [v] ∧ ∃ xs : List OpV, OpsAt W v xs ∧ OpsSz xs ∧ ∀ o ∈ xs, Op64 o := by
  have k5 : Program.cellsOf Tryz.prog 59 = 5 := by kernel_rfl
  rcases DataW.trod_slice Tryz.underlying23 h with ⟨rfl, hx⟩ | ⟨a, len, cap, elems, rest, n', _, rfl, _, _, hl, hm, hlen, hel, _⟩
  · exact ⟨_, rfl, [], OpsAt.nil W, fun o ho => by (cases ho), fun o ho => by (cases ho)⟩
  · refine ⟨_, rfl, ?_⟩
    have each : ∀ i, i < len → ∃ o : OpV, W.cells? 0 (a.add (i * 5)) 5 = some o.cells ∧ o.path.size ≤ maxLen ∧ o.data.size ≤ maxLen ∧ Op64 o := by
      intro i hi
      have h1 := hel i hi
      rw [k5] at h1
      cases hcs : W.cells? 0 (a.add (i * 5)) 5 with
      | none => rw [hcs] at h1; simp at h1; omega
      | some cs =>
        rw [hcs] at h1
        obtain ⟨y, hy⟩ : ∃ y, elems[i]? = some y := ⟨elems[i], by simp [hlen, hi]⟩
        rw [hy] at h1
        simp only [Option.bind_some] at h1
        obtain ⟨o, rfl, ho⟩ := trod_op h1
        exact ⟨o, rfl, ho⟩
    obtain ⟨xs, hxl, hxs⟩ := list_of_each _ len each
    refine ⟨xs, ⟨?_, Shp.some⟩, fun o ho => ?_, fun o ho => ?_⟩
    · rw [hxl]
      obtain ⟨b, off, spot⟩ := a
      by_cases h0 : len = 0
      · subst h0
        have : xs = [] := List.length_eq_zero_iff.1 hxl
        subst this
        exact ⟨rfl, Nat.zero_le _, _, _, rfl, Nat.zero_le _, .inl rfl⟩
      · have hat := fun i hi => World.cells?_some (hxs i hi).1
        have hfirst := (hat 0 (by omega)).2.2 0 (by omega)
        have h5 : W.cell? ⟨b, off, spot⟩ = some (.int .i64 xs[0].kind) := by simpa [Addr.add, OpV.cells] using hfirst
        have hspot : spot = none := by simpa using World.cell?_spot h5
        subst hspot
        refine sl_rowsK OpV.cells 5 (fun _ => rfl) (by decide) xs hxl (by omega) hl (fun _ => World.block_lt_of_cell? _ _ h5) (fun i hi j hj => ?_)
        have := (hat i hi).2.2 j hj
        rwa [add_plain, add_plain] at this
    · obtain ⟨i, hi, rfl⟩ := List.getElem_of_mem ho
      exact ⟨(hxs i hi).2.1, (hxs i hi).2.2.1⟩
    · obtain ⟨i, hi, rfl⟩ := List.getElem_of_mem ho
      exact (hxs i hi).2.2.2
/-- A request that comes in. -/
theorem arg_req {base : Nat} {r : Reach} {v : Value} {d : DataW H} {p : List MemPlace} (hv : Value.okWide Tryz.prog W r base 25 v) (h : DataW.Trod enc Tryz.prog W 0 (fun _ => true) true 25 v d p) :
    ∃ s n u, v = .agg #[.int .i64 s, .int .i64 n, u] ∧ I64 s ∧ I64 n ∧ ∃ xs : List OpV, OpsAt W u xs ∧ OpsSz xs ∧ ∀ o ∈ xs, Op64 o := by
  obtain ⟨cs, rfl, _⟩ := okWide_struct Tryz.underlying25 hv
  obtain ⟨fuel, h⟩ := h
  obtain ⟨xs, n2, _, _, hlcs, hxl, hf⟩ := DataW.trod_struct Tryz.underlying25 h
  have q0 := hf 0 _ rfl
  have q1 := hf 1 _ rfl
  have q2 := hf 2 _ rfl
  have k2 : Program.cellsOf Tryz.prog 2 = 1 := by kernel_rfl
  have k22 : Program.cellsOf Tryz.prog 23 = 1 := by kernel_rfl
  have k3 : Program.cellsOf Tryz.prog 25 = 3 := by kernel_rfl
  simp at hxl
  obtain ⟨z0, z1, z2, rfl⟩ : ∃ z0 z1 z2, xs = [z0, z1, z2] := by
    match xs, hxl with
    | [z0, z1, z2], _ => exact ⟨z0, z1, z2, rfl⟩
  rw [k3] at hlcs
  obtain ⟨cs⟩ := cs
  simp only [Value.cells] at hlcs q0 q1 q2
  obtain ⟨v0, v1, v2, rfl⟩ : ∃ v0 v1 v2, cs = [v0, v1, v2] := by
    match cs, hlcs with
    | [v0, v1, v2], _ => exact ⟨v0, v1, v2, rfl⟩
  simp [k2, k22] at q0 q1 q2
  obtain ⟨i0, e0, b0⟩ := trod_i64 Tryz.underlying2 q0
  obtain ⟨i1, e1, b1⟩ := trod_i64 Tryz.underlying2 q1
  obtain ⟨u, e2, b2⟩ := trod_ops q2
  simp at e0 e1 e2
  subst e0 e1 e2
  exact ⟨i0, i1, v2, rfl, b0, b1, b2⟩
end
end Go.Proofs.YtmgnndhhpnedkaaGreatDoor
