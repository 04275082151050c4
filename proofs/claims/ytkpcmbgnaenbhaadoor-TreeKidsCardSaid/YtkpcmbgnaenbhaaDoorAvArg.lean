/- Slices that come in, whatever their elements are. -/
import Derived.Test.YtkpcmbgnaenbhaaDoorAvReqArg
namespace Go.Proofs.YtkpcmbgnaenbhaaDoor
set_option maxRecDepth 100000
open Go.ChangeShapes Go.WideShapes Go.ChangeAt Go.RowKit Av
section
variable {P : Program} {H : Type} {enc : TypeId × Value → H} {W : World}
/-- A slice of elements of K cells each; what an element says is shown by 'elem'. -/
theorem trod_sl {α : Type} (f : α → List Value) (K : Nat) (Pr : α → Prop) (hf : ∀ x, (f x).length = K) (hK : 0 < K) {t e : TypeId} (ht : P.underlying t = some (.slice e)) (hc : P.cellsOf e = K)
    (elem : ∀ (fuel : Nat) (cs : List Value) (x : DataW H × List MemPlace), DataW.trod enc P W 0 (fun _ => true) true fuel e cs = some x → ∃ o : α, cs = f o ∧ Pr o)
    {fuel : Nat} {cs : List Value} {x : DataW H × List MemPlace} (h : DataW.trod enc P W 0 (fun _ => true) true fuel t cs = some x) : ∃ v, cs = [v] ∧ ∃ xs : List α, Sl W K v xs.length (xs.flatMap f) ∧ Shp v ∧ ∀ o ∈ xs, Pr o := by
  rcases DataW.trod_slice ht h with ⟨rfl, hx⟩ | ⟨a, len, cap, elems, rest, n', _, rfl, _, _, hl, hm, hlen, hel, _⟩
  · exact ⟨_, rfl, [], Sl.nil W K, .inl rfl, fun o ho => by (cases ho)⟩
  · refine ⟨_, rfl, ?_⟩
    have each : ∀ i, i < len → ∃ o : α, W.cells? 0 (a.add (i * K)) K = some (f o) ∧ Pr o := by
      intro i hi
      have h1 := hel i hi
      rw [hc] at h1
      cases hcs : W.cells? 0 (a.add (i * K)) K with
      | none => rw [hcs] at h1; simp at h1; omega
      | some cs =>
        rw [hcs] at h1
        obtain ⟨y, hy⟩ : ∃ y, elems[i]? = some y := ⟨elems[i], by simp [hlen, hi]⟩
        rw [hy] at h1
        simp only [Option.bind_some] at h1
        obtain ⟨o, rfl, ho⟩ := elem _ _ _ h1
        exact ⟨o, rfl, ho⟩
    obtain ⟨xs, hxl, hxs⟩ := list_of_each _ len each
    refine ⟨xs, ?_, Shp.some, fun o ho => ?_⟩
    · rw [hxl]
      obtain ⟨b, off, spot⟩ := a
      by_cases h0 : len = 0
      · subst h0
        obtain rfl : xs = [] := List.length_eq_zero_iff.1 hxl
        exact ⟨by simp, Nat.zero_le _, _, _, rfl, hl, .inl rfl⟩
      · have hat := fun i hi => World.cells?_some (hxs i hi).1
        obtain ⟨v0, hv0⟩ : ∃ v0, (f (xs[0]'(by omega)))[0]? = some v0 := ⟨(f (xs[0]'(by omega)))[0]'(by rw [hf]; exact hK), List.getElem?_eq_getElem _⟩
        have hfirst := (hat 0 (by omega)).2.2 0 (by omega)
        rw [hv0] at hfirst
        have h5 : W.cell? ⟨b, off, spot⟩ = some v0 := by simpa [Addr.add] using hfirst
        have hspot : spot = none := by simpa using World.cell?_spot h5
        subst hspot
        refine sl_rowsK f K hf hK xs hxl (by omega) hl (fun _ => World.block_lt_of_cell? _ _ h5) (fun i hi j hj => ?_)
        have := (hat i hi).2.2 j hj
        rwa [add_plain, add_plain] at this
    · obtain ⟨i, hi, rfl⟩ := List.getElem_of_mem ho
      exact (hxs i hi).2
theorem trod_u8 {t : TypeId} {fuel : Nat} {cs : List Value} {x : DataW H × List MemPlace} (ht : P.underlying t = some (.int .u8)) (h : DataW.trod enc P W 0 (fun _ => true) true fuel t cs = some x) : ∃ n : UInt8, cs = [byteV n] := by
  obtain ⟨n, rfl, _, hw⟩ := DataW.trod_int ht h
  rw [Lit.wf, Bool.and_eq_true] at hw
  have h0 : 0 ≤ n := of_decide_eq_true hw.1
  have h1 : n ≤ 255 := of_decide_eq_true hw.2
  refine ⟨UInt8.ofNat n.toNat, ?_⟩
  unfold byteV
  rw [ofNat_toNat (by omega)]
  rw [Int.toNat_of_nonneg h0]
theorem flat_one {α : Type} (g : α → Value) : ∀ xs : List α, xs.flatMap (fun x => [g x]) = xs.map g
  | [] => rfl
  | x :: xs => by rw [List.flatMap_cons, flat_one g xs]; rfl
/-- Bytes that come in. -/
theorem arg_bytes {base : Nat} {r : Reach} {t e : TypeId} {v : Value} {d : DataW H} {p : List MemPlace} (ht : P.underlying t = some (.slice e)) (he : P.underlying e = some (.int .u8)) (hc : P.cellsOf e = 1)
    (hv : Value.okWide P W r base t v) (h : DataW.Trod enc P W 0 (fun _ => true) true t v d p) : ∃ bs : List UInt8, BytesR W v bs := by
  obtain ⟨a0, len, cap, rfl⟩ := okWide_slice ht hv
  obtain ⟨n, h⟩ := h
  obtain ⟨v', hcs, xs, h1, h2, _⟩ := trod_sl (fun b : UInt8 => [byteV b]) 1 (fun _ => True) (fun _ => rfl) (by decide) ht hc (fun fuel cs x hx => by obtain ⟨b, rfl⟩ := trod_u8 he hx; exact ⟨b, rfl, trivial⟩) h
  simp only [Value.cells, List.cons.injEq, and_true] at hcs
  subst hcs
  rw [flat_one] at h1
  exact ⟨xs, h1, h2⟩
end
end Go.Proofs.YtkpcmbgnaenbhaaDoor
