/- Plain facts and arguments for PlanModel. -/
import Derived.Test.YtmgnndhhpnedkaaGreatDoorAvWAwk
namespace Go.Proofs.YtmgnndhhpnedkaaGreatDoor
set_option maxRecDepth 100000
open Go.RowKit Go.ChangeShapes Go.WideShapes Go.ChangeAt Av

/-- Truths that can be read. -/
def BoolsR (w : World) (v : Value) (l : List Bool) : Prop := Sl w 1 v l.length (l.map Value.bool) ∧ Shp v
theorem BoolsR.ext {w w' : World} {v : Value} {l : List Bool} (h : BoolsR w v l) (k : Ext w w') : BoolsR w' v l := ⟨Sl.ext h.1 k, h.2⟩
theorem BoolsR.open {w : World} {v : Value} {l : List Bool} (h : BoolsR w v l) : ∃ a c, v = .slice a l.length c ∧ l.length ≤ c ∧ l.length ≤ maxLen ∧ (0 < l.length → ∃ b off, a = some ⟨b, off, none⟩ ∧ b < w.heap.size ∧ ∀ i (hi : i < l.length), w.cell? ⟨b, off + i, none⟩ = some (.bool l[i])) := by
  obtain ⟨a, c, rfl, hcc, h1, h2, h3⟩ := Sl.open h.1
  refine ⟨a, c, rfl, hcc, h1, fun hn => ?_⟩
  obtain ⟨b, off, rfl, hb, hc⟩ := h3 hn
  exact ⟨b, off, rfl, hb, fun i hi => hc i _ (by rw [List.getElem?_map, List.getElem?_eq_getElem hi]; rfl)⟩
section
variable {P : Program} {H : Type} {enc : TypeId × Value → H} {W : World}
theorem arg_ints {base : Nat} {r : Reach} {t e : TypeId} {v : Value} {d : DataW H} {p : List MemPlace} (ht : P.underlying t = some (.slice e)) (he : P.underlying e = some (.int .i64)) (hc : P.cellsOf e = 1)
    (hv : Value.okWide P W r base t v) (h : DataW.Trod enc P W 0 (fun _ => true) true t v d p) : ∃ l : List Int, IntsR W v l ∧ ∀ x ∈ l, I64 x := by
  obtain ⟨a0, len, cap, rfl⟩ := okWide_slice ht hv
  obtain ⟨n, h⟩ := h
  obtain ⟨v', hcs, xs, h1, h2, h3⟩ := trod_sl (fun b : Int => [Value.int .i64 b]) 1 I64 (fun _ => rfl) (by decide) ht hc (fun fuel cs x hx => by obtain ⟨b, rfl, hb⟩ := trod_i64 he hx; exact ⟨b, rfl, hb⟩) h
  simp only [Value.cells, List.cons.injEq, and_true] at hcs
  subst hcs
  rw [flat_one] at h1
  exact ⟨xs, ⟨h1, h2⟩, h3⟩
theorem arg_bools {base : Nat} {r : Reach} {t e : TypeId} {v : Value} {d : DataW H} {p : List MemPlace} (ht : P.underlying t = some (.slice e)) (he : P.underlying e = some .bool) (hc : P.cellsOf e = 1)
    (hv : Value.okWide P W r base t v) (h : DataW.Trod enc P W 0 (fun _ => true) true t v d p) : ∃ l : List Bool, BoolsR W v l := by
  obtain ⟨a0, len, cap, rfl⟩ := okWide_slice ht hv
  obtain ⟨n, h⟩ := h
  obtain ⟨v', hcs, xs, h1, h2, _⟩ := trod_sl (fun b : Bool => [Value.bool b]) 1 (fun _ => True) (fun _ => rfl) (by decide) ht hc (fun fuel cs x hx => by obtain ⟨b, rfl, _⟩ := DataW.trod_bool he hx; exact ⟨b, rfl, trivial⟩) h
  simp only [Value.cells, List.cons.injEq, and_true] at hcs
  subst hcs
  rw [flat_one] at h1
  exact ⟨xs, ⟨h1, h2⟩⟩
end
/-! A request that may be: each of its Ops has a first name. -/
theorem top_ne {p : Bs} (h : goodL p = true) : topL p ≠ [] := by
  obtain ⟨t, rfl, _, _, _, h5⟩ := good_head p h
  have hm := parts_name (47 :: t)
  unfold topL
  rw [h5] at hm ⊢
  cases hc : cut t with
  | nil => exact absurd hc (cut_ne t)
  | cons x r =>
    have := (hm x (by rw [hc]; exact List.mem_cons_self)).1
    intro e
    simp only [List.headD_cons] at e
    subst e
    simp [nameL] at this
theorem fT_in {sh : Nat} {mv : Moved} {s n : Int} {xs : List OpV} (hm : mayR s n xs = 0) (ht : TabOk sh mv) : ∀ i, i < xs.length → 0 ≤ fT sh mv xs i ∧ fT sh mv xs i < (sh : Int) := by
  intro i hi
  rw [fT_at hi]
  exact ofT_yes ht (top_ne (good_kind ((mayR_ok hm).2.2.2.2.1 _ (List.getElem_mem hi))).2.2.1)
def badB (bs : List Bool) (i : Nat) : Bool := bs.getD i false
theorem badB_in {bs : List Bool} {i : Nat} (h : i < bs.length) : badB bs i = bs[i] := by simp [badB, List.getD, List.getElem?_eq_getElem h]
theorem badB_out {bs : List Bool} {i : Nat} (h : bs.length ≤ i) : badB bs i = false := by simp [badB, List.getD, List.getElem?_eq_none h]
theorem firstTo_yes {f : Nat → Bool} {k : Nat} (h1 : f k = true) (h2 : firstTo f k < 0) : firstTo f (k + 1) = k := by rw [firstTo, if_pos ⟨h1, h2⟩]
theorem firstTo_not {f : Nat → Bool} {k : Nat} (h1 : f k = false) : firstTo f (k + 1) = firstTo f k := by rw [firstTo, if_neg (by rw [h1]; simp)]
theorem firstTo_had {f : Nat → Bool} {k : Nat} (h1 : ¬ firstTo f k < 0) : firstTo f (k + 1) = firstTo f k := by rw [firstTo, if_neg (fun h => h1 h.2)]
theorem voteTo_yes {f : Nat → Bool} {l : List Nat} {k : Nat} (hk : k < l.length) (h1 : f l[k] = true) (h2 : (voteTo f l k).err = 0) : voteTo f l (k + 1) = ⟨4 + ((l[k] % 3 : Nat) : Int), (k : Int)⟩ := by
  have hg : l.getD k 0 = l[k] := by simp [List.getD, List.getElem?_eq_getElem hk]
  rw [voteTo, hg, if_pos ⟨h1, h2⟩]
theorem voteTo_not {f : Nat → Bool} {l : List Nat} {k : Nat} (hk : k < l.length) (h1 : f l[k] = false) : voteTo f l (k + 1) = voteTo f l k := by
  have hg : l.getD k 0 = l[k] := by simp [List.getD, List.getElem?_eq_getElem hk]
  rw [voteTo, hg, if_neg (by rw [h1]; simp)]
theorem voteTo_had {f : Nat → Bool} {l : List Nat} {k : Nat} (h1 : ¬ (voteTo f l k).err = 0) : voteTo f l (k + 1) = voteTo f l k := by rw [voteTo, if_neg (fun h => h1 h.2)]
theorem blk3 {W : World} {g : Nat} {s n : Int} {v : Value} {T : TypeId} (h : Blk W g #[.int .i64 s, .int .i64 n, v] T) : W.cell? ⟨g, 0, none⟩ = some (.int .i64 s) ∧ W.cell? ⟨g, 1, none⟩ = some (.int .i64 n) ∧ W.cell? ⟨g, 2, none⟩ = some v := ⟨h.cell 0 _ rfl, h.cell 1 _ rfl, h.cell 2 _ rfl⟩
end Go.Proofs.YtmgnndhhpnedkaaGreatDoor
