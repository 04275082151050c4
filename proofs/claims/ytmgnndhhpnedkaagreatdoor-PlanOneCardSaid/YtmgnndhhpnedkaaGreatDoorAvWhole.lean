/- Plain facts for PlanWhole, PlanSays, PlanOne; rows of results that are made. -/
import Derived.Test.YtmgnndhhpnedkaaGreatDoorAvWPresB
import Derived.Test.YtmgnndhhpnedkaaGreatDoorAvModel
namespace Go.Proofs.YtmgnndhhpnedkaaGreatDoor
set_option maxRecDepth 100000
open Go.RowKit Av

/-- What a plan of a request by a table is. -/
structure PlanOk (sh : Nat) (mv : Moved) (xs : List OpV) (ss : List Nat) (pl : List (List Nat)) : Prop where
  len : ss.length = pl.length
  rise : ss.Pairwise (· < ·)
  few : pl.length ≤ 4
  lt : ∀ s ∈ ss, s < sh
  mem : ∀ (i : Nat) (h1 : i < ss.length) (h2 : i < pl.length), ∀ k ∈ pl[i], k < xs.length ∧ fT sh mv xs k = (ss[i] : Int)
  short : ∀ l ∈ pl, l.length ≤ xs.length
  all : ∀ j, j < xs.length → ∃ q, ∃ hq : q < pl.length, j ∈ pl[q]
  sum : (pl.map List.length).sum = xs.length
theorem planOk {sh : Nat} {mv : Moved} {s n : Int} {xs : List OpV} (hm : mayR s n xs = 0) (ht : TabOk sh mv) : PlanOk sh mv xs (shardsOf (fT sh mv xs) xs.length sh) (placesOf (fT sh mv xs) xs.length sh) := by
  have hf := fT_in (mv := mv) hm ht
  refine ⟨by simp [placesOf], shardsOf_rising _ _ _, ?_, fun s hs => (shardsOf_mem.1 hs).1, ?_, ?_, ?_, places_all hf⟩
  · have := shardsOf_len (fT sh mv xs) xs.length sh
    have := ht.sh4
    simp only [placesOf, List.length_map]
    omega
  · intro i h1 h2 k hk
    simp only [placesOf, List.getElem_map] at hk
    exact splitTo_mem.1 hk
  · intro l hl
    obtain ⟨q, _, rfl⟩ := List.mem_map.1 hl
    exact splitTo_len _ _ _
  · intro i hi
    obtain ⟨h1, h2⟩ := hf i hi
    have hs : (fT sh mv xs i).toNat ∈ shardsOf (fT sh mv xs) xs.length sh := shardsOf_mem.2 ⟨by omega, i, hi, by omega⟩
    obtain ⟨j, hj, e⟩ := List.getElem_of_mem hs
    refine ⟨j, by simpa [placesOf] using hj, ?_⟩
    simp only [placesOf, List.getElem_map, e]
    exact splitTo_mem.2 ⟨hi, by omega⟩
theorem idx_rise {ss : List Nat} (h : ss.Pairwise (· < ·)) {i : Nat} (hi : i < ss.length) : idxP (eqN (ss[i] : Int)) ss = i := by
  refine idxP_at hi (fun x hx => ?_) (by simp [eqN])
  obtain ⟨j, hj, rfl⟩ := List.getElem_of_mem hx
  rw [List.length_take] at hj
  rw [List.getElem_take]
  have := List.pairwise_iff_getElem.1 h j i (by omega) hi (by omega)
  unfold eqN
  rw [decide_eq_false_iff_not]
  omega
theorem PlanOk.row {sh : Nat} {mv : Moved} {xs : List OpV} {ss : List Nat} {pl : List (List Nat)} (h : PlanOk sh mv xs ss pl) {i : Nat} (h1 : i < ss.length) (h2 : i < pl.length) : rowOf ss pl (ss[i] : Int) = pl[i] := by
  unfold rowOf
  rw [idx_rise h.rise h1, plAt_nat]
  simp [List.getD, List.getElem?_eq_getElem h2]
theorem sel_len {xs : List OpV} : ∀ {l : List Nat}, (∀ k ∈ l, k < xs.length) → (opsSel xs l).length = l.length
  | [], _ => rfl
  | k :: l, h => by
    have ih := sel_len (xs := xs) (l := l) (fun q hq => h q (List.mem_cons_of_mem _ hq))
    have hk := h k List.mem_cons_self
    unfold opsSel at ih ⊢
    rw [List.filterMap_cons, List.getElem?_eq_getElem hk]
    simp [ih]
theorem sel_map {xs : List OpV} {α : Type} (f : OpV → α) (g : Nat → α) (hg : ∀ k (hk : k < xs.length), g k = f xs[k]) : ∀ {l : List Nat}, (∀ k ∈ l, k < xs.length) → (opsSel xs l).map f = l.map g
  | [], _ => rfl
  | k :: l, h => by
    have ih := sel_map f g hg (l := l) (fun q hq => h q (List.mem_cons_of_mem _ hq))
    have hk := h k List.mem_cons_self
    unfold opsSel at ih ⊢
    rw [List.filterMap_cons, List.getElem?_eq_getElem hk]
    simp [ih, hg k hk]
theorem sel_at {xs : List OpV} {l : List Nat} (h : ∀ k ∈ l, k < xs.length) {j : Nat} (hj : j < (opsSel xs l).length) : ∃ (hl : j < l.length) (hx : l[j] < xs.length), (opsSel xs l)[j] = xs[l[j]] := by
  have hl : j < l.length := by rw [sel_len h] at hj; exact hj
  refine ⟨hl, h _ (List.getElem_mem hl), ?_⟩
  have e := sel_map (xs := xs) (fun o => some o) (fun k => xs[k]?) (fun k hk => by rw [List.getElem?_eq_getElem hk]) h
  have e2 := congrArg (fun q => q[j]?) e
  simp only [List.getElem?_map, List.getElem?_eq_getElem hj, List.getElem?_eq_getElem hl, Option.map_some, Option.some.injEq] at e2
  rw [List.getElem?_eq_getElem (h _ (List.getElem_mem hl)), Option.some.injEq] at e2
  exact e2
/-- A result that is an op's path. -/
def rsP (o : OpV) : ResV := ⟨0, o.path, ⟨#[]⟩, 0, 0, 0, 0, 0, 0, 0⟩
def rowsP (f : OpV → ResV) (xs : List OpV) (pl : List (List Nat)) : List (List ResV) := pl.map fun l => (opsSel xs l).map f
theorem PlanOk.inr {sh : Nat} {mv : Moved} {xs : List OpV} {ss : List Nat} {pl : List (List Nat)} (h : PlanOk sh mv xs ss pl) : ∀ l ∈ pl, ∀ k ∈ l, k < xs.length := by
  intro l hl k hk
  obtain ⟨i, hi, rfl⟩ := List.getElem_of_mem hl
  exact (h.mem i (by rw [h.len]; exact hi) hi k hk).1
theorem rowsP_fits {sh : Nat} {mv : Moved} {xs : List OpV} {ss : List Nat} {pl : List (List Nat)} (f : OpV → ResV) (h : PlanOk sh mv xs ss pl) : fitsR pl (rowsP f xs pl) := by
  refine ⟨by simp [rowsP], fun i hi => ?_⟩
  simp only [rowsP, List.getD, List.getElem?_map, List.getElem?_eq_getElem hi, Option.map_some, Option.getD_some, List.length_map]
  exact sel_len (h.inr _ (List.getElem_mem hi))
theorem rowsP_put {sh : Nat} {mv : Moved} {xs : List OpV} {ss : List Nat} {pl : List (List Nat)} (f : OpV → ResV) (h : PlanOk sh mv xs ss pl) : putTo xs.length pl (rowsP f xs pl) pl.length = xs.map f := by
  let g : Nat → ResV := fun k => match xs[k]? with
    | some o => f o
    | none => resZ
  have hg : ∀ k (hk : k < xs.length), g k = f xs[k] := fun k hk => by simp [g, List.getElem?_eq_getElem hk]
  have e : rowsP f xs pl = pl.map fun l => l.map g := List.map_congr_left fun l hl => sel_map f g hg (h.inr l hl)
  rw [putTo_all e h.all]
  apply List.ext_getElem (by simp)
  intro i h1 h2
  simp only [List.getElem_map, List.getElem_range]
  exact hg i (by simpa using h2)
/-! Rows that are made. -/
theorem lr_facts : ElemOk Tryz.prog lrT rsT 1 := ⟨by kernel_rfl, by kernel_rfl⟩
structure RowsW (base : Nat) (W : World) (lv : Value) (vs : List Value) (rs : List (List ResV)) : Prop where
  len : vs.length = rs.length
  own : W.ownsRow base rsT 1 lv vs.length vs
  inn : ∀ (j : Nat) (h1 : j < vs.length) (h2 : j < rs.length), ResAt W vs[j] rs[j]
  low : ∀ x ∈ vs, ∀ i, x.ownBlock = some i → i < W.heap.size ∧ lv.ownBlock ≠ some i
theorem RowsW.nil (base : Nat) (W : World) : RowsW base W (.slice none 0 0) [] [] := ⟨rfl, ⟨rfl, .inl ⟨rfl, rfl⟩⟩, fun j h1 => absurd h1 (Nat.not_lt_zero _), fun x hx => by cases hx⟩
theorem RowsW.ext {base : Nat} {W W1 : World} {lv : Value} {vs : List Value} {rs : List (List ResV)} (h : RowsW base W lv vs rs) (k : Ext W W1) : RowsW base W1 lv vs rs :=
  ⟨h.len, ownsRow.ext h.own k, fun j h1 h2 => (h.inn j h1 h2).ext k, fun x hx i hi => ⟨Nat.lt_of_lt_of_le (h.low x hx i hi).1 k.size, (h.low x hx i hi).2⟩⟩
theorem RowsW.step {base : Nat} {W w' : World} {lv v' y : Value} {vs : List Value} {rs : List (List ResV)} {r : List ResV} (h : RowsW base W lv vs rs) (hy : ResAt W y r) (hb : ∀ i, y.ownBlock = some i → i < W.heap.size ∧ lv.ownBlock ≠ some i)
    (h1 : w'.ownsRow base rsT 1 v' (vs.length + 1) (vs ++ [y])) (k2 : Kp (fun i => lv.ownBlock = some i) W w') (h3 : v'.ownBlock = lv.ownBlock ∨ ∃ n, v'.ownBlock = some n ∧ W.heap.size ≤ n) : RowsW base w' v' (vs ++ [y]) (rs ++ [r]) := by
  refine ⟨by simp [h.len], by rw [List.length_append]; exact h1, fun j j1 j2 => ?_, fun x hx i hi => ?_⟩
  · have hl := h.len
    by_cases hj : j < vs.length
    · rw [List.getElem_append_left hj, List.getElem_append_left (by omega)]
      exact (h.inn j hj (by omega)).kp k2 (fun i hi e => (h.low _ (List.getElem_mem hj) i hi).2 e)
    · rw [List.length_append, List.length_singleton] at j1
      rw [List.getElem_append_right (by omega), List.getElem_append_right (by omega)]
      simp only [List.getElem_singleton]
      exact hy.kp k2 (fun i hi e => (hb i hi).2 e)
  · have hx' : i < W.heap.size ∧ lv.ownBlock ≠ some i := by
      rcases List.mem_append.1 hx with hx | hx
      · exact h.low x hx i hi
      · simp only [List.mem_singleton] at hx
        subst hx
        exact hb i hi
    refine ⟨Nat.lt_of_lt_of_le hx'.1 k2.size, fun e => ?_⟩
    rcases h3 with h3 | ⟨n, h3, h4⟩
    · exact hx'.2 (by rw [← h3]; exact e)
    · rw [h3] at e
      simp only [Option.some.injEq] at e
      omega
theorem RowsW.read {base : Nat} {W : World} {lv : Value} {vs : List Value} {rs : List (List ResV)} (h : RowsW base W lv vs rs) : RowsS W lv vs rs :=
  ⟨h.len, ⟨Sl.of_owns h.own, shp_owns h.own⟩, h.inn⟩
end Go.Proofs.YtmgnndhhpnedkaaGreatDoor
