/- Walks of package aviarylaw19: PlanSays. -/
import Derived.Test.YtmgnndhhpnedkaaGreatDoorAvWPresB
import Derived.Test.YtmgnndhhpnedkaaGreatDoorAvModel
import Derived.Test.YtmgnndhhpnedkaaGreatDoorAvWRp
import Derived.Deep.DeepCutAuto
import Derived.Test.YtmgnndhhpnedkaaGreatDoorAvFrameL
set_option maxRecDepth 10000
namespace Go.Proofs.YtmgnndhhpnedkaaGreatDoor
set_option maxRecDepth 100000
open Go.RowKit Av

/-- What a plan of a request by a table is. -/
structure PlanOk (sh : Nat) (mv : Moved) (xs : List OpV) (ss : List Nat) (pl : List (List Nat)) : Prop where
  len : ss.length = pl.length
  rise : ss.Pairwise (· < ·)
  few : pl.length ≤ 4
  lt : ∀ s ∈ ss, s < sh
  mem : ∀ (i : Nat) (h1 : i < ss.length) (h2 : i < pl.length), ∀ k ∈ pl[i], k < xs.length ∧ fT sh mv xs k = (ss[i] : Int)
  short : ∀ l ∈ pl, l.length ≤ xs.length
  all : ∀ j, j < xs.length → ∃ q, ∃ hq : q < pl.length, j ∈ pl[q]
  sum : (pl.map List.length).sum = xs.length
theorem planOk {sh : Nat} {mv : Moved} {s n : Int} {xs : List OpV} (hm : mayR s n xs = 0) (ht : TabOk sh mv) : PlanOk sh mv xs (shardsOf (fT sh mv xs) xs.length sh) (placesOf (fT sh mv xs) xs.length sh) := by
  have hf := fT_in (mv := mv) hm ht
  refine ⟨by simp [placesOf], shardsOf_rising _ _ _, ?_, fun s hs => (shardsOf_mem.1 hs).1, ?_, ?_, ?_, places_all hf⟩
  · have := shardsOf_len (fT sh mv xs) xs.length sh
    have := ht.sh4
    simp only [placesOf, List.length_map]
    omega
  · intro i h1 h2 k hk
    simp only [placesOf, List.getElem_map] at hk
    exact splitTo_mem.1 hk
  · intro l hl
    obtain ⟨q, _, rfl⟩ := List.mem_map.1 hl
    exact splitTo_len _ _ _
  · intro i hi
    obtain ⟨h1, h2⟩ := hf i hi
    have hs : (fT sh mv xs i).toNat ∈ shardsOf (fT sh mv xs) xs.length sh := shardsOf_mem.2 ⟨by omega, i, hi, by omega⟩
    obtain ⟨j, hj, e⟩ := List.getElem_of_mem hs
    refine ⟨j, by simpa [placesOf] using hj, ?_⟩
    simp only [placesOf, List.getElem_map, e]
    exact splitTo_mem.2 ⟨hi, by omega⟩
theorem idx_rise {ss : List Nat} (h : ss.Pairwise (· < ·)) {i : Nat} (hi : i < ss.length) : idxP (eqN (ss[i] : Int)) ss = i := by
  refine idxP_at hi (fun x hx => ?_) (by simp [eqN])
  obtain ⟨j, hj, rfl⟩ := List.getElem_of_mem hx
  rw [List.length_take] at hj
  rw [List.getElem_take]
  have := List.pairwise_iff_getElem.1 h j i (by omega) hi (by omega)
  unfold eqN
  rw [decide_eq_false_iff_not]
  omega
theorem PlanOk.row {sh : Nat} {mv : Moved} {xs : List OpV} {ss : List Nat} {pl : List (List Nat)} (h : PlanOk sh mv xs ss pl) {i : Nat} (h1 : i < ss.length) (h2 : i < pl.length) : rowOf ss pl (ss[i] : Int) = pl[i] := by
  unfold rowOf
  rw [idx_rise h.rise h1, plAt_nat]
  simp [List.getD, List.getElem?_eq_getElem h2]
theorem sel_len {xs : List OpV} : ∀ {l : List Nat}, (∀ k ∈ l, k < xs.length) → (opsSel xs l).length = l.length
  | [], _ => rfl
  | k :: l, h => by
    have ih := sel_len (xs := xs) (l := l) (fun q hq => h q (List.mem_cons_of_mem _ hq))
    have hk := h k List.mem_cons_self
    unfold opsSel at ih ⊢
    rw [List.filterMap_cons, List.getElem?_eq_getElem hk]
    simp [ih]
theorem sel_map {xs : List OpV} {α : Type} (f : OpV → α) (g : Nat → α) (hg : ∀ k (hk : k < xs.length), g k = f xs[k]) : ∀ {l : List Nat}, (∀ k ∈ l, k < xs.length) → (opsSel xs l).map f = l.map g
  | [], _ => rfl
  | k :: l, h => by
    have ih := sel_map f g hg (l := l) (fun q hq => h q (List.mem_cons_of_mem _ hq))
    have hk := h k List.mem_cons_self
    unfold opsSel at ih ⊢
    rw [List.filterMap_cons, List.getElem?_eq_getElem hk]
    simp [ih, hg k hk]
theorem sel_at {xs : List OpV} {l : List Nat} (h : ∀ k ∈ l, k < xs.length) {j : Nat} (hj : j < (opsSel xs l).length) : ∃ (hl : j < l.length) (hx : l[j] < xs.length), (opsSel xs l)[j] = xs[l[j]] := by
  have hl : j < l.length := by rw [sel_len h] at hj; exact hj
  refine ⟨hl, h _ (List.getElem_mem hl), ?_⟩
  have e := sel_map (xs := xs) (fun o => some o) (fun k => xs[k]?) (fun k hk => by rw [List.getElem?_eq_getElem hk]) h
  have e2 := congrArg (fun q => q[j]?) e
  simp only [List.getElem?_map, List.getElem?_eq_getElem hj, List.getElem?_eq_getElem hl, Option.map_some, Option.some.injEq] at e2
  rw [List.getElem?_eq_getElem (h _ (List.getElem_mem hl)), Option.some.injEq] at e2
  exact e2
/-- A result that is an op's path. -/
def rsP (o : OpV) : ResV := ⟨0, o.path, ⟨#[]⟩, 0, 0, 0, 0, 0, 0, 0⟩
def rowsP (f : OpV → ResV) (xs : List OpV) (pl : List (List Nat)) : List (List ResV) := pl.map fun l => (opsSel xs l).map f
theorem PlanOk.inr {sh : Nat} {mv : Moved} {xs : List OpV} {ss : List Nat} {pl : List (List Nat)} (h : PlanOk sh mv xs ss pl) : ∀ l ∈ pl, ∀ k ∈ l, k < xs.length := by
  intro l hl k hk
  obtain ⟨i, hi, rfl⟩ := List.getElem_of_mem hl
  exact (h.mem i (by rw [h.len]; exact hi) hi k hk).1
theorem rowsP_fits {sh : Nat} {mv : Moved} {xs : List OpV} {ss : List Nat} {pl : List (List Nat)} (f : OpV → ResV) (h : PlanOk sh mv xs ss pl) : fitsR pl (rowsP f xs pl) := by
  refine ⟨by simp [rowsP], fun i hi => ?_⟩
  simp only [rowsP, List.getD, List.getElem?_map, List.getElem?_eq_getElem hi, Option.map_some, Option.getD_some, List.length_map]
  exact sel_len (h.inr _ (List.getElem_mem hi))
theorem rowsP_put {sh : Nat} {mv : Moved} {xs : List OpV} {ss : List Nat} {pl : List (List Nat)} (f : OpV → ResV) (h : PlanOk sh mv xs ss pl) : putTo xs.length pl (rowsP f xs pl) pl.length = xs.map f := by
  let g : Nat → ResV := fun k => match xs[k]? with
    | some o => f o
    | none => resZ
  have hg : ∀ k (hk : k < xs.length), g k = f xs[k] := fun k hk => by simp [g, List.getElem?_eq_getElem hk]
  have e : rowsP f xs pl = pl.map fun l => l.map g := List.map_congr_left fun l hl => sel_map f g hg (h.inr l hl)
  rw [putTo_all e h.all]
  apply List.ext_getElem (by simp)
  intro i h1 h2
  simp only [List.getElem_map, List.getElem_range]
  exact hg i (by simpa using h2)
/-! Rows that are made. -/
theorem lr_facts : ElemOk Tryz.prog lrT rsT 1 := ⟨by kernel_rfl, by kernel_rfl⟩
structure RowsW (base : Nat) (W : World) (lv : Value) (vs : List Value) (rs : List (List ResV)) : Prop where
  len : vs.length = rs.length
  own : W.ownsRow base rsT 1 lv vs.length vs
  inn : ∀ (j : Nat) (h1 : j < vs.length) (h2 : j < rs.length), ResAt W vs[j] rs[j]
  low : ∀ x ∈ vs, ∀ i, x.ownBlock = some i → i < W.heap.size ∧ lv.ownBlock ≠ some i
theorem RowsW.nil (base : Nat) (W : World) : RowsW base W (.slice none 0 0) [] [] := ⟨rfl, ⟨rfl, .inl ⟨rfl, rfl⟩⟩, fun j h1 => absurd h1 (Nat.not_lt_zero _), fun x hx => by cases hx⟩
theorem RowsW.ext {base : Nat} {W W1 : World} {lv : Value} {vs : List Value} {rs : List (List ResV)} (h : RowsW base W lv vs rs) (k : Ext W W1) : RowsW base W1 lv vs rs :=
  ⟨h.len, ownsRow.ext h.own k, fun j h1 h2 => (h.inn j h1 h2).ext k, fun x hx i hi => ⟨Nat.lt_of_lt_of_le (h.low x hx i hi).1 k.size, (h.low x hx i hi).2⟩⟩
theorem RowsW.step {base : Nat} {W w' : World} {lv v' y : Value} {vs : List Value} {rs : List (List ResV)} {r : List ResV} (h : RowsW base W lv vs rs) (hy : ResAt W y r) (hb : ∀ i, y.ownBlock = some i → i < W.heap.size ∧ lv.ownBlock ≠ some i)
    (h1 : w'.ownsRow base rsT 1 v' (vs.length + 1) (vs ++ [y])) (k2 : Kp (fun i => lv.ownBlock = some i) W w') (h3 : v'.ownBlock = lv.ownBlock ∨ ∃ n, v'.ownBlock = some n ∧ W.heap.size ≤ n) : RowsW base w' v' (vs ++ [y]) (rs ++ [r]) := by
  refine ⟨by simp [h.len], by rw [List.length_append]; exact h1, fun j j1 j2 => ?_, fun x hx i hi => ?_⟩
  · have hl := h.len
    by_cases hj : j < vs.length
    · rw [List.getElem_append_left hj, List.getElem_append_left (by omega)]
      exact (h.inn j hj (by omega)).kp k2 (fun i hi e => (h.low _ (List.getElem_mem hj) i hi).2 e)
    · rw [List.length_append, List.length_singleton] at j1
      rw [List.getElem_append_right (by omega), List.getElem_append_right (by omega)]
      simp only [List.getElem_singleton]
      exact hy.kp k2 (fun i hi e => (hb i hi).2 e)
  · have hx' : i < W.heap.size ∧ lv.ownBlock ≠ some i := by
      rcases List.mem_append.1 hx with hx | hx
      · exact h.low x hx i hi
      · simp only [List.mem_singleton] at hx
        subst hx
        exact hb i hi
    refine ⟨Nat.lt_of_lt_of_le hx'.1 k2.size, fun e => ?_⟩
    rcases h3 with h3 | ⟨n, h3, h4⟩
    · exact hx'.2 (by rw [← h3]; exact e)
    · rw [h3] at e
      simp only [Option.some.injEq] at e
      omega
theorem RowsW.read {base : Nat} {W : World} {lv : Value} {vs : List Value} {rs : List (List ResV)} (h : RowsW base W lv vs rs) : RowsS W lv vs rs :=
  ⟨h.len, ⟨Sl.of_owns h.own, shp_owns h.own⟩, h.inn⟩
end Go.Proofs.YtmgnndhhpnedkaaGreatDoor
namespace Go.Proofs.YtmgnndhhpnedkaaGreatDoor
open Go.RowKit Av

def lenOf : Value → Nat
  | .slice _ n _ => n
  | _ => 0
def VtRel (w8 : World) (v : Value) (W : World) : Prop := ∃ vs : List VoteV, VotesAt W v vs ∧ vs.length ≤ 6 ∧ Ext w8 W
theorem votes_slice {w : World} {v : Value} {vs : List VoteV} (h : VotesAt w v vs) : ∃ a c, v = .slice a vs.length c := by
  obtain ⟨a, c, e, _⟩ := VotesAt.open h
  exact ⟨a, c, e⟩
abbrev rvsT : TypeId := 48
theorem rv_facts : ElemOk Tryz.prog rvsT rvT 2 := ⟨by kernel_rfl, by kernel_rfl⟩
theorem sameR_me (s n : Int) (xs : List OpV) : sameR s n xs s n xs = true := by simp [sameR]
/-- A result that is an op's path and data. -/
def rsD (o : OpV) : ResV := ⟨0, o.path, o.data, 0, 0, 0, 0, 0, 0, 0⟩
def WsRel (wv : World) (xs : List OpV) (pl : List (List Nat)) (lv i : Value) (W : World) : Prop :=
  ∃ (k : Nat) (rv : List Value), k ≤ pl.length ∧ i = .int .i64 k ∧ RowsW wv.heap.size W lv rv (rowsP rsD xs (pl.take k)) ∧ Ext wv W
def WsIn (w5 : World) (os : List OpV) (mvv i : Value) (W : World) : Prop :=
  ∃ j : Nat, j ≤ os.length ∧ i = .int .i64 j ∧ W.ownsRow w5.heap.size reT 11 mvv j (((os.take j).map rsD).flatMap rsC) ∧ Ext w5 W
def RvLoop (wc : World) (vs : List VoteV) (v i : Value) (W : World) : Prop :=
  ∃ k : Nat, k ≤ vs.length ∧ i = .int .i64 k ∧ W.ownsRow wc.heap.size rvT 2 v k ((vs.take k).flatMap voC) ∧ Ext wc W
theorem votes_take {w : World} {a : Option Addr} {n c : Nat} {vs : List VoteV} (h : VotesAt w (.slice a n c) vs) {k : Nat} (hk : k ≤ vs.length) : VotesAt w (.slice a k c) (vs.take k) := by
  have hsh := h.2
  obtain ⟨h1, h2, a', c', e, h3, h4⟩ := h.1
  simp only [Value.slice.injEq] at e
  obtain ⟨rfl, rfl, rfl⟩ := e
  have hl : (vs.take k).length = k := by rw [List.length_take]; omega
  refine ⟨⟨by rw [rowK_len voC 2 (fun _ => rfl)], by omega, a, c, by rw [hl], by omega, ?_⟩, ?_⟩
  · rcases h4 with h4 | ⟨b, off, rfl, hb, hc⟩
    · exact .inl (by omega)
    · refine .inr ⟨b, off, rfl, hb, fun i x hx => hc i x ?_⟩
      rw [← flat_take voC 2 (fun _ => rfl), List.getElem?_take] at hx
      split at hx
      · exact hx
      · cases hx
  · rcases hsh with e | ⟨ad, l, c', e⟩
    · simp only [Value.slice.injEq] at e
      obtain ⟨rfl, e2, rfl⟩ := e
      have : k = 0 := by omega
      subst this
      exact .inl rfl
    · simp only [Value.slice.injEq] at e
      obtain ⟨rfl, _, _⟩ := e
      exact Shp.some
set_option maxHeartbeats 400000 in
theorem rqv_any (s n : Int) (a : Option Addr) (l c : Nat) (w : World) : Calls Tryz.prog 10 #[.agg #[.int .i64 s, .int .i64 n, .slice a l c]] w fun e w' => e = .returned (.agg #[.int .i64 s, .int .i64 n, .slice a l c]) ∧ Ext w w' := by
  obtain ⟨wA, hWA⟩ : ∃ wA, (w.alloc (.cells #[.int .i64 s, .int .i64 n, .slice a l c] 25)).alloc (.cells #[.int .i64 0, .int .i64 0, .slice none 0 0] rqT) = wA := ⟨_, rfl⟩
  have hxA : Ext w wA := by rw [← hWA]; exact ((Kp.refl _ _).alloc _).alloc _
  have hA : Blk wA w.heap.size #[.int .i64 s, .int .i64 n, .slice a l c] 25 := by
    rw [← hWA]
    exact Blk.kp (heap_alloc_new w _) ((Kp.refl (fun _ => False) _).alloc _) (fun f => f)
  have hB : Blk wA (w.heap.size + 1) #[.int .i64 0, .int .i64 0, .slice none 0 0] rqT := by
    rw [← hWA]
    have := heap_alloc_new (w.alloc (.cells #[.int .i64 s, .int .i64 n, .slice a l c] 25)) (.cells #[.int .i64 0, .int .i64 0, .slice none 0 0] rqT)
    rw [World.size_alloc] at this
    exact this
  obtain ⟨a0, a1, a2⟩ := blk3 hA
  obtain ⟨b0, b1, b2⟩ := blk3 hB
  have f0 := hB.free 0
  have f1 := hB.free 1
  have f2 := hB.free 2
  have HWA := Lib.hid hWA
  have HF : Hid (∀ u0 u1 u2, Ext w (((wA.setCell ⟨w.heap.size + 1, 0, none⟩ u0).setCell ⟨w.heap.size + 1, 1, none⟩ u1).setCell ⟨w.heap.size + 1, 2, none⟩ u2)) := fun u0 u1 u2 =>
    ((hxA.setCell _ u0 (fun q => absurd q (Nat.not_lt.2 (by simp)))).setCell _ u1 (fun q => absurd q (Nat.not_lt.2 (by simp)))).setCell _ u2 (fun q => absurd q (Nat.not_lt.2 (by simp)))
  clear hWA hxA hA hB
  go_enter Tryz.func10, Tryz.ntmps10
  go_upto_region 1 with (fail)
  rw [HWA.out]
  go_wp2_with (fail)
  go_light
  exact bodyPost_ret (v := .agg #[.int .i64 s, .int .i64 n, .slice a l c]) (by simp [results, Tryz.results10, go_sem, b0, b1, b2]) rfl ⟨rfl, HF.out _ _ _⟩
theorem PlanR.nil0 (w : World) : PlanR w (.slice none 0 0) (.slice none 0 0) (.slice none 0 0) [] [] [] :=
  ⟨OpsAt.nil w, NatsR.nil w, [], ⟨rfl, ⟨Sl.nil w 1, .inl rfl⟩, fun _ h1 => absurd h1 (Nat.not_lt_zero _)⟩⟩
set_option maxHeartbeats 12800000 in
theorem planSays_any (sh s n : Int) (mvv u tv : Value) (fit : Bool) (ms : List Int) (xs : List OpV) (vs0 : List VoteV) (w : World) (hG : GT w) (hm : IntsR w mvv ms) (ho : OpsAt w u xs) (hvt : VotesAt w tv vs0) :
    Calls Tryz.prog 3 #[.int .i64 sh, mvv, .agg #[.int .i64 s, .int .i64 n, u], tv, .bool fit] w fun e w' => e = .returned (.bool true) ∧ Ext w w' := by
  obtain ⟨ua, uc, rfl⟩ := ops_slice ho
  obtain ⟨ta, tc, rfl⟩ := votes_slice hvt
  obtain ⟨wA, hWA⟩ : ∃ wA, w.alloc (.cells #[.int .i64 s, .int .i64 n, .slice ua xs.length uc] 25) = wA := ⟨_, rfl⟩
  have hxA : Ext w wA := by rw [← hWA]; exact (Kp.refl _ _).alloc _
  have hbA : Blk wA w.heap.size #[.int .i64 s, .int .i64 n, .slice ua xs.length uc] 25 := by rw [← hWA]; exact heap_alloc_new w _
  have HRQ := Lib.hid (fun W (hx : Ext wA W) => blk3 (Blk.kp hbA hx (fun f => f)))
  have HGT := Lib.hid (fun W (hx : Ext wA W) => hG.ext (hxA.ext hx))
  have HOP := Lib.hid (fun W (hx : Ext wA W) => (ho.ext hxA).ext hx)
  have HMS := Lib.hid (fun W (hx : Ext wA W) => (hm.ext hxA).ext hx)
  have HVT := Lib.hid (fun W (hx : Ext wA W) => (hvt.ext hxA).ext hx)
  have HWA := Lib.hid hWA
  have HXA := Lib.hid hxA
  have HAW := Lib.hid (awake_any wA (hG.ext hxA))
  clear hG hm ho hWA hxA hbA hvt
  go_enter Tryz.func3, Tryz.ntmps3
  go_upto_region 1 with (fail)
  rw [HWA.out]
  go_wp2_with (fail)
  refine HAW.out.mono ?_
  rintro e w1 ⟨rfl, hx1⟩
  obtain ⟨r0, r1, r2⟩ := HRQ.out w1 hx1
  have HX1 := Lib.hid hx1
  clear hx1 HAW
  by_cases h1 : sh < 1
  · go_wp2_with (fail)
    go_ret
    exact ⟨ret_bool rfl, HXA.out.ext HX1.out⟩
  by_cases h4 : 4 < sh
  · go_wp2_with (fail)
    go_ret
    exact ⟨ret_bool rfl, HXA.out.ext HX1.out⟩
  obtain ⟨shn, rfl⟩ := Int.eq_ofNat_of_zero_le (show 0 ≤ sh by omega)
  have HL := Lib.hid (long_any _ xs w1 (HOP.out w1 HX1.out))
  go_wp2_with (fail)
  refine HL.out.mono ?_
  rintro e w2 ⟨⟨lb, rfl, hlb⟩, rfl⟩
  cases lb with
  | true =>
    clear hlb
    go_wp2_with (fail)
    go_ret
    exact ⟨ret_bool rfl, HXA.out.ext HX1.out⟩
  | false =>
  have HSH := Lib.hid (hlb rfl)
  clear hlb HL
  by_cases hb6 : 6 < vs0.length
  · have e1 : (6 : Int) < vs0.length := by omega
    go_wp2_with (fail)
    go_ret
    exact ⟨ret_bool rfl, HXA.out.ext HX1.out⟩
  have e1 : ¬ (6 : Int) < vs0.length := by omega
  have HCT := Lib.hid (table_any shn _ ms w1 (by omega) (by omega) (HGT.out w1 HX1.out).gl (HMS.out w1 HX1.out))
  go_wp2_with (fail)
  refine HCT.out.mono ?_
  rintro e w2 ⟨b, m, rb, lv, rfl, ht, hr, hx2, _, _, _, _, _, _⟩
  have HT := Lib.hid ht
  have HRT := Lib.hid hr
  have HX2 := Lib.hid (HX1.out.ext hx2)
  clear ht hr hx2 HCT HX1 r0 r1 r2 e1 h1 h4
  obtain ⟨r0, r1, r2⟩ := HRQ.out w2 HX2.out
  have HRQ7 := Lib.hid (fun W => rqv_any s n ua xs.length uc W)
  by_cases hmay : mayR s n xs = 0
  · have hok := HT.out.ok
    have HCM := Lib.hid (make_any b m shn _ s n _ xs w2 HT.out (HGT.out w2 HX2.out) (HOP.out w2 HX2.out) (ShortO.sz HSH.out) hmay)
    have HRM := Lib.hid (fun W (hx : Ext w2 W) => refMake_any rb shn lv _ s n _ xs W (HRT.out.ext hx) hok (HOP.out W (HX2.out.ext hx)) (ShortO.sz HSH.out) hmay)
    have hl20 := mayR_len hmay
    have hpo := planOk hmay hok
    obtain ⟨mv, hmv⟩ : ∃ mv, mvTo shn ms (min ms.length 5) = mv := ⟨_, rfl⟩
    rw [hmv] at HCM hpo HRM
    clear hmay hmv HT hok HRT
    go_wp2_with (fail)
    refine HCM.out.mono ?_
    rintro e w3 ⟨⟨ov, sv, plv, rfl, hp⟩, hx3⟩
    obtain ⟨ss, hss⟩ : ∃ ss, shardsOf (fT shn mv xs) xs.length shn = ss := ⟨_, rfl⟩
    obtain ⟨pl, hpl⟩ : ∃ pl, placesOf (fT shn mv xs) xs.length shn = pl := ⟨_, rfl⟩
    have HRM2 : Hid (∀ W, Ext w2 W → Calls Tryz.prog 9 #[.pointer (some ⟨rb, 0, none⟩), .agg #[.int .i64 s, .int .i64 n, .slice ua xs.length uc]] W fun e w' => (∃ ov sv plv, e = .returned (.tuple #[.agg #[.int .i64 s, .int .i64 n, ov, sv, plv], .int .i64 0]) ∧ PlanR w' ov sv plv xs ss pl) ∧ Ext W w') := by
      intro W hx
      refine (HRM.out W hx).mono ?_
      rintro e w' ⟨⟨ov, sv, plv, he, hp⟩, hx'⟩
      exact ⟨⟨ov, sv, plv, he, by rw [← hss, ← hpl]; exact hp⟩, hx'⟩
    rw [hss, hpl] at hp hpo
    have HPO := Lib.hid hpo
    have hlen := hpo.len
    clear HCM hss hpl hpo HRM
    obtain ⟨⟨a1, c1, rfl⟩, ⟨a2, c2, rfl⟩, a3, c3, rfl⟩ := hp.open
    rw [hlen]
    obtain ⟨w4, hW4⟩ : ∃ w4, w3.alloc (.cells #[.int .i64 s, .int .i64 n, .slice a1 xs.length c1, .slice a2 pl.length c2, .slice a3 pl.length c3] plT) = w4 := ⟨_, rfl⟩
    have hx4 : Ext w3 w4 := by rw [← hW4]; exact (Kp.refl _ _).alloc _
    have hb4 : Blk w4 w3.heap.size #[.int .i64 s, .int .i64 n, .slice a1 xs.length c1, .slice a2 pl.length c2, .slice a3 pl.length c3] plT := by rw [← hW4]; exact heap_alloc_new w3 _
    rw [hlen] at hp
    have HB4 := Lib.hid hb4
    have HP4 := Lib.hid (hp.ext hx4)
    have HX4 := Lib.hid (hx3.ext hx4)
    have HW4 := Lib.hid hW4
    clear hp hx3 hx4 hb4 hW4 r0 r1 r2
    go_upto_region 7 with (fail)
    rw [HW4.out]
    obtain ⟨r0, r1, r2⟩ := HRQ.out w4 (HX2.out.ext HX4.out)
    go_wp2_with (fail)
    refine (HRQ7.out w4).mono ?_
    rintro e w5 ⟨rfl, hx5⟩
    have HX5 := Lib.hid (HX4.out.ext hx5)
    have HB5 := Lib.hid (HB4.out.kp hx5 (fun f => f))
    have HP5 := Lib.hid (HP4.out.ext hx5)
    clear hx5 r0 r1 r2
    go_wp2_with (fail)
    refine (HRM2.out w5 HX5.out).mono ?_
    rintro e w6 ⟨⟨ov, sv, plv, rfl, hp⟩, hx6⟩
    obtain ⟨⟨b1, d1, rfl⟩, ⟨b2, d2, rfl⟩, b3, d3, rfl⟩ := hp.open
    rw [hlen]
    rw [hlen] at hp
    obtain ⟨w7, hW7⟩ : ∃ w7, w6.alloc (.cells #[.int .i64 s, .int .i64 n, .slice b1 xs.length d1, .slice b2 pl.length d2, .slice b3 pl.length d3] rpT) = w7 := ⟨_, rfl⟩
    have hx7 : Ext w6 w7 := by rw [← hW7]; exact (Kp.refl _ _).alloc _
    have hb7 : Blk w7 w6.heap.size #[.int .i64 s, .int .i64 n, .slice b1 xs.length d1, .slice b2 pl.length d2, .slice b3 pl.length d3] rpT := by rw [← hW7]; exact heap_alloc_new w6 _
    have HQB := Lib.hid hb7
    have HQR := Lib.hid (hp.ext hx7)
    have HPB := Lib.hid ((HB5.out.kp hx6 (fun f => f)).kp hx7 (fun f => f))
    have HPR := Lib.hid (HP5.out.ext (hx6.ext hx7))
    have HX7 := Lib.hid ((HX5.out.ext hx6).ext hx7)
    have HW7 := Lib.hid hW7
    have HLO : Hid (∀ W, Ext w7 W → Calls Tryz.prog 11 #[planV s n (.slice a1 xs.length c1) (.slice a2 pl.length c2) (.slice a3 pl.length c3)] W fun r w' => r = .returned (.bool (decide ((pl.length : Int) = 1))) ∧ Ext W w') := by
      intro W hx
      have := planLocal_any s n _ _ _ xs ss pl W (HPR.out.ext hx)
      have e : decide (ss.length = 1) = decide ((pl.length : Int) = 1) := by rw [hlen]; rw [Bool.eq_iff_iff]; simp; omega
      rw [e] at this
      exact this
    have hpl4 := HPO.out.few
    have EQ1 : Hid (((pl.length : Int) == 1) = decide ((pl.length : Int) = 1)) := by show _ = _; rw [Bool.eq_iff_iff]; simp
    have EQ2 : Hid (∀ b : Bool, (b != b) = false) := fun b => by cases b <;> rfl
    clear hx6 hx7 hb7 hW7 hp HRM2 HB5 HP5 HB4 HP4
    go_upto_region 8 with (fail)
    rw [HW7.out]
    refine' wp_region_dag0 ((70, .val _) :: (71, .val _) :: (72, .val _) :: (73, .val _) :: (74, .val _) :: (75, .val _) :: (76, .val _) :: (77, .val _) :: (78, .val _) :: (79, .val _) :: (80, .val _) :: (81, .val _) :: (82, .val _) :: (83, .val _) :: (84, .val _) :: (85, .val _) :: (86, .val _) :: (87, .val _) :: (88, .val _) :: (89, .val _) :: (90, .val _) :: (91, .val _) :: (92, .val _) :: (93, .val _) :: (94, .val _) :: (95, .val _) :: (96, .val _) :: (97, .val _) :: (98, .val _) :: (99, .val _) :: []) (by exact ⟨fun _ _ _ _ _ => trivial, ⟨fun _ _ _ _ _ => trivial, ⟨fun _ _ _ _ _ => trivial, ⟨fun _ _ _ _ _ => trivial, ⟨fun _ _ _ _ _ => trivial, ⟨fun _ _ _ _ _ => trivial, ⟨fun _ _ _ _ _ => trivial, ⟨fun _ _ _ _ _ => trivial, ⟨fun _ _ _ _ _ => trivial, ⟨fun _ _ _ _ _ => trivial, ⟨fun _ _ _ _ _ => trivial, ⟨fun _ _ _ _ _ => trivial, ⟨fun _ _ _ _ _ => trivial, ⟨fun _ _ _ _ _ => trivial, ⟨fun _ _ _ _ _ => trivial, ⟨fun _ _ _ _ _ => trivial, ⟨fun _ _ _ _ _ => trivial, ⟨fun _ _ _ _ _ => trivial, ⟨fun _ _ _ _ _ => trivial, ⟨fun _ _ _ _ _ => trivial, ⟨fun _ _ _ _ _ => trivial, ⟨fun _ _ _ _ _ => trivial, ⟨fun _ _ _ _ _ => trivial, ⟨fun _ _ _ _ _ => trivial, ⟨fun _ _ _ _ _ => trivial, ⟨fun _ _ _ _ _ => trivial, ⟨fun _ _ _ _ _ => trivial, ⟨fun _ _ _ _ _ => trivial, ⟨fun _ _ _ _ _ => trivial, ⟨fun _ _ _ _ _ => trivial, trivial⟩⟩⟩⟩⟩⟩⟩⟩⟩⟩⟩⟩⟩⟩⟩⟩⟩⟩⟩⟩⟩⟩⟩⟩⟩⟩⟩⟩⟩⟩) (by kernel_rfl) (by kernel_rfl) (by kernel_rfl) ?_
    rotate_left 30
    repeat (first
      | (refine wpD_skipv ?_ ?_ ?_
         focus rfl
         focus rfl
         simp only [Act.put, List.setIfInBounds_toArray, List.set_cons_succ, List.set_cons_zero])
      | (refine' wpD_val (c := _) ?_ (fun w => Kp.refl _ w) ?_ (fun wq hwq hfq => ?_) ?_
         rotate_left
         focus rfl
         focus rfl
         focus ((have hb := HPB.out.kp hwq (fun f => f); have q0 := hb.cell 0 _ rfl; have q1 := hb.cell 1 _ rfl; have q2 := hb.cell 2 _ rfl; have q3 := hb.cell 3 _ rfl; have q4 := hb.cell 4 _ rfl; have hd := HQB.out.kp hwq (fun f => f); have d3 := hd.cell 3 _ rfl; have d4 := hd.cell 4 _ rfl; have e1 := EQ1.out; have e2 := EQ2.out); go_simp; first | done | rfl)
         simp only [Act.put, List.setIfInBounds_toArray, List.set_cons_succ, List.set_cons_zero])
      | (refine' wpD_con (c := _) ?_ ?_ (fun wq hwq hfq => ?_) ?_
         rotate_left
         focus rfl
         focus rfl
         focus ((have hb := HPB.out.kp hwq (fun f => f); have q0 := hb.cell 0 _ rfl; have q1 := hb.cell 1 _ rfl; have q2 := hb.cell 2 _ rfl; have q3 := hb.cell 3 _ rfl; have q4 := hb.cell 4 _ rfl; have hd := HQB.out.kp hwq (fun f => f); have d3 := hd.cell 3 _ rfl; have d4 := hd.cell 4 _ rfl; have e1 := EQ1.out; have e2 := EQ2.out); go_simp; (try (rw [dUpon_enter])); ((with_reducible refine (HLO.out _ hwq).mono ?_); rintro e w' ⟨rfl, hx⟩; exact DEnd.con hx))
         simp only [Act.put, List.setIfInBounds_toArray, List.set_cons_succ, List.set_cons_zero])
      | fail)
    refine wpD_nil ?_
    intro w8 hx8 hend
    clear hend
    have HX8 := Lib.hid hx8
    have HVT8 := Lib.hid (HVT.out w8 (HX2.out.ext (HX7.out.ext hx8)))
    clear hx8 HLO EQ1 EQ2 hlen
    have hd8 := (HQB.out.kp HX8.out (fun f => f)).cell 3 _ rfl
    have hvl6 : vs0.length ≤ 6 := by omega
    go_upto_if 105 with (fail)
    go_cut [3] (fun s3 wx => VtRel w8 s3 wx)
    case first =>
      cases fit with
      | false =>
        go_wp2_with (fail)
        go_meet
        exact ⟨vs0, HVT8.out, hvl6, Kp.refl _ _⟩
      | true =>
        go_wp2_with (fail)
        clear hd8
        go_loopw [3] (fun v W => VtRel w8 v W) (fun v _ => 10 - lenOf v)
        case atStart => exact ⟨vs0, HVT8.out, hvl6, Kp.refl _ _⟩
        case round =>
          obtain ⟨vs, hvs, hv6, hxr⟩ := hrel
          obtain ⟨va, vc, rfl, hcc, _, _⟩ := VotesAt.open hvs
          have HVS := Lib.hid hvs
          have HXR := Lib.hid hxr
          have hd8 := ((HQB.out.kp HX8.out (fun f => f)).kp hxr (fun f => f)).cell 3 _ rfl
          clear hvs hxr
          by_cases hlt : vs.length < pl.length
          · have k1 : (vs.length : Int) < pl.length := by omega
            have hl4 : vs.length ≤ 4 := by omega
            have hone1 := vo_one vs
            have hone2 : ∀ y ∈ [Value.int .i64 0, .int .i64 (-1)], y.oneCell' = true := by
              intro y hy
              simp only [List.mem_cons, List.not_mem_nil, or_false] at hy
              rcases hy with rfl | rfl <;> rfl
            have HONE2 := Lib.hid hone2
            have HS1 := Lib.hid (HVS.out.1.ext ((Kp.refl (fun _ => False) wr).alloc (.cells #[] voT)))
            clear hone2
            go_wp2_with (at_builtin; refine wpList_appK vosT voT 2 (by decide) vo_facts rfl _ _ rfl wr.heap.size _ 0 [] rfl ⟨rfl, .inr ⟨wr.heap.size, 0, #[], rfl, Nat.le_refl _, heap_alloc_new wr _, Nat.le_refl _, Nat.zero_le _, rfl, rfl⟩⟩ _ vs.length (vs.flatMap voC) rfl HS1.out HVS.out.2 hone1 ?c1 ?c2 ?_)
            case c1 => omega
            case c2 => first | omega | (simp; done)
            intro v1 w9 g1 g2
            have hx9 : Ext wr w9 := ((Kp.refl (fun _ => False) wr).alloc (.cells #[] voT)).next g2 (fun i hi e => by simp only [Value.ownBlock, Option.some.injEq] at e; omega)
            have HX9 := Lib.hid hx9
            have g1 : w9.ownsRow wr.heap.size voT 2 v1 vs.length (vs.flatMap voC) := by first | exact g1 | simpa using g1
            have HG1 := Lib.hid g1
            obtain ⟨a9, c9, rfl⟩ := owns_slice g1
            have e2 : (vs.flatMap voC).length = vs.length * 2 := rowK_len voC 2 (fun _ => rfl) vs
            have hone2 := HONE2.out
            clear g1 g2 hx9 hone1
            go_wp2_with (at_builtin; refine wpList_appAt vosT voT 2 (by decide) vo_facts rfl _ _ rfl wr.heap.size _ _ _ rfl (ownsRow.ext HG1.out ((Kp.refl _ w9).alloc _)) w9.heap.size 1 [Value.int .i64 0, .int .i64 (-1)] rfl (heap_alloc_new w9 _) rfl hone2 ?c1 ?c2 ?_)
            case c1 => omega
            case c2 => have := HX9.out.size; first | omega | (simp; omega)
            intro v2 w10 g1 g2 g3
            have hx10 : Ext w8 w10 := ((HXR.out.ext HX9.out).alloc _).next g2 (fun i hi e => by have := (own_in HG1.out e).1; have := HXR.out.size; omega)
            have hv2 : VotesAt w10 v2 (vs ++ [⟨0, -1⟩]) := by
              have e3 : (vs ++ [(⟨0, -1⟩ : VoteV)]).flatMap voC = vs.flatMap voC ++ [Value.int .i64 0, .int .i64 (-1)] := flatMap_snoc voC vs _
              refine ⟨?_, shp_owns g1⟩
              rw [e3, List.length_append]
              exact Sl.of_owns g1
            obtain ⟨a10, c10, rfl⟩ := owns_slice g1
            have HX10 := Lib.hid hx10
            have HV2 := Lib.hid hv2
            clear g1 g2 g3 hx10 hv2 hone2 e2
            go_wp2_with (fail)
            go_light
            exact ⟨⟨vs ++ [⟨0, -1⟩], HV2.out, by rw [List.length_append]; simp; omega, HX10.out⟩, by simp [lenOf]; omega⟩
          · have k1 : ¬ (vs.length : Int) < pl.length := by omega
            have k2 : (pl.length : Int) ≤ vc := by omega
            have HF := Lib.hid (votes_take HVS.out (show pl.length ≤ vs.length by omega))
            go_wp2_with (fail)
            go_meet
            exact ⟨_, HF.out, by rw [List.length_take]; omega, HXR.out⟩
    case rest =>
      obtain ⟨vs, hvs, hv6, hxc⟩ := hcut
      obtain ⟨va, vc, rfl⟩ := votes_slice hvs
      have HVS := Lib.hid hvs
      have HXC := Lib.hid (HX8.out.ext hxc)
      clear hvs hxc HVT8 hd8 hvl6 HX8
      have hvl : vs.length ≤ 6 := hv6
      go_wp2_with (fail)
      go_loopw [17, 18] (fun v i W => RvLoop wc vs v i W) (fun _ i _ => vs.length - (intOf i).toNat)
      case atStart => exact ⟨0, Nat.zero_le _, rfl, ⟨rfl, .inl ⟨rfl, rfl⟩⟩, Kp.refl _ _⟩
      case round =>
        obtain ⟨k, hk, rfl, hown, hxr⟩ := hrel
        obtain ⟨ja, jc, rfl⟩ := owns_slice hown
        have HOWN := Lib.hid hown
        have HXR := Lib.hid hxr
        have hk6 : k ≤ 6 := by omega
        clear hown hxr
        by_cases hlt : k < vs.length
        · have k1 : (k : Int) < vs.length := by omega
          obtain ⟨vb0, vc0, ev, _, _, hvo⟩ := VotesAt.open HVS.out
          simp only [Value.slice.injEq, true_and] at ev
          obtain ⟨rfl, rfl⟩ := ev
          obtain ⟨vb, voff, rfl, hvb, hvc⟩ := hvo (by omega)
          obtain ⟨c0', c1'⟩ := hvc k hlt
          have HC0 := Lib.hid (HXR.out.cell c0' (fun f => f))
          have HC1 := Lib.hid (HXR.out.cell c1' (fun f => f))
          have HNB : Hid (¬ (wr.heap.size ≤ vb ∨ (Value.slice ja k jc).ownBlock = some vb)) := fun f => by
            have := HXR.out.size
            rcases f with f | f
            · omega
            · have := (own_in HOWN.out f).1; omega
          have HNX : Hid ((vs.take (k + 1)).flatMap voC = (vs.take k).flatMap voC ++ [Value.int .i64 vs[k].err, .int .i64 vs[k].at_]) := by
            show _ = _
            rw [List.take_succ_eq_append_getElem hlt, flatMap_snoc]
            rfl
          have HOZ := Lib.hid (owns_zero HOWN.out)
          have P1 : Hid ((0 : Int) ≤ k ∧ (k : Int) < vs.length) := ⟨by omega, by omega⟩
          generalize vs[k] = vk at HC0 HC1 HNX
          obtain ⟨er, at_⟩ := vk
          simp only at HC0 HC1 HNX
          have HONE : Hid (∀ y ∈ [Value.int .i64 er, .int .i64 at_], y.oneCell' = true) := by
            intro y hy
            simp only [List.mem_cons, List.not_mem_nil, or_false] at hy
            rcases hy with rfl | rfl <;> rfl
          generalize hfl : (vs.take k).flatMap voC = fl at HOWN HOZ HNX
          clear hvo hvc c0' c1' hfl
          go_upto_region 20 with (fail)
          refine' wp_region_dagQ wr.heap.size rvT 2 (.slice ja k jc) k fl 15 [(142, [141], [17])] ((129, .val _) :: (130, .val _) :: (131, .val _) :: (132, .val _) :: (133, .val _) :: (134, .val _) :: (135, .val _) :: (136, .val _) :: (137, .val _) :: (138, .val _) :: (139, .val _) :: (140, .val _) :: (141, ⟨fun _ => True, fun v w => BoxL wr.heap.size rvT 1 [Value.int .i64 er, .int .i64 at_] v w⟩) :: (142, ⟨fun v => ∃ a c, v = .slice a (k + 1) c, fun v w => w.ownsRow 0 rvT 2 v (k + 1) (fl ++ [Value.int .i64 er, .int .i64 at_]) ∧ ∀ i, v.ownBlock = some i → (Value.slice ja k jc).ownBlock = some i ∨ wr.heap.size ≤ i⟩) :: (17, ⟨fun v => ∃ a c, v = .slice a (k + 1) c, fun v w => w.ownsRow 0 rvT 2 v (k + 1) (fl ++ [Value.int .i64 er, .int .i64 at_]) ∧ ∀ i, v.ownBlock = some i → (Value.slice ja k jc).ownBlock = some i ∨ wr.heap.size ≤ i⟩) :: []) (by exact ⟨fun _ _ _ _ _ => trivial, ⟨fun _ _ _ _ _ => trivial, ⟨fun _ _ _ _ _ => trivial, ⟨fun _ _ _ _ _ => trivial, ⟨fun _ _ _ _ _ => trivial, ⟨fun _ _ _ _ _ => trivial, ⟨fun _ _ _ _ _ => trivial, ⟨fun _ _ _ _ _ => trivial, ⟨fun _ _ _ _ _ => trivial, ⟨fun _ _ _ _ _ => trivial, ⟨fun _ _ _ _ _ => trivial, ⟨fun _ _ _ _ _ => trivial, ⟨fun _ _ _ hr hv => hv.ext hr, ⟨fun _ _ _ hr hv => ⟨ownsRow.ext hv.1 hr, hv.2⟩, ⟨fun _ _ _ hr hv => ⟨ownsRow.ext hv.1 hr, hv.2⟩, trivial⟩⟩⟩⟩⟩⟩⟩⟩⟩⟩⟩⟩⟩⟩⟩) (by kernel_rfl) (by kernel_rfl) (by kernel_rfl) ?_
          rotate_left 12
          simp only [List.take_succ_cons, List.take_zero]
          repeat (first
            | (refine wpD_skipv ?_ ?_ ?_
               focus rfl
               focus rfl
               simp only [Act.put, List.setIfInBounds_toArray, List.set_cons_succ, List.set_cons_zero])
            | (refine' wpD_val (c := _) ?_ (fun w => Rr.refl w) ?_ (fun wq hwq hfq => ?_) ?_
               rotate_left
               focus rfl
               focus rfl
               focus (have c0 := hwq.1.cell HC0.out HNB.out; have c1 := hwq.1.cell HC1.out HNB.out; obtain ⟨p1, p2⟩ := P1.out; go_simp; first | done | rfl)
               simp only [Act.put, List.setIfInBounds_toArray, List.set_cons_succ, List.set_cons_zero])
            | (refine' wpD_con (c := _) ?_ ?_ (fun wq hwq hfq => ?_) ?_
               rotate_left
               focus rfl
               focus rfl
               focus (have c0 := hwq.1.cell HC0.out HNB.out; have c1 := hwq.1.cell HC1.out HNB.out; obtain ⟨p1, p2⟩ := P1.out; go_simp; (try (rw [dUpon_enter])); fail)
               simp only [Act.put, List.setIfInBounds_toArray, List.set_cons_succ, List.set_cons_zero])
            | (refine wpD_made (A := fun _ => True) (V := fun v w => BoxL wr.heap.size rvT 1 [Value.int .i64 er, .int .i64 at_] v w) 141 ?_ ?_ ?_ ?_ (fun wq hwq hfq => ?_) (fun v141 h141 => ?_)
               focus rfl
               focus rfl
               focus (exact ⟨undef, trivial⟩)
               focus rfl
               focus (have c0 := hwq.1.cell HC0.out HNB.out; have c1 := hwq.1.cell HC1.out HNB.out; obtain ⟨p1, p2⟩ := P1.out; go_simp; (try (rw [dUpon_enter])); rw [dUpon_value]; exact mPost trivial (BoxL.new hwq.1.size) ((Kp.refl _ _).alloc _))
               clear h141
               simp only [Act.put, List.setIfInBounds_toArray, List.set_cons_succ, List.set_cons_zero])
            | (refine wpD_used (A := fun v => ∃ a c, v = .slice a (k + 1) c) (V := fun v w => w.ownsRow 0 rvT 2 v (k + 1) (fl ++ [Value.int .i64 er, .int .i64 at_]) ∧ ∀ i, v.ownBlock = some i → (Value.slice ja k jc).ownBlock = some i ∨ wr.heap.size ≤ i) 142 ?_ ?_ ?_ ?_ (fun wq hwq hfq => ?_) (fun v142 h142 => ?_)
               focus rfl
               focus rfl
               focus (exact ⟨.slice none (k + 1) 0, _, _, rfl⟩)
               focus rfl
               focus (have c0 := hwq.1.cell HC0.out HNB.out; have c1 := hwq.1.cell HC1.out HNB.out; obtain ⟨p1, p2⟩ := P1.out; refine dUpon_appR (d := 142) rfl (by kernel_rfl) rvsT rvT 2 (by decide) rv_facts rfl _ _ rfl (.slice ja k jc) k (fl) rfl (hwq.2 HOZ.out) v141 1 [Value.int .i64 er, .int .i64 at_] rfl wr.heap.size (hfq 141 rfl) rfl HONE.out (by omega) (fun v' w' h1 h2 h3 h4 => ⟨owns_slice h1, ⟨h1, fun i hi => ?_⟩, ⟨(Kp.refl (fun i => wr.heap.size ≤ i ∨ (Value.slice ja k jc).ownBlock = some i) _).grown h2 (fun q hq _ => .inr hq), fun _ => h3⟩, ?_⟩); (rcases h4 with h4 | h4; (focus exact .inl (by rw [← h4]; exact hi)); (rw [h4] at hi; simp only [Option.some.injEq] at hi; right; have := hwq.1.size; omega)); repeat (first | exact PresL.nil | (with_reducible refine PresL.val ?_) | (refine PresL.out rfl ?_) | (refine PresL.keep (fun u hu => hu) ?_)))
               obtain ⟨a142, c142, rfl⟩ := h142
               simp only [Act.put, List.setIfInBounds_toArray, List.set_cons_succ, List.set_cons_zero])
            | (refine wpD_made (A := fun v => ∃ a c, v = .slice a (k + 1) c) (V := fun v w => w.ownsRow 0 rvT 2 v (k + 1) (fl ++ [Value.int .i64 er, .int .i64 at_]) ∧ ∀ i, v.ownBlock = some i → (Value.slice ja k jc).ownBlock = some i ∨ wr.heap.size ≤ i) 17 ?_ ?_ ?_ ?_ (fun wq hwq hfq => ?_) (fun v17 h17 => ?_)
               focus rfl
               focus rfl
               focus (exact ⟨.slice none (k + 1) 0, _, _, rfl⟩)
               focus rfl
               focus (have c0 := hwq.1.cell HC0.out HNB.out; have c1 := hwq.1.cell HC1.out HNB.out; obtain ⟨p1, p2⟩ := P1.out; go_simp; (try (rw [dUpon_enter])); rw [dUpon_value]; exact mPost ⟨_, _, rfl⟩ (hfq 142 rfl) (Kp.refl _ _))
               obtain ⟨a17, c17, rfl⟩ := h17
               simp only [Act.put, List.setIfInBounds_toArray, List.set_cons_succ, List.set_cons_zero])
            | fail)
          refine wpD_nil ?_
          intro w7 hr7 hend
          have h17 : w7.ownsRow 0 rvT 2 (.slice a17 (k + 1) c17) (k + 1) (fl ++ [Value.int .i64 er, .int .i64 at_]) ∧ ∀ i, (Value.slice a17 (k + 1) c17).ownBlock = some i → (Value.slice ja k jc).ownBlock = some i ∨ wr.heap.size ≤ i := hend 17 (by kernel_rfl)
          clear hend
          have hown7 : w7.ownsRow wc.heap.size rvT 2 (.slice a17 (k + 1) c17) (k + 1) (fl ++ [Value.int .i64 er, .int .i64 at_]) := owns_up h17.1 (fun i hi => by
            have hsz := HXR.out.size
            rcases h17.2 i hi with h | h
            · exact (own_in HOWN.out h).1
            · omega)
          have hx7 : Ext wc w7 := HXR.out.next hr7.1 (fun i hi e => by
            have hsz := HXR.out.size
            rcases e with e | e
            · omega
            · have := (own_in HOWN.out e).1; omega)
          have HOW7 := Lib.hid hown7
          have HX7b := Lib.hid hx7
          clear hown7 hx7 hr7 h17
          rename_i hK
          go_wp2_with (fail)
          refine hK _ _ ?_
          go_wp2_with (fail)
          go_light
          exact ⟨⟨k + 1, by omega, by go_num, by rw [HNX.out]; exact HOW7.out, HX7b.out⟩, by simp [intOf]; omega⟩
        · have hke : k = vs.length := by omega
          have k1 : ¬ (k : Int) < vs.length := by omega
          have hrv : VotesAt wr (.slice ja k jc) vs := by
            have ho := HOWN.out
            rw [hke, List.take_of_length_le (Nat.le_refl _)] at ho
            rw [hke]
            exact ⟨Sl.of_owns ho, shp_owns ho⟩
          have HX9 := Lib.hid (HXC.out.ext HXR.out)
          have HVD := Lib.hid (fun W (hx : Ext wr W) => verdict_any s n _ _ _ _ xs ss pl vs W (HPR.out.ext (HX9.out.ext hx)) HPO.out.len ((HVS.out.ext HXR.out).ext hx))
          have HRV := Lib.hid (fun W (hx : Ext wr W) => refVerdict_any s n _ _ _ _ xs ss pl vs W (HQR.out.ext (HX9.out.ext hx)) HPO.out.len (hrv.ext hx) (fun l hl q hq => by have := HPO.out.inr l hl q hq; omega))
          obtain ⟨⟨ve, vat⟩, hve⟩ : ∃ x, verdict pl vs = x := ⟨_, rfl⟩
          rw [hve] at HVD HRV
          simp only at HVD HRV
          have hb8 := HPB.out.kp HX9.out (fun f => f)
          have q0 := hb8.cell 0 _ rfl
          have q1 := hb8.cell 1 _ rfl
          have q2 := hb8.cell 2 _ rfl
          have q3 := hb8.cell 3 _ rfl
          have q4 := hb8.cell 4 _ rfl
          clear hke hlt hrv hb8 hve HOWN
          go_wp2_with (fail)
          refine (HVD.out wr (Kp.refl _ _)).mono ?_
          rintro e w9 ⟨rfl, hx9⟩
          have hd8 := HQB.out.kp (HX9.out.ext hx9) (fun f => f)
          have e0 := hd8.cell 0 _ rfl
          have e1 := hd8.cell 1 _ rfl
          have e2 := hd8.cell 2 _ rfl
          have e3 := hd8.cell 3 _ rfl
          have e4 := hd8.cell 4 _ rfl
          have HXw9 := Lib.hid hx9
          clear hx9 hd8 q0 q1 q2 q3 q4
          go_wp2_with (fail)
          refine (HRV.out w9 HXw9.out).mono ?_
          rintro e wv ⟨rfl, hx10⟩
          have HXV := Lib.hid (HX9.out.ext (HXw9.out.ext hx10))
          clear hx10 e0 e1 e2 e3 e4 HVD HRV HVS
          go_wp2_with (fail)
          clear HXw9
          go_loopw [23, 24] (fun lv i W => WsRel wv xs pl lv i W) (fun _ i _ => pl.length - (intOf i).toNat)
          case atStart => exact ⟨0, [], Nat.zero_le _, rfl, RowsW.nil _ _, Kp.refl _ _⟩
          case round =>
            obtain ⟨k, rv, hk, rfl, hrw, hxr⟩ := hrel
            obtain ⟨va, vc, rfl⟩ := owns_slice hrw.own
            have hk4 : k ≤ 4 := by omega
            have HRW := Lib.hid hrw
            have HXR := Lib.hid hxr
            have HXX := Lib.hid (HXV.out.ext hxr)
            have hbr := HPB.out.kp HXX.out (fun f => f)
            have g3 := hbr.cell 3 _ rfl
            have HBR := Lib.hid hbr
            have HDR := Lib.hid (HQB.out.kp HXX.out (fun f => f))
            clear hrw hxr hbr
            by_cases hlt : k < pl.length
            · have hlts : k < ss.length := by have := HPO.out.len; omega
              have k1 : (k : Int) < pl.length := by omega
              have hrow := HPO.out.row hlts hlt
              have hsel := sel_len (HPO.out.inr _ (List.getElem_mem hlt))
              have hpl20 := HPO.out.short _ (List.getElem_mem hlt)
              have HOPS := Lib.hid (fun W (hx : Ext w7 W) => planOps_any s n (ss[k] : Int) _ _ _ xs ss pl W (HPR.out.ext hx) (by rw [hrow]; omega))
              rw [hrow] at HOPS
              have HROPS := Lib.hid (fun W (hx : Ext w7 W) => refPlanOps_any s n _ _ _ xs ss pl k W (HQR.out.ext hx) HPO.out.len HPO.out.rise HPO.out.inr (fun l hl => by have := HPO.out.short l hl; omega) HPO.out.few hlt hlts)
              have HSTEP : Hid (rowsP rsD xs (pl.take (k + 1)) = rowsP rsD xs (pl.take k) ++ [(opsSel xs pl[k]).map rsD]) := by
                show _ = _
                unfold rowsP
                rw [List.take_succ_eq_append_getElem hlt, List.map_append]
                rfl
              obtain ⟨pb, poff, pa', pc', rfl, hprow, hpnr⟩ := HPR.out.row k hlt
              obtain ⟨qb, qoff, qa', qc', rfl, hqrow, hqnr⟩ := HQR.out.row k hlt
              obtain ⟨sa, sc, es, _, _, hso⟩ := HPR.out.shs.open
              simp only [Value.slice.injEq] at es
              obtain ⟨rfl, es2, rfl⟩ := es
              obtain ⟨sb, soff, rfl, _, hsc⟩ := hso (by omega)
              obtain ⟨ta', tc', et, _, _, hto⟩ := HQR.out.shs.open
              simp only [Value.slice.injEq] at et
              obtain ⟨rfl, et2, rfl⟩ := et
              obtain ⟨tb, toff, rfl, _, htc⟩ := hto (by omega)
              have HSC := Lib.hid (HXX.out.cell (hsc k hlts) (fun f => f))
              have HTC := Lib.hid (HXX.out.cell (htc k hlts) (fun f => f))
              have HPW := Lib.hid (HXX.out.cell hprow (fun f => f))
              have HQW := Lib.hid (HXX.out.cell hqrow (fun f => f))
              have HSAME : Hid (∀ W, Ext w7 W → Calls Tryz.prog 15 #[.slice pa' pl[k].length pc', .slice qa' pl[k].length qc'] W fun e w' => e = .returned (.bool true) ∧ Ext W w') := by
                intro W hx
                have := same_any _ _ pl[k] pl[k] W (hpnr.ext hx) (hqnr.ext hx)
                rw [decide_eq_true rfl] at this
                exact this
              have HNL : Hid ((opsSel xs pl[k]).length ≤ 16) := by show _ ≤ _; rw [hsel]; omega
              have P1 : Hid ((0 : Int) ≤ k ∧ (k : Int) < pl.length) := ⟨by omega, by omega⟩
              have E2 : Hid (∀ x : Int, (x != x) = false) := fun x => by simp
              generalize (ss[k] : Int) = sk at HOPS HROPS HSC HTC
              generalize opsSel xs pl[k] = os at HOPS HROPS HSTEP HNL
              generalize pl[k].length = pn at HPW HQW HSAME
              clear hrow hsel hpl20 hso hsc es2 hto htc et2 hprow hqrow hpnr hqnr
              go_upto_region 27 with (fail)
              refine' wp_region_dag0 ((162, .val _) :: (163, .val _) :: (164, .val _) :: (165, .val _) :: (166, .val _) :: (167, .val _) :: (168, .val _) :: (169, .val _) :: (170, .val _) :: (171, .val _) :: (172, .val _) :: (173, .val _) :: (174, .val _) :: (175, .val _) :: (176, .val _) :: (177, .val _) :: (178, .val _) :: (179, .val _) :: (180, .val _) :: (181, .val _) :: (182, .val _) :: (183, .val _) :: (184, .val _) :: (185, .val _) :: (186, .val _) :: []) (by exact ⟨fun _ _ _ _ _ => trivial, ⟨fun _ _ _ _ _ => trivial, ⟨fun _ _ _ _ _ => trivial, ⟨fun _ _ _ _ _ => trivial, ⟨fun _ _ _ _ _ => trivial, ⟨fun _ _ _ _ _ => trivial, ⟨fun _ _ _ _ _ => trivial, ⟨fun _ _ _ _ _ => trivial, ⟨fun _ _ _ _ _ => trivial, ⟨fun _ _ _ _ _ => trivial, ⟨fun _ _ _ _ _ => trivial, ⟨fun _ _ _ _ _ => trivial, ⟨fun _ _ _ _ _ => trivial, ⟨fun _ _ _ _ _ => trivial, ⟨fun _ _ _ _ _ => trivial, ⟨fun _ _ _ _ _ => trivial, ⟨fun _ _ _ _ _ => trivial, ⟨fun _ _ _ _ _ => trivial, ⟨fun _ _ _ _ _ => trivial, ⟨fun _ _ _ _ _ => trivial, ⟨fun _ _ _ _ _ => trivial, ⟨fun _ _ _ _ _ => trivial, ⟨fun _ _ _ _ _ => trivial, ⟨fun _ _ _ _ _ => trivial, ⟨fun _ _ _ _ _ => trivial, trivial⟩⟩⟩⟩⟩⟩⟩⟩⟩⟩⟩⟩⟩⟩⟩⟩⟩⟩⟩⟩⟩⟩⟩⟩⟩) (by kernel_rfl) (by kernel_rfl) (by kernel_rfl) ?_
              rotate_left 25
              repeat (first
                | (refine wpD_skipv ?_ ?_ ?_
                   focus rfl
                   focus rfl
                   simp only [Act.put, List.setIfInBounds_toArray, List.set_cons_succ, List.set_cons_zero])
                | (refine' wpD_val (c := _) ?_ (fun w => Kp.refl _ w) ?_ (fun wq hwq hfq => ?_) ?_
                   rotate_left
                   focus rfl
                   focus rfl
                   focus ((have hb := HBR.out.kp hwq (fun f => f); have q3 := hb.cell 3 _ rfl; have q4 := hb.cell 4 _ rfl; have hd := HDR.out.kp hwq (fun f => f); have d3 := hd.cell 3 _ rfl; have d4 := hd.cell 4 _ rfl; have s1 := hwq.cell HSC.out (fun f => f); have t1 := hwq.cell HTC.out (fun f => f); have pw := hwq.cell HPW.out (fun f => f); have qw := hwq.cell HQW.out (fun f => f); obtain ⟨p1, p2⟩ := P1.out; have e2 := E2.out); go_simp; first | done | rfl)
                   simp only [Act.put, List.setIfInBounds_toArray, List.set_cons_succ, List.set_cons_zero])
                | (refine' wpD_con (c := _) ?_ ?_ (fun wq hwq hfq => ?_) ?_
                   rotate_left
                   focus rfl
                   focus rfl
                   focus ((have hb := HBR.out.kp hwq (fun f => f); have q3 := hb.cell 3 _ rfl; have q4 := hb.cell 4 _ rfl; have hd := HDR.out.kp hwq (fun f => f); have d3 := hd.cell 3 _ rfl; have d4 := hd.cell 4 _ rfl; have s1 := hwq.cell HSC.out (fun f => f); have t1 := hwq.cell HTC.out (fun f => f); have pw := hwq.cell HPW.out (fun f => f); have qw := hwq.cell HQW.out (fun f => f); obtain ⟨p1, p2⟩ := P1.out; have e2 := E2.out); go_simp; (try (rw [dUpon_enter])); ((with_reducible refine (HSAME.out _ (HXX.out.ext hwq)).mono ?_); rintro e w' ⟨rfl, hx⟩; exact DEnd.con hx))
                   simp only [Act.put, List.setIfInBounds_toArray, List.set_cons_succ, List.set_cons_zero])
                | fail)
              refine wpD_nil ?_
              intro wa hxa hend
              clear hend HPW HQW HSAME g3
              have HXa := Lib.hid hxa
              clear hxa
              go_upto_region 29 with (fail)
              refine' wp_region_dag0 ((187, .val _) :: (188, .val _) :: (189, .val _) :: (190, .val _) :: (191, .val _) :: (192, .val _) :: (193, ⟨fun v => ∃ a c, v = .slice a os.length c, fun v w => OpsAt w v os⟩) :: (194, .val _) :: (195, .val _) :: (196, .val _) :: (197, .val _) :: (198, .val _) :: (199, .val _) :: (200, ⟨fun v => ∃ a c, v = .slice a os.length c, fun v w => OpsAt w v os⟩) :: (25, ⟨fun v => ∃ a c, v = .slice a os.length c, fun v w => OpsAt w v os⟩) :: (26, ⟨fun v => ∃ a c, v = .slice a os.length c, fun v w => OpsAt w v os⟩) :: []) (by exact ⟨fun _ _ _ _ _ => trivial, ⟨fun _ _ _ _ _ => trivial, ⟨fun _ _ _ _ _ => trivial, ⟨fun _ _ _ _ _ => trivial, ⟨fun _ _ _ _ _ => trivial, ⟨fun _ _ _ _ _ => trivial, ⟨fun _ _ _ hr hv => hv.ext hr, ⟨fun _ _ _ _ _ => trivial, ⟨fun _ _ _ _ _ => trivial, ⟨fun _ _ _ _ _ => trivial, ⟨fun _ _ _ _ _ => trivial, ⟨fun _ _ _ _ _ => trivial, ⟨fun _ _ _ _ _ => trivial, ⟨fun _ _ _ hr hv => hv.ext hr, ⟨fun _ _ _ hr hv => hv.ext hr, ⟨fun _ _ _ hr hv => hv.ext hr, trivial⟩⟩⟩⟩⟩⟩⟩⟩⟩⟩⟩⟩⟩⟩⟩⟩) (by kernel_rfl) (by kernel_rfl) (by kernel_rfl) ?_
              rotate_left 12
              repeat (first
                | (refine wpD_skipv ?_ ?_ ?_
                   focus rfl
                   focus rfl
                   simp only [Act.put, List.setIfInBounds_toArray, List.set_cons_succ, List.set_cons_zero])
                | (refine' wpD_val (c := _) ?_ (fun w => Kp.refl _ w) ?_ (fun wq hwq hfq => ?_) ?_
                   rotate_left
                   focus rfl
                   focus rfl
                   focus ((have hb := HBR.out.kp (HXa.out.ext hwq) (fun f => f); have q0 := hb.cell 0 _ rfl; have q1 := hb.cell 1 _ rfl; have q2 := hb.cell 2 _ rfl; have q3 := hb.cell 3 _ rfl; have q4 := hb.cell 4 _ rfl; have hd := HDR.out.kp (HXa.out.ext hwq) (fun f => f); have d0 := hd.cell 0 _ rfl; have d1 := hd.cell 1 _ rfl; have d2 := hd.cell 2 _ rfl; have d3 := hd.cell 3 _ rfl; have d4 := hd.cell 4 _ rfl; have s1 := (HXa.out.ext hwq).cell HSC.out (fun f => f); have t1 := (HXa.out.ext hwq).cell HTC.out (fun f => f); obtain ⟨p1, p2⟩ := P1.out); go_simp; first | done | rfl)
                   simp only [Act.put, List.setIfInBounds_toArray, List.set_cons_succ, List.set_cons_zero])
                | (refine' wpD_con (c := _) ?_ ?_ (fun wq hwq hfq => ?_) ?_
                   rotate_left
                   focus rfl
                   focus rfl
                   focus ((have hb := HBR.out.kp (HXa.out.ext hwq) (fun f => f); have q0 := hb.cell 0 _ rfl; have q1 := hb.cell 1 _ rfl; have q2 := hb.cell 2 _ rfl; have q3 := hb.cell 3 _ rfl; have q4 := hb.cell 4 _ rfl; have hd := HDR.out.kp (HXa.out.ext hwq) (fun f => f); have d0 := hd.cell 0 _ rfl; have d1 := hd.cell 1 _ rfl; have d2 := hd.cell 2 _ rfl; have d3 := hd.cell 3 _ rfl; have d4 := hd.cell 4 _ rfl; have s1 := (HXa.out.ext hwq).cell HSC.out (fun f => f); have t1 := (HXa.out.ext hwq).cell HTC.out (fun f => f); obtain ⟨p1, p2⟩ := P1.out); go_simp; (try (rw [dUpon_enter])); fail)
                   simp only [Act.put, List.setIfInBounds_toArray, List.set_cons_succ, List.set_cons_zero])
                | (refine wpD_made (A := fun v => ∃ a c, v = .slice a os.length c) (V := fun v w => OpsAt w v os) 193 ?_ ?_ ?_ ?_ (fun wq hwq hfq => ?_) (fun v193 h193 => ?_)
                   focus rfl
                   focus rfl
                   focus (exact ⟨.slice none os.length 0, none, 0, rfl⟩)
                   focus rfl
                   focus ((have hb := HBR.out.kp (HXa.out.ext hwq) (fun f => f); have q0 := hb.cell 0 _ rfl; have q1 := hb.cell 1 _ rfl; have q2 := hb.cell 2 _ rfl; have q3 := hb.cell 3 _ rfl; have q4 := hb.cell 4 _ rfl; have hd := HDR.out.kp (HXa.out.ext hwq) (fun f => f); have d0 := hd.cell 0 _ rfl; have d1 := hd.cell 1 _ rfl; have d2 := hd.cell 2 _ rfl; have d3 := hd.cell 3 _ rfl; have d4 := hd.cell 4 _ rfl; have s1 := (HXa.out.ext hwq).cell HSC.out (fun f => f); have t1 := (HXa.out.ext hwq).cell HTC.out (fun f => f); obtain ⟨p1, p2⟩ := P1.out); go_simp; (try (rw [dUpon_enter])); (with_reducible refine (HOPS.out _ (HXX.out.ext (HXa.out.ext hwq))).mono ?_); rintro e w' ⟨v, rfl, hn, hx⟩; exact DEnd.made (ops_slice hn) hn hx)
                   obtain ⟨a193, c193, rfl⟩ := h193
                   simp only [Act.put, List.setIfInBounds_toArray, List.set_cons_succ, List.set_cons_zero])
                | (refine wpD_made (A := fun v => ∃ a c, v = .slice a os.length c) (V := fun v w => OpsAt w v os) 200 ?_ ?_ ?_ ?_ (fun wq hwq hfq => ?_) (fun v200 h200 => ?_)
                   focus rfl
                   focus rfl
                   focus (exact ⟨.slice none os.length 0, none, 0, rfl⟩)
                   focus rfl
                   focus ((have hb := HBR.out.kp (HXa.out.ext hwq) (fun f => f); have q0 := hb.cell 0 _ rfl; have q1 := hb.cell 1 _ rfl; have q2 := hb.cell 2 _ rfl; have q3 := hb.cell 3 _ rfl; have q4 := hb.cell 4 _ rfl; have hd := HDR.out.kp (HXa.out.ext hwq) (fun f => f); have d0 := hd.cell 0 _ rfl; have d1 := hd.cell 1 _ rfl; have d2 := hd.cell 2 _ rfl; have d3 := hd.cell 3 _ rfl; have d4 := hd.cell 4 _ rfl; have s1 := (HXa.out.ext hwq).cell HSC.out (fun f => f); have t1 := (HXa.out.ext hwq).cell HTC.out (fun f => f); obtain ⟨p1, p2⟩ := P1.out); go_simp; (try (rw [dUpon_enter])); (with_reducible refine (HROPS.out _ (HXX.out.ext (HXa.out.ext hwq))).mono ?_); rintro e w' ⟨v, rfl, hn, hx⟩; exact DEnd.made (ops_slice hn) hn hx)
                   obtain ⟨a200, c200, rfl⟩ := h200
                   simp only [Act.put, List.setIfInBounds_toArray, List.set_cons_succ, List.set_cons_zero])
                | (refine wpD_made (A := fun v => ∃ a c, v = .slice a os.length c) (V := fun v w => OpsAt w v os) 25 ?_ ?_ ?_ ?_ (fun wq hwq hfq => ?_) (fun v25 h25 => ?_)
                   focus rfl
                   focus rfl
                   focus (exact ⟨.slice none os.length 0, none, 0, rfl⟩)
                   focus rfl
                   focus ((have hb := HBR.out.kp (HXa.out.ext hwq) (fun f => f); have q0 := hb.cell 0 _ rfl; have q1 := hb.cell 1 _ rfl; have q2 := hb.cell 2 _ rfl; have q3 := hb.cell 3 _ rfl; have q4 := hb.cell 4 _ rfl; have hd := HDR.out.kp (HXa.out.ext hwq) (fun f => f); have d0 := hd.cell 0 _ rfl; have d1 := hd.cell 1 _ rfl; have d2 := hd.cell 2 _ rfl; have d3 := hd.cell 3 _ rfl; have d4 := hd.cell 4 _ rfl; have s1 := (HXa.out.ext hwq).cell HSC.out (fun f => f); have t1 := (HXa.out.ext hwq).cell HTC.out (fun f => f); obtain ⟨p1, p2⟩ := P1.out); go_simp; (try (rw [dUpon_enter])); rw [dUpon_value]; exact mPost ⟨_, _, rfl⟩ (hfq 193 rfl) (Kp.refl _ _))
                   obtain ⟨a25, c25, rfl⟩ := h25
                   simp only [Act.put, List.setIfInBounds_toArray, List.set_cons_succ, List.set_cons_zero])
                | (refine wpD_made (A := fun v => ∃ a c, v = .slice a os.length c) (V := fun v w => OpsAt w v os) 26 ?_ ?_ ?_ ?_ (fun wq hwq hfq => ?_) (fun v26 h26 => ?_)
                   focus rfl
                   focus rfl
                   focus (exact ⟨.slice none os.length 0, none, 0, rfl⟩)
                   focus rfl
                   focus ((have hb := HBR.out.kp (HXa.out.ext hwq) (fun f => f); have q0 := hb.cell 0 _ rfl; have q1 := hb.cell 1 _ rfl; have q2 := hb.cell 2 _ rfl; have q3 := hb.cell 3 _ rfl; have q4 := hb.cell 4 _ rfl; have hd := HDR.out.kp (HXa.out.ext hwq) (fun f => f); have d0 := hd.cell 0 _ rfl; have d1 := hd.cell 1 _ rfl; have d2 := hd.cell 2 _ rfl; have d3 := hd.cell 3 _ rfl; have d4 := hd.cell 4 _ rfl; have s1 := (HXa.out.ext hwq).cell HSC.out (fun f => f); have t1 := (HXa.out.ext hwq).cell HTC.out (fun f => f); obtain ⟨p1, p2⟩ := P1.out); go_simp; (try (rw [dUpon_enter])); rw [dUpon_value]; exact mPost ⟨_, _, rfl⟩ (hfq 200 rfl) (Kp.refl _ _))
                   obtain ⟨a26, c26, rfl⟩ := h26
                   simp only [Act.put, List.setIfInBounds_toArray, List.set_cons_succ, List.set_cons_zero])
                | fail)
              refine wpD_nil ?_
              intro w5 hx5 hend
              have hox : OpsAt w5 (.slice a25 os.length c25) os := hend 25 (by kernel_rfl)
              have hoy : OpsAt w5 (.slice a26 os.length c26) os := hend 26 (by kernel_rfl)
              clear hend HOPS HROPS
              have HOX := Lib.hid hox
              have HSM := Lib.hid (refSameR_any 0 0 0 0 (.slice a25 os.length c25) (.slice a26 os.length c26) os os w5 hox hoy)
              rw [sameR_me] at HSM
              have HX5 := Lib.hid (HXa.out.ext hx5)
              clear hox hoy hx5 HXa
              go_wp2_with (fail)
              refine HSM.out.mono ?_
              rintro e w6' ⟨rfl, hx6⟩
              have HX6 := Lib.hid (HX5.out.ext hx6)
              have HO6 := Lib.hid (HOX.out.ext hx6)
              clear hx6 HSM HOX HX5
              go_wp2_with (fail)
              obtain ⟨wo, HWo⟩ : ∃ wo : World, wo = wr := ⟨_, rfl⟩
              rw [← HWo] at HX6 HXR HXX HBR HDR HRW
              clear HWo HSC HTC
              go_loopw [27, 28] (fun v i W => WsIn w6' os v i W) (fun _ i _ => os.length - (intOf i).toNat)
              case atStart => exact ⟨0, Nat.zero_le _, rfl, ⟨rfl, .inl ⟨rfl, rfl⟩⟩, Kp.refl _ _⟩
              case round =>
                obtain ⟨j, hj, rfl, hown, hxj⟩ := hrel
                obtain ⟨ma, mc, rfl⟩ := owns_slice hown
                have hj16 : j ≤ 16 := by have := HNL.out; omega
                have HOWN := Lib.hid hown
                have HXJ := Lib.hid hxj
                clear hown hxj
                by_cases hjl : j < os.length
                · have k2 : (j : Int) < os.length := by omega
                  obtain ⟨oa, oc, eo, _, _, hoo⟩ := OpsAt.open HO6.out
                  simp only [Value.slice.injEq, true_and] at eo
                  obtain ⟨rfl, rfl⟩ := eo
                  obtain ⟨ob, ooff, rfl, hob, hoc⟩ := hoo (by omega)
                  obtain ⟨_, o1, o2, _, _⟩ := hoc j hjl
                  have HO1 := Lib.hid (HXJ.out.cell o1 (fun f => f))
                  have HO2 := Lib.hid (HXJ.out.cell o2 (fun f => f))
                  have HNB : Hid (¬ (wr.heap.size ≤ ob ∨ (Value.slice ma j mc).ownBlock = some ob)) := fun f => by
                    have := HXJ.out.size
                    rcases f with f | f
                    · omega
                    · have := (own_in HOWN.out f).1; omega
                  have HNXT : Hid ((((os.take (j + 1)).map rsD).flatMap rsC) = (((os.take j).map rsD).flatMap rsC) ++ [Value.int .i64 0, .string os[j].path, .string os[j].data, .slice none 0 0, .int .i64 0, .int .i64 0, .int .i64 0, .int .i64 0, .int .i64 0, .int .i64 0, .int .i64 0]) := by
                    show _ = _
                    rw [List.take_succ_eq_append_getElem hjl, List.map_append, List.flatMap_append]
                    rfl
                  have HONE : Hid (∀ y ∈ [Value.int .i64 0, .string os[j].path, .string os[j].data, .slice none 0 0, .int .i64 0, .int .i64 0, .int .i64 0, .int .i64 0, .int .i64 0, .int .i64 0, .int .i64 0], y.oneCell' = true) := by
                    intro y hy
                    exact rs_one [rsD os[j]] y (by simpa [rsD, rsC] using hy)
                  have HOZ := Lib.hid (owns_zero HOWN.out)
                  have P2 : Hid ((0 : Int) ≤ j ∧ (j : Int) < os.length) := ⟨by omega, by omega⟩
                  generalize os[j].path = pj at HO1 HNXT HONE
                  generalize os[j].data = dj at HO2 HNXT HONE
                  generalize hfl : ((os.take j).map rsD).flatMap rsC = fl at HOWN HOZ HNXT
                  clear hoo hoc o1 o2 hob hfl
                  go_upto_region 36 with (fail)
                  refine' wp_region_dagQ wr.heap.size reT 11 (.slice ma j mc) j fl 15 [(226, [225], [27])] ((213, .val _) :: (214, .val _) :: (215, .val _) :: (216, .val _) :: (217, .val _) :: (218, .val _) :: (219, .val _) :: (220, .val _) :: (221, .val _) :: (222, .val _) :: (223, .val _) :: (224, .val _) :: (225, ⟨fun _ => True, fun v w => BoxL wr.heap.size reT 1 [Value.int .i64 0, .string pj, .string dj, .slice none 0 0, .int .i64 0, .int .i64 0, .int .i64 0, .int .i64 0, .int .i64 0, .int .i64 0, .int .i64 0] v w⟩) :: (226, ⟨fun v => ∃ a c, v = .slice a (j + 1) c, fun v w => w.ownsRow 0 reT 11 v (j + 1) (fl ++ [Value.int .i64 0, .string pj, .string dj, .slice none 0 0, .int .i64 0, .int .i64 0, .int .i64 0, .int .i64 0, .int .i64 0, .int .i64 0, .int .i64 0]) ∧ ∀ i, v.ownBlock = some i → (Value.slice ma j mc).ownBlock = some i ∨ wr.heap.size ≤ i⟩) :: (27, ⟨fun v => ∃ a c, v = .slice a (j + 1) c, fun v w => w.ownsRow 0 reT 11 v (j + 1) (fl ++ [Value.int .i64 0, .string pj, .string dj, .slice none 0 0, .int .i64 0, .int .i64 0, .int .i64 0, .int .i64 0, .int .i64 0, .int .i64 0, .int .i64 0]) ∧ ∀ i, v.ownBlock = some i → (Value.slice ma j mc).ownBlock = some i ∨ wr.heap.size ≤ i⟩) :: []) (by exact ⟨fun _ _ _ _ _ => trivial, ⟨fun _ _ _ _ _ => trivial, ⟨fun _ _ _ _ _ => trivial, ⟨fun _ _ _ _ _ => trivial, ⟨fun _ _ _ _ _ => trivial, ⟨fun _ _ _ _ _ => trivial, ⟨fun _ _ _ _ _ => trivial, ⟨fun _ _ _ _ _ => trivial, ⟨fun _ _ _ _ _ => trivial, ⟨fun _ _ _ _ _ => trivial, ⟨fun _ _ _ _ _ => trivial, ⟨fun _ _ _ _ _ => trivial, ⟨fun _ _ _ hr hv => hv.ext hr, ⟨fun _ _ _ hr hv => ⟨ownsRow.ext hv.1 hr, hv.2⟩, ⟨fun _ _ _ hr hv => ⟨ownsRow.ext hv.1 hr, hv.2⟩, trivial⟩⟩⟩⟩⟩⟩⟩⟩⟩⟩⟩⟩⟩⟩⟩) (by kernel_rfl) (by kernel_rfl) (by kernel_rfl) ?_
                  rotate_left 12
                  simp only [List.take_succ_cons, List.take_zero]
                  repeat (first
                    | (refine wpD_skipv ?_ ?_ ?_
                       focus rfl
                       focus rfl
                       simp only [Act.put, List.setIfInBounds_toArray, List.set_cons_succ, List.set_cons_zero])
                    | (refine' wpD_val (c := _) ?_ (fun w => Rr.refl w) ?_ (fun wq hwq hfq => ?_) ?_
                       rotate_left
                       focus rfl
                       focus rfl
                       focus (have c0 := hwq.1.cell HO1.out HNB.out; have c1 := hwq.1.cell HO2.out HNB.out; obtain ⟨p1, p2⟩ := P2.out; go_simp; first | done | rfl)
                       simp only [Act.put, List.setIfInBounds_toArray, List.set_cons_succ, List.set_cons_zero])
                    | (refine' wpD_con (c := _) ?_ ?_ (fun wq hwq hfq => ?_) ?_
                       rotate_left
                       focus rfl
                       focus rfl
                       focus (have c0 := hwq.1.cell HO1.out HNB.out; have c1 := hwq.1.cell HO2.out HNB.out; obtain ⟨p1, p2⟩ := P2.out; go_simp; (try (rw [dUpon_enter])); fail)
                       simp only [Act.put, List.setIfInBounds_toArray, List.set_cons_succ, List.set_cons_zero])
                    | (refine wpD_made (A := fun _ => True) (V := fun v w => BoxL wr.heap.size reT 1 [Value.int .i64 0, .string pj, .string dj, .slice none 0 0, .int .i64 0, .int .i64 0, .int .i64 0, .int .i64 0, .int .i64 0, .int .i64 0, .int .i64 0] v w) 225 ?_ ?_ ?_ ?_ (fun wq hwq hfq => ?_) (fun v225 h225 => ?_)
                       focus rfl
                       focus rfl
                       focus (exact ⟨undef, trivial⟩)
                       focus rfl
                       focus (have c0 := hwq.1.cell HO1.out HNB.out; have c1 := hwq.1.cell HO2.out HNB.out; obtain ⟨p1, p2⟩ := P2.out; go_simp; (try (rw [dUpon_enter])); rw [dUpon_value]; exact mPost trivial (BoxL.new hwq.1.size) ((Kp.refl _ _).alloc _))
                       clear h225
                       simp only [Act.put, List.setIfInBounds_toArray, List.set_cons_succ, List.set_cons_zero])
                    | (refine wpD_used (A := fun v => ∃ a c, v = .slice a (j + 1) c) (V := fun v w => w.ownsRow 0 reT 11 v (j + 1) (fl ++ [Value.int .i64 0, .string pj, .string dj, .slice none 0 0, .int .i64 0, .int .i64 0, .int .i64 0, .int .i64 0, .int .i64 0, .int .i64 0, .int .i64 0]) ∧ ∀ i, v.ownBlock = some i → (Value.slice ma j mc).ownBlock = some i ∨ wr.heap.size ≤ i) 226 ?_ ?_ ?_ ?_ (fun wq hwq hfq => ?_) (fun v226 h226 => ?_)
                       focus rfl
                       focus rfl
                       focus (exact ⟨.slice none (j + 1) 0, _, _, rfl⟩)
                       focus rfl
                       focus (have c0 := hwq.1.cell HO1.out HNB.out; have c1 := hwq.1.cell HO2.out HNB.out; obtain ⟨p1, p2⟩ := P2.out; refine dUpon_appR (d := 226) rfl (by kernel_rfl) rsT reT 11 (by decide) res_facts rfl _ _ rfl (.slice ma j mc) j fl rfl (hwq.2 HOZ.out) v225 1 [Value.int .i64 0, .string pj, .string dj, .slice none 0 0, .int .i64 0, .int .i64 0, .int .i64 0, .int .i64 0, .int .i64 0, .int .i64 0, .int .i64 0] rfl wr.heap.size (hfq 225 rfl) rfl HONE.out (by omega) (fun v' w' h1 h2 h3 h4 => ⟨owns_slice h1, ⟨h1, fun i hi => ?_⟩, ⟨(Kp.refl (fun i => wr.heap.size ≤ i ∨ (Value.slice ma j mc).ownBlock = some i) _).grown h2 (fun q hq _ => .inr hq), fun _ => h3⟩, ?_⟩); (rcases h4 with h4 | h4; (focus exact .inl (by rw [← h4]; exact hi)); (rw [h4] at hi; simp only [Option.some.injEq] at hi; right; have := hwq.1.size; omega)); repeat (first | exact PresL.nil | (with_reducible refine PresL.val ?_) | (refine PresL.out rfl ?_) | (refine PresL.keep (fun u hu => hu) ?_)))
                       obtain ⟨a226, c226, rfl⟩ := h226
                       simp only [Act.put, List.setIfInBounds_toArray, List.set_cons_succ, List.set_cons_zero])
                    | (refine wpD_made (A := fun v => ∃ a c, v = .slice a (j + 1) c) (V := fun v w => w.ownsRow 0 reT 11 v (j + 1) (fl ++ [Value.int .i64 0, .string pj, .string dj, .slice none 0 0, .int .i64 0, .int .i64 0, .int .i64 0, .int .i64 0, .int .i64 0, .int .i64 0, .int .i64 0]) ∧ ∀ i, v.ownBlock = some i → (Value.slice ma j mc).ownBlock = some i ∨ wr.heap.size ≤ i) 27 ?_ ?_ ?_ ?_ (fun wq hwq hfq => ?_) (fun v27 h27 => ?_)
                       focus rfl
                       focus rfl
                       focus (exact ⟨.slice none (j + 1) 0, _, _, rfl⟩)
                       focus rfl
                       focus (have c0 := hwq.1.cell HO1.out HNB.out; have c1 := hwq.1.cell HO2.out HNB.out; obtain ⟨p1, p2⟩ := P2.out; go_simp; (try (rw [dUpon_enter])); rw [dUpon_value]; exact mPost ⟨_, _, rfl⟩ (hfq 226 rfl) (Kp.refl _ _))
                       obtain ⟨a27, c27, rfl⟩ := h27
                       simp only [Act.put, List.setIfInBounds_toArray, List.set_cons_succ, List.set_cons_zero])
                    | fail)
                  refine wpD_nil ?_
                  intro w8' hr8 hend
                  have h27 : w8'.ownsRow 0 reT 11 (.slice a27 (j + 1) c27) (j + 1) (fl ++ [Value.int .i64 0, .string pj, .string dj, .slice none 0 0, .int .i64 0, .int .i64 0, .int .i64 0, .int .i64 0, .int .i64 0, .int .i64 0, .int .i64 0]) ∧ ∀ i, (Value.slice a27 (j + 1) c27).ownBlock = some i → (Value.slice ma j mc).ownBlock = some i ∨ wr.heap.size ≤ i := hend 27 (by kernel_rfl)
                  clear hend
                  have hown8 : w8'.ownsRow w6'.heap.size reT 11 (.slice a27 (j + 1) c27) (j + 1) (fl ++ [Value.int .i64 0, .string pj, .string dj, .slice none 0 0, .int .i64 0, .int .i64 0, .int .i64 0, .int .i64 0, .int .i64 0, .int .i64 0, .int .i64 0]) := owns_up h27.1 (fun i hi => by
                    have hsz := HXJ.out.size
                    rcases h27.2 i hi with h | h
                    · exact (own_in HOWN.out h).1
                    · omega)
                  have hx8b : Ext w6' w8' := HXJ.out.next hr8.1 (fun i hi e => by
                    have hsz := HXJ.out.size
                    rcases e with e | e
                    · omega
                    · have := (own_in HOWN.out e).1; omega)
                  have HOW8 := Lib.hid hown8
                  have HX8b := Lib.hid hx8b
                  clear hown8 hx8b hr8 h27
                  rename_i hK
                  go_wp2_with (fail)
                  refine hK _ _ ?_
                  go_wp2_with (fail)
                  go_light
                  exact ⟨⟨j + 1, by omega, by go_num, by rw [HNXT.out]; exact HOW8.out, HX8b.out⟩, by simp [intOf]; omega⟩
                · have hje : j = os.length := by omega
                  have k2 : ¬ (j : Int) < os.length := by omega
                  have hres : ResAt wr (.slice ma j mc) (os.map rsD) := by
                    have ho := HOWN.out
                    rw [hje, List.take_of_length_le (Nat.le_refl _)] at ho
                    rw [hje]
                    exact ⟨by rw [List.length_map]; exact Sl.of_owns ho, shp_owns ho⟩
                  have hlow : ∀ i, (Value.slice ma j mc).ownBlock = some i → i < wr.heap.size ∧ (Value.slice va rv.length vc).ownBlock ≠ some i := by
                    intro i hi
                    have h1 := own_in HOWN.out hi
                    refine ⟨h1.2, fun e => ?_⟩
                    have h2 := (own_in HRW.out.own e).2
                    have h3 := HX6.out.size
                    omega
                  have HRJ := Lib.hid (HRW.out.ext (HX6.out.ext HXJ.out))
                  have HRES := Lib.hid hres
                  have HLOW := Lib.hid hlow
                  have HVL : Hid (rv.length = k) := by
                    show _ = _
                    have := HRW.out.len
                    simp only [rowsP, List.length_map, List.length_take] at this
                    omega
                  have HSZJ := Lib.hid ((HXR.out.ext (HX6.out.ext HXJ.out)).size)
                  have HXW := Lib.hid (HXR.out.ext (HX6.out.ext HXJ.out))
                  have hone : ∀ y ∈ [Value.slice ma j mc], y.oneCell' = true := by intro y hy; simp only [List.mem_singleton] at hy; subst hy; rfl
                  clear hres hlow hje hjl
                  go_wp2_with (at_builtin; refine wpList_appAt lrT rsT 1 (by decide) lr_facts rfl _ _ rfl wv.heap.size _ _ _ rfl (ownsRow.ext HRJ.out.own ((Kp.refl _ wr).alloc _)) wr.heap.size 1 [.slice ma j mc] rfl (heap_alloc_new wr _) rfl hone ?c1 ?c2 ?_)
                  case c1 => have := HVL.out; omega
                  case c2 => have := HSZJ.out; omega
                  intro v1 w9' g1 g2 g3
                  have hst := RowsW.step (HRJ.out.ext ((Kp.refl _ wr).alloc (.cells [Value.slice ma j mc].toArray rsT))) (HRES.out.ext ((Kp.refl _ wr).alloc _)) (fun i hi => ⟨by have := (HLOW.out i hi).1; rw [World.size_alloc]; omega, (HLOW.out i hi).2⟩) g1 g2 (by
                    rcases g3 with g3 | g3
                    · exact .inl g3
                    · exact .inr ⟨_, g3, by simp⟩)
                  have hx9 : Ext wv w9' := (HXW.out.alloc _).next g2 (fun i hi e => by have := (own_in HRW.out.own e).1; omega)
                  have HX9b := Lib.hid hx9
                  have HST := Lib.hid hst
                  obtain ⟨a6, c6, rfl⟩ := owns_slice g1
                  clear g1 g2 g3 hx9 hone hst
                  go_wp2_with (fail)
                  go_light
                  exact ⟨⟨k + 1, _, by omega, by go_num, by rw [HSTEP.out]; exact HST.out, HX9b.out⟩, by simp [intOf]; omega⟩
            · have hke : k = pl.length := by omega
              have k1 : ¬ (k : Int) < pl.length := by omega
              have HRD := HRW.out.read
              rw [hke, List.take_of_length_le (Nat.le_refl _)] at HRD
              have HPRS := Lib.hid (planResults_any s n _ _ _ _ xs ss pl (rowsP rsD xs pl) rv wr (HPR.out.ext HXX.out) HPO.out.len (by omega) (by omega) HRD)
              have HQRS := Lib.hid (fun W (hx : Ext wr W) => refResults_any s n _ _ _ _ xs ss pl (rowsP rsD xs pl) rv W (HQR.out.ext (HXX.out.ext hx)) HPO.out.len (by omega) (by omega) (HRD.ext hx) (rowsP_fits rsD HPO.out) HPO.out.inr (fun l hl => by have := HPO.out.short l hl; omega) HPO.out.few)
              have q0 := HBR.out.cell 0 _ rfl
              have q1 := HBR.out.cell 1 _ rfl
              have q2 := HBR.out.cell 2 _ rfl
              have q4 := HBR.out.cell 4 _ rfl
              clear hke HRD hlt
              go_wp2_with (fail)
              refine HPRS.out.mono ?_
              rintro e wz ⟨hpost, hxz⟩
              rcases hpost with ⟨_, zv, rfl, hzv⟩ | ⟨hno, _⟩
              rotate_left
              · exact absurd (rowsP_fits rsD HPO.out) hno
              rw [rowsP_put rsD HPO.out] at hzv
              have hdz := HDR.out.kp hxz (fun f => f)
              have e0 := hdz.cell 0 _ rfl
              have e1 := hdz.cell 1 _ rfl
              have e2 := hdz.cell 2 _ rfl
              have e3 := hdz.cell 3 _ rfl
              have e4 := hdz.cell 4 _ rfl
              obtain ⟨za, zc, rfl⟩ := hzv.slice
              have HZV := Lib.hid hzv
              have HXZ := Lib.hid hxz
              have HQ2 := Lib.hid (HQRS.out wz hxz)
              clear hzv hxz hdz q0 q1 q2 q4 g3 HPRS HQRS
              go_wp2_with (fail)
              refine HQ2.out.mono ?_
              rintro e wu ⟨uv, rfl, huv, hxu⟩
              rw [rowsP_put rsD HPO.out] at huv
              obtain ⟨ua', uc', rfl⟩ := huv.slice
              have HXU := Lib.hid (HXX.out.ext (HXZ.out.ext hxu))
              have HALL := Lib.hid (fun W (hx : Ext wu W) => refAll_any _ _ (xs.map rsD) W (HZV.out.ext (hxu.ext hx)) (huv.ext hx))
              have HBU := Lib.hid (HPB.out.kp HXU.out (fun f => f))
              have HDU := Lib.hid (HQB.out.kp HXU.out (fun f => f))
              have hpos : 0 < pl.length := by
                obtain ⟨q, hq, _⟩ := HPO.out.all 0 (by omega)
                omega
              have hposs : 0 < ss.length := by have := HPO.out.len; omega
              obtain ⟨ta', tc', et, _, _, hto⟩ := HQR.out.shs.open
              simp only [Value.slice.injEq] at et
              obtain ⟨rfl, et2, rfl⟩ := et
              obtain ⟨tb, toff, rfl, _, htc⟩ := hto hposs
              have hT0 := HXU.out.cell (htc 0 hposs) (fun f => f)
              rw [Nat.add_zero] at hT0
              have HT0 := Lib.hid hT0
              have HFI : Hid (∀ W, Ext wu W → Calls Tryz.prog 12 #[planV s n (.slice a1 xs.length c1) (.slice a2 pl.length c2) (.slice a3 pl.length c3)] W fun r w' => r = .returned (.int .i64 (ss[0] : Int)) ∧ Ext W w') := by
                intro W hx
                have := planFirst_any s n _ _ _ xs ss pl W (HPR.out.ext (HXU.out.ext hx))
                have e : firstN ss = (ss[0] : Int) := by
                  match ss, hposs with
                  | x :: r, _ => rfl
                rw [e] at this
                exact this
              have HOS : Hid (∀ W, Ext wu W → Calls Tryz.prog 22 #[.agg #[.int .i64 s, .int .i64 n, .slice a1 xs.length c1], .agg #[.int .i64 s, .int .i64 n, .slice ua xs.length uc]] W fun e w' => e = .returned (.bool true) ∧ Ext W w') := by
                intro W hx
                have := opSame_any s n s n _ _ xs xs W (HPR.out.ext (HXU.out.ext hx)).ops (HOP.out W (HX2.out.ext (HX7.out.ext (HXU.out.ext hx))))
                rw [sameR_me] at this
                exact this
              have HRR := Lib.hid (HRQ.out wu (HX2.out.ext (HX7.out.ext HXU.out)))
              have P0 : Hid ((0 : Int) < pl.length ∧ 0 < pl.length ∧ ¬ pl = [] ∧ ¬ pl.length = 0) := ⟨by omega, by omega, fun e => by rw [e] at hpos; simp at hpos, by omega⟩
              have E2 : Hid (∀ x : Int, (x == x) = true) := fun x => by simp
              rw [List.length_map] at HALL ⊢
              generalize (ss[0] : Int) = s0 at HFI HT0
              clear e0 e1 e2 e3 e4 huv hxu hto htc et2 hT0 hpos hposs HQ2
              go_upto_region 40 with (fail)
              refine' wp_region_dag0 ((243, .val _) :: (244, .val _) :: (245, .val _) :: (246, .val _) :: (247, .val _) :: (248, .val _) :: (249, .val _) :: (250, .val _) :: (251, .val _) :: (252, .val _) :: (253, .val _) :: (254, .val _) :: (255, .val _) :: (256, .val _) :: (257, .val _) :: (258, .val _) :: (259, .val _) :: (260, .val _) :: (261, .val _) :: (262, .val _) :: (263, .val _) :: (264, .val _) :: (265, .val _) :: (266, .val _) :: (267, .val _) :: (268, .val _) :: (269, .val _) :: (270, .val _) :: (271, .val _) :: (272, .val _) :: (273, .val _) :: (274, .val _) :: (275, .val _) :: (276, .val _) :: (277, .val _) :: (10, .val _) :: []) (by exact ⟨fun _ _ _ _ _ => trivial, ⟨fun _ _ _ _ _ => trivial, ⟨fun _ _ _ _ _ => trivial, ⟨fun _ _ _ _ _ => trivial, ⟨fun _ _ _ _ _ => trivial, ⟨fun _ _ _ _ _ => trivial, ⟨fun _ _ _ _ _ => trivial, ⟨fun _ _ _ _ _ => trivial, ⟨fun _ _ _ _ _ => trivial, ⟨fun _ _ _ _ _ => trivial, ⟨fun _ _ _ _ _ => trivial, ⟨fun _ _ _ _ _ => trivial, ⟨fun _ _ _ _ _ => trivial, ⟨fun _ _ _ _ _ => trivial, ⟨fun _ _ _ _ _ => trivial, ⟨fun _ _ _ _ _ => trivial, ⟨fun _ _ _ _ _ => trivial, ⟨fun _ _ _ _ _ => trivial, ⟨fun _ _ _ _ _ => trivial, ⟨fun _ _ _ _ _ => trivial, ⟨fun _ _ _ _ _ => trivial, ⟨fun _ _ _ _ _ => trivial, ⟨fun _ _ _ _ _ => trivial, ⟨fun _ _ _ _ _ => trivial, ⟨fun _ _ _ _ _ => trivial, ⟨fun _ _ _ _ _ => trivial, ⟨fun _ _ _ _ _ => trivial, ⟨fun _ _ _ _ _ => trivial, ⟨fun _ _ _ _ _ => trivial, ⟨fun _ _ _ _ _ => trivial, ⟨fun _ _ _ _ _ => trivial, ⟨fun _ _ _ _ _ => trivial, ⟨fun _ _ _ _ _ => trivial, ⟨fun _ _ _ _ _ => trivial, ⟨fun _ _ _ _ _ => trivial, ⟨fun _ _ _ _ _ => trivial, trivial⟩⟩⟩⟩⟩⟩⟩⟩⟩⟩⟩⟩⟩⟩⟩⟩⟩⟩⟩⟩⟩⟩⟩⟩⟩⟩⟩⟩⟩⟩⟩⟩⟩⟩⟩⟩) (by kernel_rfl) (by kernel_rfl) (by kernel_rfl) ?_
              rotate_left 36
              repeat (first
                | (refine wpD_skipv ?_ ?_ ?_
                   focus rfl
                   focus rfl
                   simp only [Act.put, List.setIfInBounds_toArray, List.set_cons_succ, List.set_cons_zero])
                | (refine' wpD_val (c := _) ?_ (fun w => Kp.refl _ w) ?_ (fun wq hwq hfq => ?_) ?_
                   rotate_left
                   focus rfl
                   focus rfl
                   focus ((have hb := HBU.out.kp hwq (fun f => f); have q0 := hb.cell 0 _ rfl; have q1 := hb.cell 1 _ rfl; have q2 := hb.cell 2 _ rfl; have q3 := hb.cell 3 _ rfl; have q4 := hb.cell 4 _ rfl; have hd := HDU.out.kp hwq (fun f => f); have d3 := hd.cell 3 _ rfl; have t0 := hwq.cell HT0.out (fun f => f); obtain ⟨r0', r1', r2'⟩ := HRR.out; have r0 := hwq.cell r0' (fun f => f); have r1 := hwq.cell r1' (fun f => f); have r2 := hwq.cell r2' (fun f => f); obtain ⟨p0, p1, p2, p3⟩ := P0.out; have e2 := E2.out); go_simp; first | done | rfl)
                   simp only [Act.put, List.setIfInBounds_toArray, List.set_cons_succ, List.set_cons_zero])
                | (refine' wpD_con (c := _) ?_ ?_ (fun wq hwq hfq => ?_) ?_
                   rotate_left
                   focus rfl
                   focus rfl
                   focus ((have hb := HBU.out.kp hwq (fun f => f); have q0 := hb.cell 0 _ rfl; have q1 := hb.cell 1 _ rfl; have q2 := hb.cell 2 _ rfl; have q3 := hb.cell 3 _ rfl; have q4 := hb.cell 4 _ rfl; have hd := HDU.out.kp hwq (fun f => f); have d3 := hd.cell 3 _ rfl; have t0 := hwq.cell HT0.out (fun f => f); obtain ⟨r0', r1', r2'⟩ := HRR.out; have r0 := hwq.cell r0' (fun f => f); have r1 := hwq.cell r1' (fun f => f); have r2 := hwq.cell r2' (fun f => f); obtain ⟨p0, p1, p2, p3⟩ := P0.out; have e2 := E2.out); go_simp; (try (rw [dUpon_enter])); (first | ((with_reducible refine (HALL.out _ hwq).mono ?_); rintro e w' ⟨rfl, hx⟩; exact DEnd.con hx) | ((with_reducible refine (HFI.out _ hwq).mono ?_); rintro e w' ⟨rfl, hx⟩; exact DEnd.con hx) | ((with_reducible refine (HOS.out _ hwq).mono ?_); rintro e w' ⟨rfl, hx⟩; exact DEnd.con hx)))
                   simp only [Act.put, List.setIfInBounds_toArray, List.set_cons_succ, List.set_cons_zero])
                | fail)
              refine wpD_nil ?_
              intro we hxe hend
              clear hend
              have HXE := Lib.hid (HXA.out.ext (HX2.out.ext (HX7.out.ext (HXU.out.ext hxe))))
              clear hxe
              go_wp2_with (fail)
              go_ret
              go_light
              exact ⟨ret_bool rfl, HXE.out⟩
  · have HCM := Lib.hid (makeBad_any b s n _ xs w2 (HGT.out w2 HX2.out) (HOP.out w2 HX2.out) (ShortO.sz HSH.out) hmay)
    have HRM := Lib.hid (fun W (hx : Ext w2 W) => refMakeBad_any rb s n _ xs W (HOP.out W (HX2.out.ext hx)) (ShortO.sz HSH.out) hmay)
    obtain ⟨mr, hmr⟩ : ∃ mr, mayR s n xs = mr := ⟨_, rfl⟩
    rw [hmr] at HCM HRM hmay
    have hne : (mr == 0) = false := beq_eq_false_iff_ne.2 hmay
    clear hmr
    go_wp2_with (fail)
    refine HCM.out.mono ?_
    rintro e w3 ⟨rfl, hx3⟩
    obtain ⟨w4, hW4⟩ : ∃ w4, w3.alloc (.cells #[.int .i64 0, .int .i64 0, .slice none 0 0, .slice none 0 0, .slice none 0 0] plT) = w4 := ⟨_, rfl⟩
    have hx4 : Ext w3 w4 := by rw [← hW4]; exact (Kp.refl _ _).alloc _
    have hb4 : Blk w4 w3.heap.size #[.int .i64 0, .int .i64 0, .slice none 0 0, .slice none 0 0, .slice none 0 0] plT := by rw [← hW4]; exact heap_alloc_new w3 _
    have HB4 := Lib.hid hb4
    have HX4 := Lib.hid (hx3.ext hx4)
    have HW4 := Lib.hid hW4
    clear hx3 hx4 hb4 hW4 r0 r1 r2
    go_upto_region 7 with (fail)
    rw [HW4.out]
    obtain ⟨r0, r1, r2⟩ := HRQ.out w4 (HX2.out.ext HX4.out)
    go_wp2_with (fail)
    refine (HRQ7.out w4).mono ?_
    rintro e w5 ⟨rfl, hx5⟩
    have HX5 := Lib.hid (HX4.out.ext hx5)
    have HB5 := Lib.hid (HB4.out.kp hx5 (fun f => f))
    clear hx5 r0 r1 r2
    go_wp2_with (fail)
    refine (HRM.out w5 HX5.out).mono ?_
    rintro e w6 ⟨rfl, hx6⟩
    obtain ⟨w7, hW7⟩ : ∃ w7, w6.alloc (.cells #[.int .i64 0, .int .i64 0, .slice none 0 0, .slice none 0 0, .slice none 0 0] rpT) = w7 := ⟨_, rfl⟩
    have hx7 : Ext w6 w7 := by rw [← hW7]; exact (Kp.refl _ _).alloc _
    have hb7 : Blk w7 w6.heap.size #[.int .i64 0, .int .i64 0, .slice none 0 0, .slice none 0 0, .slice none 0 0] rpT := by rw [← hW7]; exact heap_alloc_new w6 _
    have HB7 := Lib.hid hb7
    have HB57 := Lib.hid ((HB5.out.kp hx6 (fun f => f)).kp hx7 (fun f => f))
    have HX7 := Lib.hid ((HX5.out.ext hx6).ext hx7)
    have HW7 := Lib.hid hW7
    have HLO := Lib.hid (fun W => planLocal_any 0 0 _ _ _ [] [] [] W (PlanR.nil0 W))
    have HFI := Lib.hid (fun W => planFirst_any 0 0 _ _ _ [] [] [] W (PlanR.nil0 W))
    have E0 : Hid ((mr != mr) = false) := by show _ = _; simp
    clear hx6 hx7 hb7 hW7
    go_upto_region 8 with (fail)
    rw [HW7.out]
    refine' wp_region_dag0 ((70, .val _) :: (71, .val _) :: (72, .val _) :: (73, .val _) :: (74, .val _) :: (75, .val _) :: (76, .val _) :: (77, .val _) :: (78, .val _) :: (79, .val _) :: (80, .val _) :: (81, .val _) :: (82, .val _) :: (83, .val _) :: (84, .val _) :: (85, .val _) :: (86, .val _) :: (87, .val _) :: (88, .val _) :: (89, .val _) :: (90, .val _) :: (91, .val _) :: (92, .val _) :: (93, .val _) :: (94, .val _) :: (95, .val _) :: (96, .val _) :: (97, .val _) :: (98, .val _) :: (99, .val _) :: []) (by exact ⟨fun _ _ _ _ _ => trivial, ⟨fun _ _ _ _ _ => trivial, ⟨fun _ _ _ _ _ => trivial, ⟨fun _ _ _ _ _ => trivial, ⟨fun _ _ _ _ _ => trivial, ⟨fun _ _ _ _ _ => trivial, ⟨fun _ _ _ _ _ => trivial, ⟨fun _ _ _ _ _ => trivial, ⟨fun _ _ _ _ _ => trivial, ⟨fun _ _ _ _ _ => trivial, ⟨fun _ _ _ _ _ => trivial, ⟨fun _ _ _ _ _ => trivial, ⟨fun _ _ _ _ _ => trivial, ⟨fun _ _ _ _ _ => trivial, ⟨fun _ _ _ _ _ => trivial, ⟨fun _ _ _ _ _ => trivial, ⟨fun _ _ _ _ _ => trivial, ⟨fun _ _ _ _ _ => trivial, ⟨fun _ _ _ _ _ => trivial, ⟨fun _ _ _ _ _ => trivial, ⟨fun _ _ _ _ _ => trivial, ⟨fun _ _ _ _ _ => trivial, ⟨fun _ _ _ _ _ => trivial, ⟨fun _ _ _ _ _ => trivial, ⟨fun _ _ _ _ _ => trivial, ⟨fun _ _ _ _ _ => trivial, ⟨fun _ _ _ _ _ => trivial, ⟨fun _ _ _ _ _ => trivial, ⟨fun _ _ _ _ _ => trivial, ⟨fun _ _ _ _ _ => trivial, trivial⟩⟩⟩⟩⟩⟩⟩⟩⟩⟩⟩⟩⟩⟩⟩⟩⟩⟩⟩⟩⟩⟩⟩⟩⟩⟩⟩⟩⟩⟩) (by kernel_rfl) (by kernel_rfl) (by kernel_rfl) ?_
    rotate_left 30
    repeat (first
      | (refine wpD_skipv ?_ ?_ ?_
         focus rfl
         focus rfl
         simp only [Act.put, List.setIfInBounds_toArray, List.set_cons_succ, List.set_cons_zero])
      | (refine' wpD_val (c := _) ?_ (fun w => Kp.refl _ w) ?_ (fun wq hwq hfq => ?_) ?_
         rotate_left
         focus rfl
         focus rfl
         focus ((have hb := HB57.out.kp hwq (fun f => f); have q0 := hb.cell 0 _ rfl; have q1 := hb.cell 1 _ rfl; have q2 := hb.cell 2 _ rfl; have q3 := hb.cell 3 _ rfl; have q4 := hb.cell 4 _ rfl; have hd := HB7.out.kp hwq (fun f => f); have d3 := hd.cell 3 _ rfl; have d4 := hd.cell 4 _ rfl; have e0 := E0.out); go_simp; first | done | rfl)
         simp only [Act.put, List.setIfInBounds_toArray, List.set_cons_succ, List.set_cons_zero])
      | (refine' wpD_con (c := _) ?_ ?_ (fun wq hwq hfq => ?_) ?_
         rotate_left
         focus rfl
         focus rfl
         focus ((have hb := HB57.out.kp hwq (fun f => f); have q0 := hb.cell 0 _ rfl; have q1 := hb.cell 1 _ rfl; have q2 := hb.cell 2 _ rfl; have q3 := hb.cell 3 _ rfl; have q4 := hb.cell 4 _ rfl; have hd := HB7.out.kp hwq (fun f => f); have d3 := hd.cell 3 _ rfl; have d4 := hd.cell 4 _ rfl; have e0 := E0.out); go_simp; (try (rw [dUpon_enter])); ((with_reducible refine (HLO.out _).mono ?_); rintro e w' ⟨rfl, hx⟩; exact DEnd.con hx))
         simp only [Act.put, List.setIfInBounds_toArray, List.set_cons_succ, List.set_cons_zero])
      | fail)
    refine wpD_nil ?_
    intro w8 hx8 hend
    clear hend
    have hb8 := HB57.out.kp hx8 (fun f => f)
    have q0 := hb8.cell 0 _ rfl
    have q1 := hb8.cell 1 _ rfl
    have q2 := hb8.cell 2 _ rfl
    have q3 := hb8.cell 3 _ rfl
    have q4 := hb8.cell 4 _ rfl
    have HX8 := Lib.hid (HX7.out.ext hx8)
    clear hx8 hb8
    go_wp2_with (fail)
    refine (HFI.out w8).mono ?_
    rintro e w9 ⟨rfl, hx9⟩
    have HX9 := Lib.hid (HX8.out.ext hx9)
    clear hx9
    go_wp2_with (fail)
    go_ret
    go_light
    exact ⟨ret_bool rfl, HXA.out.ext (HX2.out.ext HX9.out)⟩
section
open Go.ChangeShapes Go.WideShapes Go.ChangeAt
theorem gt_of {W : World} {laid : List (String × DataW Unit)} (hsh : W.ShapedOpen Tryz.prog) (h : laidMet Tryz.prog laid W) (hl : (laid.filter fun x => x.1 == "internal/strconv.uint64pow10") = [("internal/strconv.uint64pow10", Lib.tabData .u64 Lib.pow10Tab)]) : GT W :=
  ⟨gl_of_shape hsh, tab_of_laid h hl⟩
theorem trod_vote {H : Type} {enc : TypeId × Value → H} {W : World} {fuel : Nat} {cs : List Value} {x : DataW H × List MemPlace} (h : DataW.trod enc Tryz.prog W 0 (fun _ => true) true fuel voT cs = some x) : ∃ o : VoteV, cs = voC o ∧ True := by
  obtain ⟨xs, n2, _, _, hlcs, hxl, hf⟩ := DataW.trod_struct Tryz.underlying47 h
  have q0 := hf 0 _ rfl
  have q1 := hf 1 _ rfl
  have k3 : Program.cellsOf Tryz.prog 3 = 1 := by kernel_rfl
  have k36 : Program.cellsOf Tryz.prog 36 = 1 := by kernel_rfl
  have k2 : Program.cellsOf Tryz.prog voT = 2 := by kernel_rfl
  simp at hxl
  obtain ⟨z0, z1, rfl⟩ : ∃ z0 z1, xs = [z0, z1] := by
    match xs, hxl with
    | [z0, z1], _ => exact ⟨z0, z1, rfl⟩
  rw [k2] at hlcs
  obtain ⟨v0, v1, rfl⟩ : ∃ v0 v1, cs = [v0, v1] := by
    match cs, hlcs with
    | [v0, v1], _ => exact ⟨v0, v1, rfl⟩
  simp [k3, k36] at q0 q1
  obtain ⟨i0, e0, _⟩ := trod_i64 Tryz.underlying36 q0
  obtain ⟨i1, e1, _⟩ := trod_i64 Tryz.underlying3 q1
  simp at e0 e1
  subst e0 e1
  exact ⟨⟨i0, i1⟩, rfl, trivial⟩
theorem arg_votes {H : Type} {enc : TypeId × Value → H} {W : World} {base : Nat} {r : Reach} {v : Value} {d : DataW H} {p : List MemPlace} (hv : Value.okWide Tryz.prog W r base vosT v) (h : DataW.Trod enc Tryz.prog W 0 (fun _ => true) true vosT v d p) : ∃ l : List VoteV, VotesAt W v l := by
  obtain ⟨a0, len, cap, rfl⟩ := okWide_slice Tryz.underlying26 hv
  obtain ⟨n, h⟩ := h
  obtain ⟨v', hcs, xs, h1, h2, _⟩ := trod_sl voC 2 (fun _ => True) (fun _ => rfl) (by decide) Tryz.underlying26 (by kernel_rfl) (fun fuel cs x hx => trod_vote hx) h
  simp only [Value.cells, List.cons.injEq, and_true] at hcs
  subst hcs
  exact ⟨xs, h1, h2⟩
theorem trodAll_five {H : Type} {enc : TypeId × Value → H} {P : Program} {w : World} {base : Nat} {spare : Nat → Bool} {held : Bool} {t t' t'' t3 t4 : TypeId} {args : Array Value} {ds : List (DataW H)} {ps : List MemPlace} (h : DataW.TrodAll enc P w base spare held [t, t', t'', t3, t4] args.toList ds ps) :
    ∃ v v' v'' v3 v4 d d' d'' d3 p p' p'' p3, args = #[v, v', v'', v3, v4] ∧ DataW.Trod enc P w base spare held t v d p ∧ DataW.Trod enc P w base spare held t' v' d' p' ∧ DataW.Trod enc P w base spare held t'' v'' d'' p'' ∧ DataW.Trod enc P w base spare held t3 v3 d3 p3 := by
  obtain ⟨v, vs, d, ds1, p, q, hargs, rfl, rfl, hd, hrest⟩ := trodAll_cons h
  obtain ⟨v', vs', d', ds2, p', q', rfl, rfl, rfl, hd', hrest'⟩ := trodAll_cons hrest
  obtain ⟨v'', vs'', d'', ds3, p'', q'', rfl, rfl, rfl, hd'', hrest''⟩ := trodAll_cons hrest'
  obtain ⟨v3, vs3, d3, ds4, p3, q3, rfl, rfl, rfl, hd3, hrest3⟩ := trodAll_cons hrest''
  obtain ⟨v4, vs4, d4, ds5, p4, q4, rfl, rfl, rfl, hd4, hrest4⟩ := trodAll_cons hrest3
  obtain ⟨rfl, rfl, rfl⟩ := trodAll_nil hrest4
  exact ⟨v, v', v'', v3, v4, d, d', d'', d3, p, p', p'', p3, by cases args; simp_all, hd, hd', hd'', hd3⟩
theorem planSays_con {H : Type} {enc : TypeId × Value → H} (W : World) (base : Nat) (args : Array Value) (ds : List (DataW H)) (p : List MemPlace)
    (hval : ∀ (j : Nat) t v, Tryz.f3.params[j]? = some t → args[j]? = some v → Value.okWide Tryz.prog W .any base t v)
    (hA : DataW.TrodAll enc Tryz.prog W 0 (fun _ => true) true Tryz.f3.params.toList args.toList ds p)
    (hsh : W.ShapedOpen Tryz.prog) (hl : laidMet Tryz.prog Rows.planSaysRow.laid W) : Calls Tryz.prog 3 args W fun e W' => e = .returned (.bool true) ∧ Ext W W' := by
  rw [Tryz.params3] at hA hval
  obtain ⟨v0, v1, v2, v3, v4, d0, d1, d2, d3, p0, p1, p2, p3, rfl, h0, h1, h2, h3⟩ := trodAll_five hA
  obtain ⟨sh, rfl⟩ := okWide_int Tryz.underlying3 (hval 0 _ v0 rfl rfl)
  obtain ⟨ms, hms, _⟩ := arg_ints Tryz.underlying22 Tryz.underlying3 (by kernel_rfl) (hval 1 _ v1 rfl rfl) h1
  obtain ⟨s, n, u, rfl, _, _, xs, b1, _, _⟩ := arg_req (hval 2 _ v2 rfl rfl) h2
  obtain ⟨vs0, hvs⟩ := arg_votes (hval 3 _ v3 rfl rfl) h3
  obtain ⟨fit, rfl⟩ := okWide_bool Tryz.underlying4 (hval 4 _ v4 rfl rfl)
  exact planSays_any sh s n v1 u v3 fit ms xs vs0 W (gt_of hsh hl (by kernel_rfl)) hms b1 hvs
end
end Go.Proofs.YtmgnndhhpnedkaaGreatDoor
