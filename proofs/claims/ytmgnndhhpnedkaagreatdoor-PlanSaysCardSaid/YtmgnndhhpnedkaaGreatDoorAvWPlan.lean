/- Walks of package plan: Clone of ops, Make. -/
import Derived.Test.YtmgnndhhpnedkaaGreatDoorAvWRouC
import Derived.Test.YtmgnndhhpnedkaaGreatDoorAvWReq
import Derived.Test.YtmgnndhhpnedkaaGreatDoorAvArg
import Derived.Lib.SliceRun
namespace Go.Proofs.YtmgnndhhpnedkaaGreatDoor
set_option maxRecDepth 100000
open Go.RowKit Av

abbrev opT : TypeId := 59
abbrev opsT : TypeId := 23
theorem op_facts : ElemOk Tryz.prog opsT opT 5 := ⟨by kernel_rfl, by kernel_rfl⟩
set_option maxHeartbeats 800000 in
theorem opsClone_any (v : Value) (xs : List OpV) (w : World) (h : OpsAt w v xs) (h0 : 1 ≤ xs.length) (hn : xs.length ≤ 1000) :
    Calls Tryz.prog 30 #[v] w fun e w' => ∃ v', e = .returned v' ∧ OpsAt w' v' xs ∧ (∀ i, v'.ownBlock = some i → w.heap.size ≤ i ∧ i < w'.heap.size) ∧ Ext w w' := by
  have q22 : ∀ (w : World) (a : Option Addr) (n c n' c' : Nat), (binOp .eql opsT (.slice a n c) (.slice none n' c')).run Tryz.prog w = .ok (.bool a.isNone) w := fun w a n c n' c' => Lib.run_eql_slice_nil w _ _ a n c n' c' Tryz.underlying23
  have hone := op_one xs
  have HS := Lib.hid h
  obtain ⟨a, c, rfl, hcc, hm, hop⟩ := OpsAt.open h
  obtain ⟨b, off, rfl, hb, hc⟩ := hop (by omega)
  have HR := Lib.hid h.1
  clear hc hop h
  go_enter Tryz.func30, Tryz.ntmps30
  go_wp2_with (at_builtin; refine wpList_appK opsT opT 5 (by decide) op_facts rfl _ _ rfl w.heap.size _ 0 [] rfl ⟨rfl, .inr ⟨w.heap.size, 0, #[], rfl, Nat.le_refl _, heap_alloc_new w _, Nat.le_refl _, Nat.zero_le _, rfl, rfl⟩⟩ _ xs.length (xs.flatMap OpV.cells) rfl (Sl.ext HR.out ((Kp.refl _ w).alloc _)) Shp.some hone ?c1 ?c2 ?_)
  case c1 => omega
  case c2 => simp
  intro v' w' h1 k2
  have hx : Ext w w' := ((Kp.refl (fun _ => False) w).alloc (.cells #[] opT)).next k2 (fun i hi e => by simp only [Value.ownBlock, Option.some.injEq] at e; omega)
  have HX := Lib.hid hx
  have HO := Lib.hid h1
  clear h1 k2 hx
  go_wp2_with (fail)
  go_ret
  exact ⟨_, rfl, ⟨Sl.of_owns HO.out, shp_owns HO.out⟩, fun i hi => own_in HO.out hi, HX.out⟩
/-- A plan's own parts. -/
structure PlanR (w : World) (ov sv plv : Value) (xs : List OpV) (ss : List Nat) (pl : List (List Nat)) : Prop where
  ops : OpsAt w ov xs
  shs : NatsR w sv ss
  pls : ∃ vs, RowsR w plv vs pl
theorem PlanR.ext {w w' : World} {ov sv plv : Value} {xs : List OpV} {ss : List Nat} {pl : List (List Nat)} (h : PlanR w ov sv plv xs ss pl) (k : Ext w w') : PlanR w' ov sv plv xs ss pl := by
  obtain ⟨vs, hv⟩ := h.pls
  exact ⟨h.ops.ext k, h.shs.ext k, vs, hv.ext k⟩
abbrev plT : TypeId := 35
/-- The memory of Make, in its loop. -/
structure MkSt (w wS W : World) (gr g : Nat) (s n : Int) (ov sv plv : Value) (ss : List Nat) (vs : List Value) : Prop where
  bgr : Blk W gr #[.int .i64 0, .int .i64 0, .slice none 0 0, .slice none 0 0, .slice none 0 0] plT
  blk : Blk W g #[.int .i64 s, .int .i64 n, ov, sv, plv] plT
  own1 : W.ownsRow wS.heap.size inT 1 sv ss.length (ss.map natV)
  own2 : W.ownsRow wS.heap.size isT 1 plv vs.length vs
  apart : ∀ i, sv.ownBlock = some i → plv.ownBlock ≠ some i
  ext : Ext w W
  kp : Kp (fun i => i = g) wS W
  h1 : w.heap.size ≤ gr
  h2 : gr < g
  h3 : g < wS.heap.size
section
variable {w wS W W1 w' : World} {gr g : Nat} {s n : Int} {ov sv plv v' : Value} {ss : List Nat} {vs : List Value}
theorem MkSt.exts (h : MkSt w wS W gr g s n ov sv plv ss vs) (k : Ext W W1) : MkSt w wS W1 gr g s n ov sv plv ss vs :=
  ⟨h.bgr.kp k (fun f => f), h.blk.kp k (fun f => f), ownsRow.ext h.own1 k, ownsRow.ext h.own2 k, h.apart, h.ext.ext k, h.kp.ext k, h.h1, h.h2, h.h3⟩
theorem MkSt.stepS (h : MkSt w wS W gr g s n ov sv plv ss vs) {k : Nat} (h1 : w'.ownsRow wS.heap.size inT 1 v' (ss.length + 1) (ss.map natV ++ [natV k])) (k2 : Kp (fun i => sv.ownBlock = some i) W w') (h3 : v'.ownBlock = sv.ownBlock ∨ v'.ownBlock = some W.heap.size) :
    MkSt w wS (w'.setCell ⟨g, 3, none⟩ v') gr g s n ov v' plv (ss ++ [k]) vs := by
  have a1 := h.h1; have a2 := h.h2; have a3 := h.h3
  have hk : Kp (fun i => i = g) w' (w'.setCell ⟨g, 3, none⟩ v') := (Kp.refl _ _).set1 g 3 _ rfl
  have ks : Kp (fun i => wS.heap.size ≤ i) W w' := k2.mono fun i _ e => (own_in h.own1 e).1
  have hb : Blk w' g _ plT := h.blk.kp ks (fun e => by omega)
  refine ⟨(h.bgr.kp ks (fun e => by omega)).kp hk (fun e => by omega), hb.set 3 v', ?_, ?_, fun i hi e => ?_, ?_, ?_, a1, a2, a3⟩
  · rw [List.map_append, List.length_append]
    exact ownsRow.kp h1 hk (fun i hi e => by have := (own_in h1 hi).1; omega)
  · exact ownsRow.kp (ownsRow.kp h.own2 k2 (fun i hi e => h.apart i e hi)) hk (fun i hi e => by have := (own_in h.own2 hi).1; omega)
  · rcases h3 with h3 | h3
    · exact h.apart i (by rw [← h3]; exact hi) e
    · rw [h3] at hi
      have := (own_in h.own2 e).2
      simp only [Option.some.injEq] at hi
      omega
  · have := h.kp.size
    exact (h.ext.next ks (fun i hi e => by have := h.ext.size; omega)).next hk (fun i hi e => by omega)
  · exact (h.kp.next ks (fun i hi e => by omega)).trans hk
theorem MkSt.stepP (h : MkSt w wS W gr g s n ov sv plv ss vs) {y : Value} (h1 : w'.ownsRow wS.heap.size isT 1 v' (vs.length + 1) (vs ++ [y])) (k2 : Kp (fun i => plv.ownBlock = some i) W w') (h3 : v'.ownBlock = plv.ownBlock ∨ v'.ownBlock = some W.heap.size) :
    MkSt w wS (w'.setCell ⟨g, 4, none⟩ v') gr g s n ov sv v' ss (vs ++ [y]) := by
  have a1 := h.h1; have a2 := h.h2; have a3 := h.h3
  have hk : Kp (fun i => i = g) w' (w'.setCell ⟨g, 4, none⟩ v') := (Kp.refl _ _).set1 g 4 _ rfl
  have ks : Kp (fun i => wS.heap.size ≤ i) W w' := k2.mono fun i _ e => (own_in h.own2 e).1
  have hb : Blk w' g _ plT := h.blk.kp ks (fun e => by omega)
  refine ⟨(h.bgr.kp ks (fun e => by omega)).kp hk (fun e => by omega), hb.set 4 v', ?_, ?_, fun i hi e => ?_, ?_, ?_, a1, a2, a3⟩
  · exact ownsRow.kp (ownsRow.kp h.own1 k2 (fun i hi e => h.apart i hi e)) hk (fun i hi e => by have := (own_in h.own1 hi).1; omega)
  · rw [List.length_append]
    exact ownsRow.kp h1 hk (fun i hi e => by have := (own_in h1 hi).1; omega)
  · rcases h3 with h3 | h3
    · exact h.apart i hi (by rw [← h3]; exact e)
    · rw [h3] at e
      have := (own_in h.own1 hi).2
      simp only [Option.some.injEq] at e
      omega
  · have := h.kp.size
    exact (h.ext.next ks (fun i hi e => by have := h.ext.size; omega)).next hk (fun i hi e => by omega)
  · exact (h.kp.next ks (fun i hi e => by omega)).trans hk
end
def w1sz (w W1 : World) : Prop := W1.heap.size = w.heap.size + 1 + 1
theorem ext_set5 {a W : World} (h : Ext a W) (g : Nat) (hg : a.heap.size ≤ g) (u0 u1 u2 u3 u4 : Value) : Ext a (((((W.setCell ⟨g, 0, none⟩ u0).setCell ⟨g, 1, none⟩ u1).setCell ⟨g, 2, none⟩ u2).setCell ⟨g, 3, none⟩ u3).setCell ⟨g, 4, none⟩ u4) :=
  ((((h.setCell _ u0 (fun q => absurd q (Nat.not_lt.2 hg))).setCell _ u1 (fun q => absurd q (Nat.not_lt.2 hg))).setCell _ u2 (fun q => absurd q (Nat.not_lt.2 hg))).setCell _ u3 (fun q => absurd q (Nat.not_lt.2 hg))).setCell _ u4 (fun q => absurd q (Nat.not_lt.2 hg))
theorem MkSt.fin {w wS W : World} {gr g : Nat} {s n : Int} {ov sv plv : Value} {ss : List Nat} {vs : List Value} {xs : List OpV} {pl : List (List Nat)} (h : MkSt w wS W gr g s n ov sv plv ss vs) (hov : OpsAt wS ov xs) (hob : ∀ i, ov.ownBlock = some i → i ≠ g ∧ i ≠ gr) (hl : vs.length = pl.length)
    (hin : ∀ (j : Nat) (h1 : j < vs.length) (h2 : j < pl.length), NatsR wS vs[j] pl[j]) (hng : ∀ x ∈ vs, ∀ i, x.ownBlock = some i → g < i) (u0 u1 u2 u3 u4 : Value) :
    PlanR (((((W.setCell ⟨gr, 0, none⟩ u0).setCell ⟨gr, 1, none⟩ u1).setCell ⟨gr, 2, none⟩ u2).setCell ⟨gr, 3, none⟩ u3).setCell ⟨gr, 4, none⟩ u4) ov sv plv xs ss pl ∧ Ext w (((((W.setCell ⟨gr, 0, none⟩ u0).setCell ⟨gr, 1, none⟩ u1).setCell ⟨gr, 2, none⟩ u2).setCell ⟨gr, 3, none⟩ u3).setCell ⟨gr, 4, none⟩ u4) := by
  have a1 := h.h1; have a2 := h.h2; have a3 := h.h3
  have kr : Kp (fun i => i = gr) W (((((W.setCell ⟨gr, 0, none⟩ u0).setCell ⟨gr, 1, none⟩ u1).setCell ⟨gr, 2, none⟩ u2).setCell ⟨gr, 3, none⟩ u3).setCell ⟨gr, 4, none⟩ u4) :=
    (((((Kp.refl (fun i => i = gr) W).set1 gr 0 u0 rfl).set1 gr 1 u1 rfl).set1 gr 2 u2 rfl).set1 gr 3 u3 rfl).set1 gr 4 u4 rfl
  refine ⟨⟨?_, ?_, vs, hl, ?_, fun j h1 h2 => ?_⟩, ext_set5 h.ext gr a1 u0 u1 u2 u3 u4⟩
  · exact (hov.kp h.kp (fun i hi _ e => (hob i hi).1 e)).kp kr (fun i hi _ e => (hob i hi).2 e)
  · have := ownsRow.kp h.own1 kr (fun i hi e => by have := (own_in h.own1 hi).1; omega)
    exact ⟨Sl.of_owns this, shp_owns this⟩
  · have := ownsRow.kp h.own2 kr (fun i hi e => by have := (own_in h.own2 hi).1; omega)
    exact ⟨Sl.of_owns this, shp_owns this⟩
  · have hx := hng _ (List.getElem_mem h1)
    exact ((hin j h1 h2).kp h.kp (fun i hi e => by have := hx i hi; omega)).kp kr (fun i hi e => by have := hx i hi; omega)
theorem shardsK_some {f : Nat → Int} {N k : Nat} (h : splitTo f N k ≠ []) : shardsOf f N (k + 1) = shardsOf f N k ++ [k] := by rw [shardsOf_snoc, if_neg h]
theorem shardsK_none {f : Nat → Int} {N k : Nat} (h : splitTo f N k = []) : shardsOf f N (k + 1) = shardsOf f N k := by rw [shardsOf_snoc, if_pos h]
theorem placesK_some {f : Nat → Int} {N k : Nat} (h : splitTo f N k ≠ []) : placesOf f N (k + 1) = placesOf f N k ++ [splitTo f N k] := by rw [places_snoc, if_neg h]
theorem placesK_none {f : Nat → Int} {N k : Nat} (h : splitTo f N k = []) : placesOf f N (k + 1) = placesOf f N k := by rw [places_snoc, if_pos h]
theorem mk_start (w W1 : World) (s n : Int) (v : Value) (h : (w.alloc (.cells #[.int .i64 s, .int .i64 n, v] 25)).alloc (.cells #[.int .i64 0, .int .i64 0, .slice none 0 0, .slice none 0 0, .slice none 0 0] plT) = W1) :
    Ext w W1 ∧ Blk W1 w.heap.size #[.int .i64 s, .int .i64 n, v] 25 ∧ Blk W1 (w.heap.size + 1) #[.int .i64 0, .int .i64 0, .slice none 0 0, .slice none 0 0, .slice none 0 0] plT := by
  subst h
  refine ⟨((Kp.refl _ w).alloc _).alloc _, ?_, ?_⟩
  · have h1 : Blk (w.alloc (.cells #[.int .i64 s, .int .i64 n, v] 25)) w.heap.size _ _ := heap_alloc_new w _
    exact h1.kp (((Kp.refl (fun _ => False) _)).alloc _) (fun f => f)
  · have := heap_alloc_new (w.alloc (.cells #[.int .i64 s, .int .i64 n, v] 25)) (.cells #[.int .i64 0, .int .i64 0, .slice none 0 0, .slice none 0 0, .slice none 0 0] plT)
    rw [World.size_alloc] at this
    exact this
theorem mayR_len {s n : Int} {xs : List OpV} (h : mayR s n xs = 0) : 1 ≤ xs.length ∧ xs.length ≤ 16 := ⟨(mayR_ok h).2.2.1, (mayR_ok h).2.2.2.1⟩
theorem ops_slice {w : World} {v : Value} {xs : List OpV} (h : OpsAt w v xs) : ∃ a c, v = .slice a xs.length c := by
  obtain ⟨a, c, e, _⟩ := OpsAt.open h
  exact ⟨a, c, e⟩
theorem mayR_ne {s n : Int} {xs : List OpV} (h : mayR s n xs ≠ 0) : (mayR s n xs == 0) = false := beq_eq_false_iff_ne.2 h
set_option maxHeartbeats 1600000 in
theorem makeBad_any (b : Nat) (s n : Int) (v : Value) (xs : List OpV) (w : World) (hG : GT w) (ho : OpsAt w v xs) (hsz : OpsSz xs) (hb : mayR s n xs ≠ 0) :
    Calls Tryz.prog 8 #[.pointer (some ⟨b, 0, none⟩), .agg #[.int .i64 s, .int .i64 n, v]] w fun e w' => e = .returned (.tuple #[.agg #[.int .i64 0, .int .i64 0, .slice none 0 0, .slice none 0 0, .slice none 0 0], .int .i64 (mayR s n xs)]) ∧ Ext w w' := by
  have HM := Lib.hid (fun W (k : Ext w W) => may_any s n v xs W (hG.ext k) (ho.ext k) hsz)
  obtain ⟨a, c, rfl, hcc, hm, hop⟩ := OpsAt.open ho
  have hne := mayR_ne hb
  have hne' : ¬ mayR s n xs = 0 := hb
  generalize mayR s n xs = mr at HM hne hne' ⊢
  clear hop hb ho hsz hG
  obtain ⟨W1, hW1⟩ : ∃ W1, (w.alloc (.cells #[.int .i64 s, .int .i64 n, .slice a xs.length c] 25)).alloc (.cells #[.int .i64 0, .int .i64 0, .slice none 0 0, .slice none 0 0, .slice none 0 0] plT) = W1 := ⟨_, rfl⟩
  obtain ⟨hx1, bq, br⟩ := mk_start w W1 s n _ hW1
  have q0 := bq.cell 0 _ rfl
  have q1 := bq.cell 1 _ rfl
  have q2 := bq.cell 2 _ rfl
  have HX1 := Lib.hid hx1
  have HBR := Lib.hid br
  clear hx1 bq br
  go_enter Tryz.func8, Tryz.ntmps8
  go_wp2_with (fail)
  refine (HM.out W1 HX1.out).mono ?_
  rintro e w2 ⟨rfl, hx2⟩
  have br2 := HBR.out.kp hx2 (fun f => f)
  have g0 := br2.cell 0 _ rfl
  have g1 := br2.cell 1 _ rfl
  have g2 := br2.cell 2 _ rfl
  have g3 := br2.cell 3 _ rfl
  have g4 := br2.cell 4 _ rfl
  have p0 := br2.free 0
  have p1 := br2.free 1
  have p2 := br2.free 2
  have p3 := br2.free 3
  have p4 := br2.free 4
  have HF : Hid (∀ u0 u1 u2 u3 u4, Ext w (((((w2.setCell ⟨w.heap.size + 1, 0, none⟩ u0).setCell ⟨w.heap.size + 1, 1, none⟩ u1).setCell ⟨w.heap.size + 1, 2, none⟩ u2).setCell ⟨w.heap.size + 1, 3, none⟩ u3).setCell ⟨w.heap.size + 1, 4, none⟩ u4)) := by
    intro u0 u1 u2 u3 u4
    exact ext_set5 (HX1.out.ext hx2) _ (by omega) u0 u1 u2 u3 u4
  clear hx2 br2
  go_wp2_with (fail)
  go_light
  refine bodyPost_ret (v := .tuple #[.agg #[.int .i64 0, .int .i64 0, .slice none 0 0, .slice none 0 0, .slice none 0 0], .int .i64 mr]) (by simp [results, Tryz.results8, go_sem, g0, g1, g2, g3, g4]) rfl ⟨rfl, HF.out _ _ _ _ _⟩
/-- A plan, read: the returned one. -/
def MakeOk (_w w' : World) (s n : Int) (xs : List OpV) (f : Nat → Int) (sh : Nat) (e : Ending) : Prop :=
  ∃ ov sv plv, e = .returned (.tuple #[.agg #[.int .i64 s, .int .i64 n, ov, sv, plv], .int .i64 0]) ∧ PlanR w' ov sv plv xs (shardsOf f xs.length sh) (placesOf f xs.length sh)
def MkRel (w wS : World) (gr g : Nat) (s n : Int) (ov : Value) (f : Nat → Int) (N sh : Nat) (i : Value) (W : World) : Prop :=
  ∃ k : Nat, k ≤ sh ∧ i = .int .i64 k ∧ ∃ sv plv vs, MkSt w wS W gr g s n ov sv plv (shardsOf f N k) vs ∧ vs.length = (placesOf f N k).length ∧
    (∀ (j : Nat) (h1 : j < vs.length) (h2 : j < (placesOf f N k).length), NatsR wS vs[j] (placesOf f N k)[j]) ∧ (∀ x ∈ vs, ∀ i, x.ownBlock = some i → g < i)
set_option maxHeartbeats 6400000 in
theorem make_any (b m sh : Nat) (mv : Moved) (s n : Int) (v : Value) (xs : List OpV) (w : World) (h : TabAt w b m sh mv) (hG : GT w) (ho : OpsAt w v xs) (hsz : OpsSz xs) (hb : mayR s n xs = 0) :
    Calls Tryz.prog 8 #[.pointer (some ⟨b, 0, none⟩), .agg #[.int .i64 s, .int .i64 n, v]] w fun e w' => MakeOk w w' s n xs (fT sh mv xs) sh e ∧ Ext w w' := by
  have HM := Lib.hid (fun W (k : Ext w W) => may_any s n v xs W (hG.ext k) (ho.ext k) hsz)
  rw [hb] at HM
  obtain ⟨hx0, hx16⟩ := mayR_len hb
  have HCL := Lib.hid (fun W (k : Ext w W) => opsClone_any v xs W (ho.ext k) hx0 (by omega))
  have HSPL := Lib.hid (fun ov W (k : Ext w W) (hov : OpsAt W ov xs) => rouSplit_any b m sh mv ov xs W (h.ext k) (hG.gl.ext k) hov hsz (by omega))
  have HSH := Lib.hid (And.intro h.ok.sh1 h.ok.sh4)
  obtain ⟨a, c, rfl⟩ := ops_slice ho
  clear hb ho hsz hG h
  obtain ⟨W1, hW1⟩ : ∃ W1, (w.alloc (.cells #[.int .i64 s, .int .i64 n, .slice a xs.length c] 25)).alloc (.cells #[.int .i64 0, .int .i64 0, .slice none 0 0, .slice none 0 0, .slice none 0 0] plT) = W1 := ⟨_, rfl⟩
  obtain ⟨hx1, bq, br⟩ := mk_start w W1 s n _ hW1
  have q0 := bq.cell 0 _ rfl
  have q1 := bq.cell 1 _ rfl
  have q2 := bq.cell 2 _ rfl
  have HX1 := Lib.hid hx1
  have HBR := Lib.hid br
  have HBQ := Lib.hid bq
  clear hx1 bq br
  go_enter Tryz.func8, Tryz.ntmps8
  go_wp2_with (fail)
  refine (HM.out W1 HX1.out).mono ?_
  rintro e w2 ⟨rfl, hx2⟩
  have bq2 := HBQ.out.kp hx2 (fun f => f)
  have q2 := bq2.cell 2 _ rfl
  have HX2 := Lib.hid hx2
  clear hx2 bq2
  go_wp2_with (fail)
  refine (HCL.out w2 (HX1.out.ext HX2.out)).mono ?_
  rintro e w3 ⟨ov, rfl, hov, hnew, hx3⟩
  obtain ⟨oa, oc, rfl⟩ := ops_slice hov
  have bq3 := (HBQ.out.kp HX2.out (fun f => f)).kp hx3 (fun f => f)
  have r0 := bq3.cell 0 _ rfl
  have r1 := bq3.cell 1 _ rfl
  have r2 := bq3.cell 2 _ rfl
  have f2 := bq3.free 2
  obtain ⟨w4, hW4⟩ : ∃ w4, w3.setCell ⟨w.heap.size, 2, none⟩ (.slice oa xs.length oc) = w4 := ⟨_, rfl⟩
  have bq4 : Blk w4 w.heap.size #[.int .i64 s, .int .i64 n, .slice oa xs.length oc] 25 := by rw [← hW4]; exact bq3.set 2 _
  have s0 := bq4.cell 0 _ rfl
  have s1 := bq4.cell 1 _ rfl
  have s2 := bq4.cell 2 _ rfl
  obtain ⟨w5, hW5⟩ : ∃ w5, w4.alloc (.cells #[.int .i64 s, .int .i64 n, .slice oa xs.length oc, .slice none 0 0, .slice none 0 0] plT) = w5 := ⟨_, rfl⟩
  have hk34 : Kp (fun i => i = w.heap.size) w3 w4 := by rw [← hW4]; exact (Kp.refl _ _).set1 _ 2 _ rfl
  have hk45 : Ext w4 w5 := by rw [← hW5]; exact (Kp.refl _ _).alloc _
  have sz4 : w4.heap.size = w3.heap.size := by rw [← hW4]; simp [World.setCell]
  have z1 : w1sz w W1 := by unfold w1sz; rw [← hW1]; simp
  have z2 := HX2.out.size
  have z3 := hx3.size
  have z5 : w5.heap.size = w4.heap.size + 1 := by rw [← hW5]; simp
  have bg5 : Blk w5 w4.heap.size #[.int .i64 s, .int .i64 n, .slice oa xs.length oc, .slice none 0 0, .slice none 0 0] plT := by rw [← hW5]; exact heap_alloc_new w4 _
  have br5 := (((HBR.out.kp HX2.out (fun f => f)).kp hx3 (fun f => f)).kp hk34 (by omega)).kp hk45 (fun f => f)
  have bq5 := bq4.kp hk45 (fun f => f)
  have t2 := bq5.cell 2 _ rfl
  have hov4 := hov.kp hk34 (fun i hi _ e => by have := (hnew i hi).1; unfold w1sz at z1; omega)
  have hov5 := hov4.ext hk45
  have hx5 : Ext w w5 := (((HX1.out.ext HX2.out).ext hx3).next hk34 (fun i hi e => by omega)).ext hk45
  have HX5 := Lib.hid hx5
  have HOV5 := Lib.hid hov5
  have HNEW := Lib.hid hnew
  have HBG5 := Lib.hid bg5
  have HBR5 := Lib.hid br5
  have HZ := Lib.hid (And.intro z1 (And.intro z2 (And.intro z3 (And.intro sz4 z5))))
  have HW5 := Lib.hid hW5
  clear hW5 hx3 hov hnew bq3 bq4 bq5 hk34 hk45 sz4 z1 z2 z3 z5 bg5 br5 hov4 hov5 hx5
  go_upto_region 6 with (fail)
  rw [HW5.out]
  go_wp2_with (fail)
  refine (HSPL.out _ w5 HX5.out HOV5.out).mono ?_
  rintro e wS ⟨rows, rfl, hrows, hrnew, hxS⟩
  have HRO := Lib.hid hrows
  have HRN := Lib.hid hrnew
  have HXS := Lib.hid hxS
  clear hrows hrnew hxS
  have hst : MkSt w wS wS (w.heap.size + 1) w4.heap.size s n (.slice oa xs.length oc) (.slice none 0 0) (.slice none 0 0) (shardsOf (fT sh mv xs) xs.length 0) [] := by
    obtain ⟨z1, z2, z3, z4, z5⟩ := HZ.out
    unfold w1sz at z1
    have z6 := HXS.out.size
    exact ⟨HBR5.out.kp HXS.out (fun f => f), HBG5.out.kp HXS.out (fun f => f), ⟨rfl, .inl ⟨rfl, rfl⟩⟩, ⟨rfl, .inl ⟨rfl, rfl⟩⟩, fun i hi => by simp [Value.ownBlock] at hi, HX5.out.ext HXS.out, Kp.refl _ _, by omega, by omega, by omega⟩
  have HST := Lib.hid hst
  clear hst
  go_wp2_with (fail)
  clear hW1 hW4 q0 q1 q2 r0 r1 r2 f2 s0 s1 s2 t2
  go_loopw [27] (fun i W => MkRel w wS (w.heap.size + 1) w4.heap.size s n (.slice oa xs.length oc) (fT sh mv xs) xs.length sh i W) (fun i _ => sh - (intOf i).toNat)
  case atStart => exact ⟨0, Nat.zero_le _, rfl, _, _, [], HST.out, rfl, fun j h1 => absurd h1 (Nat.not_lt_zero _), fun x hx => by cases hx⟩
  case round =>
    obtain ⟨k, hk, rfl, sv, plv, vs, hst, hvl, hin, hng⟩ := hrel
    clear HST
    have HST := Lib.hid hst
    have HVL := Lib.hid hvl
    have HIN := Lib.hid hin
    have HNG := Lib.hid hng
    clear hst hvl hin hng
    by_cases hlt : k < sh
    · obtain ⟨hkv, ra, rc, hrow, hcell, hnr, hbS⟩ := HRO.out.at k (by rw [splL_len]; exact hlt)
      rw [splL_get] at hrow hcell hnr
      have hcW := HST.out.kp.cell hcell (fun e => by obtain ⟨z1, z2, z3, z4, z5⟩ := HZ.out; simp only at e; omega)
      have HNR := Lib.hid hnr
      have k1 : (k : Int) < sh := by omega
      have hrg : ∀ i, (Value.slice ra (splitTo (fT sh mv xs) xs.length k).length rc).ownBlock = some i → w4.heap.size < i := by
        intro i hi
        obtain ⟨z1, z2, z3, z4, z5⟩ := HZ.out
        have := HRN.out _ (List.getElem_mem hkv) i (by rw [hrow]; exact hi)
        omega
      have HRG := Lib.hid hrg
      clear hrow hcell hnr hbS hrg
      obtain ⟨sl, hsl⟩ : ∃ sl, (splitTo (fT sh mv xs) xs.length k).length = sl := ⟨_, rfl⟩
      have HRW := Lib.hid (rfl : (Value.slice ra (splitTo (fT sh mv xs) xs.length k).length rc) = _)
      rw [hsl] at hcW HRG HNR
      clear HRW
      by_cases h0 : splitTo (fT sh mv xs) xs.length k = []
      · have hs0 : sl = 0 := by rw [← hsl, h0]; rfl
        have h1 : ¬ (0 < (sl : Int)) := by omega
        have HR : Hid (MkRel w wS (w.heap.size + 1) w4.heap.size s n (.slice oa xs.length oc) (fT sh mv xs) xs.length sh (.int .i64 ((k + 1 : Nat) : Int)) wr) :=
          ⟨k + 1, by omega, rfl, sv, plv, vs, by rw [shardsK_none h0]; exact HST.out, by rw [placesK_none h0]; exact HVL.out, by rw [placesK_none h0]; exact HIN.out, HNG.out⟩
        have hk4 : k < 4 := by have := HSH.out; omega
        clear h0 hsl hs0 HST HVL HIN HNG
        go_wp2_with (fail)
        go_light
        exact ⟨HR.out, by simp [intOf]; omega⟩
      · have hs0 : 1 ≤ sl := by rw [← hsl]; exact List.length_pos_iff.2 h0
        have h1 : (0 < (sl : Int)) := by omega
        obtain ⟨a3, c3, rfl⟩ := owns_slice HST.out.own1
        obtain ⟨a4, c4, rfl⟩ := owns_slice HST.out.own2
        have b3 := HST.out.blk.cell 3 _ rfl
        have b4 := HST.out.blk.cell 4 _ rfl
        have f3 := HST.out.blk.free 3
        have f4 := HST.out.blk.free 4
        have hone1 := nat_one [k]
        have HLS : Hid ((shardsOf (fT sh mv xs) xs.length k).length ≤ 1000) := by
          show _ ≤ _
          have := shardsOf_len (fT sh mv xs) xs.length k
          have := HSH.out
          omega
        have HVS : Hid (vs.length ≤ 1000) := by
          show _ ≤ _
          have h2 : (placesOf (fT sh mv xs) xs.length k).length = (shardsOf (fT sh mv xs) xs.length k).length := by simp [placesOf]
          have := HVL.out
          have := HLS.out
          omega
        have H0 := Lib.hid h0
        have HSL := Lib.hid hsl
        obtain ⟨ss, hss⟩ : ∃ ss, shardsOf (fT sh mv xs) xs.length k = ss := ⟨_, rfl⟩
        rw [hss] at HST HLS b3
        have HSS := Lib.hid hss
        have hsz := HST.out.kp.size
        clear h0 hsl hss
        go_wp2_with (at_builtin; refine wpList_appAt isT inT 1 (by decide) is_facts rfl _ _ rfl wS.heap.size _ _ _ rfl (ownsRow.ext HST.out.own1 ((Kp.refl _ wr).alloc _)) wr.heap.size 1 ([k].map natV) rfl (heap_alloc_new wr _) rfl hone1 ?c1 ?c2 ?_)
        case c1 => have := HLS.out; omega
        case c2 => simp; omega
        intro v1 w6 g1 k2 g3
        have hst6 := (HST.out.exts ((Kp.refl _ wr).alloc (.cells ([k].map natV).toArray inT))).stepS (k := k) g1 k2 (by rw [World.size_alloc]; exact g3)
        obtain ⟨a5, c5, rfl⟩ := owns_slice g1
        have hblk6 := (HST.out.exts ((Kp.refl _ wr).alloc (.cells ([k].map natV).toArray inT))).blk.kp k2 (fun e => by have := (own_in HST.out.own1 e).1; have := HST.out.h3; omega)
        have c3' := hblk6.cell 3 _ rfl
        have f3' := hblk6.free 3
        obtain ⟨W2, hW2⟩ : ∃ W2, w6.setCell ⟨w4.heap.size, 3, none⟩ (.slice a5 (ss.length + 1) c5) = W2 := ⟨_, rfl⟩
        rw [hW2] at hst6
        have HST6 := Lib.hid hst6
        have b4' := hst6.blk.cell 4 _ rfl
        have f4' := hst6.blk.free 4
        have hsz2 := hst6.kp.size
        clear g1 k2 g3 hst6 hblk6 b3 b4 f3 f4 HST hcW hone1
        have hone2 : ∀ y ∈ [Value.slice ra sl rc], y.oneCell' = true := by intro y hy; simp only [List.mem_singleton] at hy; subst hy; rfl
        go_wp2_with (at_builtin; refine wpList_appAt issT isT 1 (by decide) iss_facts rfl _ _ rfl wS.heap.size _ _ _ rfl (ownsRow.ext HST6.out.own2 ((Kp.refl _ W2).alloc _)) W2.heap.size 1 [Value.slice ra sl rc] rfl (heap_alloc_new W2 _) rfl hone2 ?c1 ?c2 ?_)
        case c1 => have := HVS.out; omega
        case c2 => simp; omega
        intro v2 w7 g1 k2 g3
        have hst7 := (HST6.out.exts ((Kp.refl _ W2).alloc (.cells ([Value.slice ra sl rc]).toArray isT))).stepP (y := Value.slice ra sl rc) g1 k2 (by rw [World.size_alloc]; exact g3)
        obtain ⟨a6, c6, rfl⟩ := owns_slice g1
        have hblk7 := (HST6.out.exts ((Kp.refl _ W2).alloc (.cells ([Value.slice ra sl rc]).toArray isT))).blk.kp k2 (fun e => by have := (own_in HST6.out.own2 e).1; have := HST6.out.h3; omega)
        have c4' := hblk7.cell 4 _ rfl
        have f4'' := hblk7.free 4
        obtain ⟨W3, hW3⟩ : ∃ W3, w7.setCell ⟨w4.heap.size, 4, none⟩ (.slice a6 (vs.length + 1) c6) = W3 := ⟨_, rfl⟩
        rw [hW3] at hst7
        have HR : Hid (MkRel w wS (w.heap.size + 1) w4.heap.size s n (.slice oa xs.length oc) (fT sh mv xs) xs.length sh (.int .i64 ((k + 1 : Nat) : Int)) W3) := by
          refine ⟨k + 1, by omega, rfl, _, _, vs ++ [Value.slice ra sl rc], by rw [shardsK_some H0.out, HSS.out]; exact hst7, by rw [placesK_some H0.out, List.length_append, List.length_append, HVL.out]; rfl, ?_, ?_⟩
          · rw [placesK_some H0.out]
            intro j h1 h2
            have hl := HVL.out
            by_cases hj : j < vs.length
            · rw [List.getElem_append_left hj, List.getElem_append_left (by omega)]
              exact HIN.out j hj (by omega)
            · rw [List.length_append, List.length_singleton] at h1
              rw [List.getElem_append_right (by omega), List.getElem_append_right (by omega)]
              simp only [List.getElem_singleton]
              exact HNR.out
          · intro x hx i hi
            rcases List.mem_append.1 hx with hx | hx
            · exact HNG.out x hx i hi
            · simp only [List.mem_singleton] at hx
              subst hx
              exact HRG.out i hi
        have hk4 : k < 4 := by have := HSH.out; omega
        clear g1 k2 g3 hst7 hblk7 b4' f4' c3' f3' HST6 hone2
        go_wp2_with (fail)
        go_light
        exact ⟨HR.out, by simp [intOf]; omega⟩
    · have hke : k = sh := by have := HSH.out; omega
      have k1 : ¬ (k : Int) < sh := by omega
      have hst := HST.out
      have hvl := HVL.out
      have hin := HIN.out
      rw [hke] at hst hvl hin
      clear HST HVL HIN
      have HST := Lib.hid hst
      have HVL := Lib.hid hvl
      have HIN := Lib.hid hin
      clear hst hvl hin
      clear hke hk hlt HSPL HRO HRN
      obtain ⟨a3, c3, rfl⟩ := owns_slice HST.out.own1
      obtain ⟨a4, c4, rfl⟩ := owns_slice HST.out.own2
      have b0 := HST.out.blk.cell 0 _ rfl
      have b1 := HST.out.blk.cell 1 _ rfl
      have b2 := HST.out.blk.cell 2 _ rfl
      have b3 := HST.out.blk.cell 3 _ rfl
      have b4 := HST.out.blk.cell 4 _ rfl
      have g0 := HST.out.bgr.cell 0 _ rfl
      have g1 := HST.out.bgr.cell 1 _ rfl
      have g2 := HST.out.bgr.cell 2 _ rfl
      have g3 := HST.out.bgr.cell 3 _ rfl
      have g4 := HST.out.bgr.cell 4 _ rfl
      have p0 := HST.out.bgr.free 0
      have p1 := HST.out.bgr.free 1
      have p2 := HST.out.bgr.free 2
      have p3 := HST.out.bgr.free 3
      have p4 := HST.out.bgr.free 4
      have HF := Lib.hid (HST.out.fin (HOV5.out.ext HXS.out) (fun i hi => by
        obtain ⟨z1, z2, z3, z4, z5⟩ := HZ.out
        unfold w1sz at z1
        have := HNEW.out i hi
        omega) HVL.out HIN.out HNG.out (.int .i64 s) (.int .i64 n) (.slice oa xs.length oc) (.slice a3 (shardsOf (fT sh mv xs) xs.length sh).length c3) (.slice a4 vs.length c4))
      clear HST HVL HIN HNG HBG5 HBR5 HOV5 HX5 HXS
      go_wp2_with (fail)
      go_light
      exact bodyPost_ret (v := .tuple #[.agg #[.int .i64 s, .int .i64 n, .slice oa xs.length oc, .slice a3 (shardsOf (fT sh mv xs) xs.length sh).length c3, .slice a4 vs.length c4], .int .i64 0]) (by simp [results, Tryz.results8, go_sem, g0, g1, g2, g3, g4]) rfl ⟨⟨_, _, _, rfl, HF.out.1⟩, HF.out.2⟩
end Go.Proofs.YtmgnndhhpnedkaaGreatDoor
