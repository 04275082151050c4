/- Walks of package plan: Index of numbers, Ops. -/
import Derived.Test.YtmgnndhhpnedkaaGreatDoorAvWVer
import Derived.Test.YtmgnndhhpnedkaaGreatDoorAvDag
namespace Go.Proofs.YtmgnndhhpnedkaaGreatDoor
set_option maxRecDepth 100000
open Go.RowKit Av

def eqN (x : Int) (y : Nat) : Bool := decide ((y : Int) = x)
def IxN (ss : List Nat) (x : Int) (i : Value) : Prop := ∃ k : Nat, k ≤ ss.length ∧ i = .int .i64 k ∧ ∀ y ∈ ss.take k, eqN x y = false
set_option maxHeartbeats 800000 in
theorem index_any (v : Value) (x : Int) (ss : List Nat) (w : World) (h : NatsR w v ss) :
    Calls Tryz.prog 38 #[v, .int .i64 x] w fun e w' => e = .returned (.int .i64 (idxP (eqN x) ss)) ∧ w = w' := by
  obtain ⟨a, c, rfl, hcc, hm, hop⟩ := h.open
  have HO := Lib.hid hop
  unfold maxLen at hm
  clear h hop
  go_enter Tryz.func38, Tryz.ntmps38
  go_wp2_with (fail)
  go_loop [8] (fun i => IxN ss x i) (fun i => ss.length - (intOf i).toNat)
  case atStart => exact ⟨0, Nat.zero_le _, rfl, by simp⟩
  case round =>
    obtain ⟨k, hk, rfl, hnone⟩ := hrel
    have HN := Lib.hid hnone
    clear hnone
    by_cases hlt : k < ss.length
    · obtain ⟨b, off, rfl, _, hc⟩ := HO.out (by omega)
      have c0 := hc k hlt
      have k1 : (k : Int) < ss.length := by omega
      clear hc
      by_cases hb : (ss[k] : Int) = x
      · have HE : Hid (idxP (eqN x) ss = k) := by
          show _ = _
          rw [idxP_at hlt HN.out (by unfold eqN; rw [decide_eq_true_iff]; exact hb)]
        have e1 : (x == (ss[k] : Int)) = true := by rw [beq_iff_eq]; exact hb.symm
        generalize (ss[k] : Int) = y at c0 e1
        clear hb
        go_wp2_with (fail)
        go_ret
        exact ⟨ret_val (by rw [HE.out]; rfl), rfl⟩
      · have HB : Hid (∀ y ∈ ss.take (k + 1), eqN x y = false) := take_allP hlt HN.out (by unfold eqN; rw [decide_eq_false_iff_not]; exact hb)
        have e1 : (x == (ss[k] : Int)) = false := beq_eq_false_iff_ne.2 (fun e => hb e.symm)
        generalize (ss[k] : Int) = y at c0 e1
        clear hb
        go_wp2_with (fail)
        go_light
        exact ⟨⟨k + 1, by omega, by go_num, HB.out⟩, by simp [intOf]; omega⟩
    · have hall : ∀ y ∈ ss, eqN x y = false := by
        have := HN.out
        rwa [List.take_of_length_le (by omega)] at this
      have HE := Lib.hid (idxP_none hall)
      have k1 : ¬ (k : Int) < ss.length := by omega
      clear hall HN
      go_wp2_with (fail)
      go_ret
      exact ⟨ret_val (by rw [HE.out]; rfl), rfl⟩
/-- The ops at some places. -/
def opsSel (xs : List OpV) (l : List Nat) : List OpV := l.filterMap fun k => xs[k]?
theorem opsSel_in {xs : List OpV} {l : List Nat} {k : Nat} (hk : k < l.length) (h : l[k] < xs.length) : opsSel xs (l.take (k + 1)) = opsSel xs (l.take k) ++ [xs[l[k]]] := by
  unfold opsSel
  rw [List.take_succ_eq_append_getElem hk, List.filterMap_append]
  simp [List.getElem?_eq_getElem h]
theorem opsSel_out {xs : List OpV} {l : List Nat} {k : Nat} (hk : k < l.length) (h : ¬ l[k] < xs.length) : opsSel xs (l.take (k + 1)) = opsSel xs (l.take k) := by
  unfold opsSel
  rw [List.take_succ_eq_append_getElem hk, List.filterMap_append]
  simp [List.getElem?_eq_none (show xs.length ≤ l[k] by omega)]
theorem opsSel_len (xs : List OpV) (l : List Nat) : (opsSel xs l).length ≤ l.length := List.length_filterMap_le _ _
/-- A shard's places in a plan. -/
def rowOf (ss : List Nat) (pl : List (List Nat)) (x : Int) : List Nat := plAt pl (idxP (eqN x) ss)
def PoRel (w5 : World) (xs : List OpV) (l : List Nat) (v i : Value) (W : World) : Prop :=
  ∃ k : Nat, k ≤ l.length ∧ i = .int .i64 k ∧ W.ownsRow w5.heap.size opT 5 v (opsSel xs (l.take k)).length ((opsSel xs (l.take k)).flatMap OpV.cells) ∧ Ext w5 W
set_option maxHeartbeats 1600000 in
theorem planOps_any (s n x : Int) (ov sv plv : Value) (xs : List OpV) (ss : List Nat) (pl : List (List Nat)) (w : World) (h : PlanR w ov sv plv xs ss pl) (hx20 : (rowOf ss pl x).length ≤ 1000) :
    Calls Tryz.prog 16 #[planV s n ov sv plv, .int .i64 x] w fun e w' => ∃ v, e = .returned v ∧ OpsAt w' v (opsSel xs (rowOf ss pl x)) ∧ Ext w w' := by
  have HIX := Lib.hid (fun W (k : Ext w W) => index_any sv x ss W (h.shs.ext k))
  have HPL := Lib.hid (fun W (k : Ext w W) => places_any s n (idxP (eqN x) ss) ov sv plv xs ss pl W (h.ext k))
  have HRO : Hid (plAt pl (idxP (eqN x) ss) = rowOf ss pl x) := rfl
  have HOP := Lib.hid h.ops
  obtain ⟨⟨a1, c1, rfl⟩, ⟨a2, c2, rfl⟩, a3, c3, rfl⟩ := h.open
  generalize idxP (eqN x) ss = ix at HIX HPL HRO
  rw [HRO.out] at HPL
  clear HRO h
  generalize rowOf ss pl x = l at *
  unfold planV at HPL ⊢
  obtain ⟨wB, hWB⟩ : ∃ wB, w.alloc (.cells #[.int .i64 s, .int .i64 n, .slice a1 xs.length c1, .slice a2 ss.length c2, .slice a3 pl.length c3] plT) = wB := ⟨_, rfl⟩
  have hxB : Ext w wB := by rw [← hWB]; exact (Kp.refl _ _).alloc _
  have hbB : Blk wB w.heap.size #[.int .i64 s, .int .i64 n, .slice a1 xs.length c1, .slice a2 ss.length c2, .slice a3 pl.length c3] plT := by rw [← hWB]; exact heap_alloc_new w _
  have HB := Lib.hid hbB
  have HXB := Lib.hid hxB
  have HWB := Lib.hid hWB
  clear hWB hxB hbB
  go_enter Tryz.func16, Tryz.ntmps16
  go_upto_region 2 with (fail)
  rw [HWB.out]
  refine' wp_region_dag0 ((8, .val _) :: (9, .val _) :: (10, .val _) :: (11, .val _) :: (12, .val _) :: (13, ⟨fun v => ∃ a c, v = .slice a l.length c, fun v w => NatsR w v l⟩) :: (14, .val _) :: (15, .val _) :: []) (by exact ⟨fun _ _ _ _ _ => trivial, ⟨fun _ _ _ _ _ => trivial, ⟨fun _ _ _ _ _ => trivial, ⟨fun _ _ _ _ _ => trivial, ⟨fun _ _ _ _ _ => trivial, ⟨fun _ _ _ hr hv => hv.ext hr, ⟨fun _ _ _ _ _ => trivial, ⟨fun _ _ _ _ _ => trivial, trivial⟩⟩⟩⟩⟩⟩⟩⟩) (by kernel_rfl) (by kernel_rfl) (by kernel_rfl) ?_
  rotate_left 7
  repeat (first
    | (refine wpD_skipv ?_ ?_ ?_
       focus rfl
       focus rfl
       simp only [Act.put, List.setIfInBounds_toArray, List.set_cons_succ, List.set_cons_zero])
    | (refine' wpD_val (c := _) ?_ (fun w => Kp.refl _ w) ?_ (fun wq hwq hfq => ?_) ?_
       rotate_left
       focus rfl
       focus rfl
       focus ((have hb := HB.out.kp hwq (fun f => f); have q0 := hb.cell 0 _ rfl; have q1 := hb.cell 1 _ rfl; have q2 := hb.cell 2 _ rfl; have q3 := hb.cell 3 _ rfl; have q4 := hb.cell 4 _ rfl); go_simp; first | done | rfl)
       simp only [Act.put, List.setIfInBounds_toArray, List.set_cons_succ, List.set_cons_zero])
    | (refine' wpD_con (c := _) ?_ ?_ (fun wq hwq hfq => ?_) ?_
       rotate_left
       focus rfl
       focus rfl
       focus ((have hb := HB.out.kp hwq (fun f => f); have q0 := hb.cell 0 _ rfl; have q1 := hb.cell 1 _ rfl; have q2 := hb.cell 2 _ rfl; have q3 := hb.cell 3 _ rfl; have q4 := hb.cell 4 _ rfl); go_simp; (try (rw [dUpon_enter])); ((with_reducible refine (HIX.out _ (HXB.out.ext hwq)).mono ?_); rintro e w' ⟨rfl, rfl⟩; exact DEnd.con (Kp.refl _ _)))
       simp only [Act.put, List.setIfInBounds_toArray, List.set_cons_succ, List.set_cons_zero])
    | (refine wpD_made (A := fun v => ∃ a c, v = .slice a l.length c) (V := fun v w => NatsR w v l) 13 ?_ ?_ ?_ ?_ (fun wq hwq hfq => ?_) (fun v13 h13 => ?_)
       focus rfl
       focus rfl
       focus (exact ⟨.slice none l.length 0, none, 0, rfl⟩)
       focus rfl
       focus ((have hb := HB.out.kp hwq (fun f => f); have q0 := hb.cell 0 _ rfl; have q1 := hb.cell 1 _ rfl; have q2 := hb.cell 2 _ rfl; have q3 := hb.cell 3 _ rfl; have q4 := hb.cell 4 _ rfl); go_simp; (try (rw [dUpon_enter])); (with_reducible refine (HPL.out _ (HXB.out.ext hwq)).mono ?_); rintro e w' ⟨v, rfl, hn, hx⟩; exact DEnd.made (by obtain ⟨a, c, e, _⟩ := hn.open; exact ⟨a, c, e⟩) hn hx)
       obtain ⟨a13, c13, rfl⟩ := h13
       simp only [Act.put, List.setIfInBounds_toArray, List.set_cons_succ, List.set_cons_zero])
    | fail)
  refine wpD_nil ?_
  intro w5 hx5 hend
  have hnr : NatsR w5 (.slice a13 l.length c13) l := hend 13 (by kernel_rfl)
  clear hend HIX HPL
  have HB5 := Lib.hid (HB.out.kp hx5 (fun f => f))
  have HX5 := Lib.hid (HXB.out.ext hx5)
  have HNR := Lib.hid hnr
  clear hx5 hnr HB HXB HWB
  go_wp2_with (fail)
  go_loopw [5, 15] (fun v i W => PoRel w5 xs l v i W) (fun _ i _ => l.length - (intOf i).toNat)
  case atStart => exact ⟨0, Nat.zero_le _, rfl, ⟨rfl, .inl ⟨rfl, rfl⟩⟩, Kp.refl _ _⟩
  case round =>
    obtain ⟨k, hk, rfl, hown, hxr⟩ := hrel
    obtain ⟨va, vc, rfl⟩ := owns_slice hown
    have HOWN := Lib.hid hown
    have HXR := Lib.hid hxr
    have hbr := HB5.out.kp hxr (fun f => f)
    have q2 := hbr.cell 2 _ rfl
    have HNK := Lib.hid (HNR.out.ext hxr)
    have HOK := Lib.hid (HOP.out.ext (HX5.out.ext hxr))
    clear hown hxr hbr
    have hk1000 : k ≤ 1000 := by omega
    by_cases hlt : k < l.length
    · have k1 : (k : Int) < l.length := by omega
      obtain ⟨la, lc, e4, hlcc, hlm, hlo⟩ := HNK.out.open
      simp only [Value.slice.injEq, true_and] at e4
      obtain ⟨rfl, rfl⟩ := e4
      obtain ⟨lb, loff, rfl, _, hlcell⟩ := hlo (by omega)
      have hnc := hlcell k hlt
      have HIN : ∀ h : l[k] < xs.length, Hid (opsSel xs (l.take (k + 1)) = opsSel xs (l.take k) ++ [xs[l[k]]]) := fun h => opsSel_in hlt h
      have HOUT : ¬ l[k] < xs.length → Hid (opsSel xs (l.take (k + 1)) = opsSel xs (l.take k)) := fun h => opsSel_out hlt h
      have hlen : (opsSel xs (l.take k)).length ≤ k := Nat.le_trans (opsSel_len _ _) (by rw [List.length_take]; omega)
      have HLEN := Lib.hid hlen
      have hng : (0 : Int) ≤ (l[k] : Int) := by omega
      generalize l[k] = nv at hnc HIN HOUT hng
      generalize opsSel xs (l.take k) = sel at *
      clear hlo hlcell hlcc hlm hlen
      by_cases hin : nv < xs.length
      · have k3 : (nv : Int) < xs.length := by omega
        obtain ⟨oa, oc, e5, _, _, hoo⟩ := OpsAt.open HOK.out
        simp only [Value.slice.injEq, true_and] at e5
        obtain ⟨rfl, rfl⟩ := e5
        obtain ⟨ob, ooff, rfl, _, hoc⟩ := hoo (by omega)
        obtain ⟨o0, o1, o2, o3, o4⟩ := hoc nv hin
        have HN := HIN hin
        have HO1 : Hid (∀ y ∈ xs[nv].cells, y.oneCell' = true) := by
          show ∀ _, _
          have := op_one [xs[nv]]
          simpa using this
        generalize xs[nv] = o at o0 o1 o2 o3 o4 HN HO1
        have hone := HO1.out
        have e2 : (sel.flatMap OpV.cells).length = sel.length * 5 := rows_len OpV.cells 5 (fun _ => rfl) sel
        have hsl := HLEN.out
        clear hoo hoc HIN HOUT
        go_wp2_with (at_builtin; refine wpList_appAt opsT opT 5 (by decide) op_facts rfl _ _ rfl w5.heap.size _ _ _ rfl (ownsRow.ext HOWN.out ((Kp.refl _ wr).alloc _)) wr.heap.size 1 o.cells rfl (heap_alloc_new wr _) rfl hone ?c1 ?c2 ?_)
        case c1 => omega
        case c2 => have := HXR.out.size; rw [World.size_alloc]; omega
        intro v1 w6 g1 g2 g3
        have hx6 : Ext w5 w6 := ((HXR.out).alloc _).next g2 (fun i hi e => by have := (own_in HOWN.out e).1; omega)
        have HX6 := Lib.hid hx6
        have HG1 := Lib.hid g1
        obtain ⟨a6, c6, rfl⟩ := owns_slice g1
        clear g1 g2 g3 hx6 hone e2 hsl
        go_wp2_with (fail)
        go_light
        exact ⟨⟨k + 1, by omega, by go_num, by rw [HN.out, flatMap_snoc, List.length_append]; exact HG1.out, HX6.out⟩, by simp [intOf]; omega⟩
      · have k3 : ¬ (nv : Int) < xs.length := by omega
        have HN := HOUT hin
        clear HIN HOUT
        go_wp2_with (fail)
        go_light
        exact ⟨⟨k + 1, by omega, by go_num, by rw [HN.out]; exact HOWN.out, HXR.out⟩, by simp [intOf]; omega⟩
    · have hke : k = l.length := by omega
      have k1 : ¬ (k : Int) < l.length := by omega
      have HF : Hid (OpsAt wr (.slice va (opsSel xs (l.take k)).length vc) (opsSel xs l)) := by
        have ho := HOWN.out
        rw [hke, List.take_of_length_le (Nat.le_refl _)] at ho ⊢
        exact ⟨Sl.of_owns ho, shp_owns ho⟩
      generalize (opsSel xs (l.take k)).length = sl at HF
      clear hke hlt HOWN
      go_wp2_with (fail)
      go_ret
      exact ⟨_, rfl, HF.out, HX5.out.ext HXR.out⟩
end Go.Proofs.YtmgnndhhpnedkaaGreatDoor
