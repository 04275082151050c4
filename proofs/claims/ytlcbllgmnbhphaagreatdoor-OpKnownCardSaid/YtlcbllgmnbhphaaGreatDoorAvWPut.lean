/- Walks: op.Put. -/
import Derived.Test.YtlcbllgmnbhphaaGreatDoorAvWPack
import Derived.Test.YtlcbllgmnbhphaaGreatDoorAvWReqC
import Derived.Deep.RegionHeld3
namespace Go.Proofs.YtlcbllgmnbhphaaGreatDoor
set_option maxRecDepth 100000
open Go.RowKit Av

def encO (o : OpV) : Bs := be8 o.kind ++ (txt o.path.data.toList ++ (txt o.data.data.toList ++ (be8 o.ver ++ be8 o.flags)))
def encR (s n : Int) (xs : List OpV) : Bs := be8 s ++ (be8 n ++ (be8 (xs.length : Int) ++ xs.flatMap encO))
def putR (s n : Int) (xs : List OpV) : Bs := if mayR s n xs = 0 then encR s n xs else []
theorem txt_len (s : Bs) : (txt s).length = 8 + s.length := by unfold txt; rw [List.length_append, be8_len]
theorem encO_len (o : OpV) : (encO o).length = 40 + o.path.size + o.data.size := by
  unfold encO
  simp only [List.length_append, be8_len, txt_len, ← Lib.size_eq]
  omega
theorem encs_len (xs : List OpV) (h : ∀ o ∈ xs, goodO o = 0) : (xs.flatMap encO).length ≤ 1240 * xs.length := by
  induction xs with
  | nil => simp
  | cons o xs ih =>
    rw [List.flatMap_cons, List.length_append, encO_len, List.length_cons]
    have h1 := good_kind (h o List.mem_cons_self)
    have h2 := path_small o.path h1.2.2.1
    have h3 := ih (fun x hx => h x (List.mem_cons_of_mem _ hx))
    omega
/-- The loop that writes ops: so many are written. -/
def PutsRel (w : World) (base : Nat) (s n : Int) (xs : List OpV) (o i : Value) (wr : World) : Prop :=
  ∃ k : Nat, k ≤ xs.length ∧ i = .int .i64 k ∧ OwnBy wr base o (be8 s ++ (be8 n ++ (be8 (xs.length : Int) ++ (xs.take k).flatMap encO))) ∧ Ext w wr
/-- Text and I64 behind what a call owns. -/
theorem own_text (v : Value) (bs : Bs) (s : ByteArray) (w0 w : World) (base : Nat) (hb : OwnBy w base v bs) (hx : Ext w0 w) (hl : bs.length ≤ 10000000) (hs : s.size ≤ 10000000) (hbase : base ≤ w.heap.size) :
    Calls Tryz.prog 30 #[v, .string s] w fun e w' => ∃ v, e = .returned v ∧ OwnBy w' base v (bs ++ txt s.data.toList) ∧ Ext w0 w' ∧ base ≤ w'.heap.size ∧ (bs ++ txt s.data.toList).length = bs.length + 8 + s.size :=
  (packText_any v bs s w hb.bytes (by omega) (by omega)).mono fun _ _ ⟨v, h1, h2, h3⟩ => ⟨v, h1, h2.low hbase, hx.ext h3, by have := h3.size; omega, by rw [List.length_append, txt_len, ← Lib.size_eq]; omega⟩
theorem own_i64 (v : Value) (bs : Bs) (z : Int) (w0 w : World) (base : Nat) (hb : OwnBy w base v bs) (hx : Ext w0 w) (hl : bs.length ≤ 10000000) (hbase : base ≤ w.heap.size) :
    Calls Tryz.prog 29 #[v, .int .i64 z] w fun e w' => ∃ v, e = .returned v ∧ OwnBy w' base v (bs ++ be8 z) ∧ Ext w0 w' ∧ base ≤ w'.heap.size ∧ (bs ++ be8 z).length = bs.length + 8 :=
  (packI64_any v bs z w hb.bytes (by omega)).mono fun _ _ ⟨v, h1, h2, h3⟩ => ⟨v, h1, h2.low hbase, hx.ext h3, by have := h3.size; omega, by rw [List.length_append, be8_len]⟩
/-- All over numbers that are written out in the call. -/
theorem all_lit (v : Value) (bs : Bs) (zs : List Int) (w : World) (hb : BytesR w v bs) (hl : bs.length ≤ 10000000) (hn : zs.length ≤ 1000) :
    Calls Tryz.prog 28 #[v, .slice (some ⟨w.heap.size, 0, none⟩) zs.length zs.length] (w.alloc (.cells (zs.map (Value.int .i64)).toArray 2)) fun e w' => ∃ v, e = .returned v ∧ OwnBy w' w.heap.size v (bs ++ zs.flatMap be8) ∧ Ext w w' := by
  have hx : Ext w (w.alloc (.cells (zs.map (Value.int .i64)).toArray 2)) := (Kp.refl _ w).alloc _
  refine (packAll_any v _ bs zs _ (hb.ext hx) hl (Sl.of_block (heap_alloc_new w _) (by simp) (by unfold maxLen; omega) (Nat.le_refl _)) hn).mono ?_
  rintro e w' ⟨v', rfl, h2, h3⟩
  exact ⟨v', rfl, h2.low (by simp), hx.ext h3⟩

set_option maxHeartbeats 3200000 in
theorem put_any (s n : Int) (v : Value) (xs : List OpV) (w : World) (hG : GT w) (h : OpsAt w v xs) (hsz : OpsSz xs) :
    Calls Tryz.prog 10 #[.agg #[.int .i64 s, .int .i64 n, v]] w fun e w' => ∃ v, e = .returned v ∧ BytesR w' v (putR s n xs) ∧ Ext w w' := by
  have hE : Ext w (w.alloc (.cells #[.int .i64 s, .int .i64 n, v] 31)) := (Kp.refl _ _).alloc _
  have HM := Lib.hid (may_any s n v xs _ (hG.ext hE) (h.ext hE) hsz)
  obtain ⟨a, c, rfl, hcc, hm, hop⟩ := OpsAt.open h
  have HO := Lib.hid hop
  have HE := Lib.hid hE
  unfold maxLen at hm
  clear h hop hsz hE
  by_cases hz : mayR s n xs = 0
  · obtain ⟨o1, o2, o3, o4, o5, o6⟩ := mayR_ok hz
    have HP : Hid (putR s n xs = encR s n xs) := by show _ = _; unfold putR; rw [if_pos hz]
    have HGD := Lib.hid o5
    rw [hz] at HM
    clear hz o5 o6
    go_enter Tryz.func10, Tryz.ntmps10
    go_wp2_with (fail)
    refine (HM.out).mono ?_
    rintro e w1 ⟨rfl, hx1⟩
    obtain ⟨r0, r1, r2⟩ := req_cells hx1
    have HX1 := Lib.hid (HE.out.ext hx1)
    clear hx1
    go_wp2_with (fail)
    refine (all_lit _ [] [s, n, (xs.length : Int)] w1 (BytesR.nil _) (by simp) (by simp)).mono ?_
    rintro e w2 ⟨v2, rfl, h2, hx2⟩
    have t0 := hx2.cell r0 (fun f => f)
    have t1 := hx2.cell r1 (fun f => f)
    have t2 := hx2.cell r2 (fun f => f)
    have HX2 := Lib.hid (HX1.out.ext hx2)
    have hown : OwnBy w2 w.heap.size v2 (be8 s ++ (be8 n ++ (be8 (xs.length : Int) ++ (xs.take 0).flatMap encO))) := by
      have := h2.low HX1.out.size
      simpa using this
    have HO2 := Lib.hid hown
    clear r0 r1 r2 h2 hx2 hown
    go_wp2_with (fail)
    go_loopw [3, 21] (PutsRel w w.heap.size s n xs) (fun _ i _ => xs.length - (intOf i).toNat)
    case atStart => exact ⟨0, Nat.zero_le _, rfl, HO2.out, HX2.out⟩
    case round =>
      clear HO2 HX2 t0 t1 t2
      obtain ⟨k, hk, rfl, hown, hx⟩ := hrel
      have HX := Lib.hid hx
      by_cases hlt : k < xs.length
      · obtain ⟨b, off, rfl, _, hc⟩ := HO.out (by omega)
        obtain ⟨q0, q1, q2, q3, q4⟩ := hc k hlt
        have d0 := HX.out.cell q0 (fun f => f)
        have d1 := HX.out.cell q1 (fun f => f)
        have d2 := HX.out.cell q2 (fun f => f)
        have d3 := HX.out.cell q3 (fun f => f)
        have d4 := HX.out.cell q4 (fun f => f)
        have k1 : (k : Int) < xs.length := by omega
        have hgk := good_kind (HGD.out _ (List.getElem_mem hlt))
        have hps := path_small _ hgk.2.2.1
        have hds := hgk.2.2.2.2.2.2
        have hl0 := encs_len (xs.take k) (fun o ho => HGD.out o (List.mem_of_mem_take ho))
        have hlk : (xs.take k).length ≤ 16 := by rw [List.length_take]; omega
        have HN : Hid (be8 s ++ (be8 n ++ (be8 (xs.length : Int) ++ (xs.take (k + 1)).flatMap encO)) = be8 s ++ (be8 n ++ (be8 (xs.length : Int) ++ (xs.take k).flatMap encO)) ++ be8 xs[k].kind ++ txt xs[k].path.data.toList ++ txt xs[k].data.data.toList ++ [xs[k].ver, xs[k].flags].flatMap be8) := by
          show _ = _
          rw [List.take_succ_eq_append_getElem hlt, List.flatMap_append, List.flatMap_singleton]
          simp only [encO, List.append_assoc, List.flatMap_cons, List.flatMap_nil, List.append_nil]
        obtain ⟨cur, hcur⟩ : ∃ cur, be8 s ++ (be8 n ++ (be8 (xs.length : Int) ++ (xs.take k).flatMap encO)) = cur := ⟨_, rfl⟩
        have hcl : cur.length ≤ 30000 := by
          rw [← hcur]
          simp only [List.length_append, be8_len]
          omega
        rw [hcur] at hown HN
        generalize xs[k].kind = kk at *
        generalize xs[k].path = pp at *
        generalize xs[k].data = dd at *
        generalize xs[k].ver = vv at *
        generalize xs[k].flags = ff at *
        clear hc q0 q1 q2 q3 q4 hgk hl0 hlk hcur
        have hxA : Ext wr (wr.alloc (.cells #[.int .i64 kk, .string pp, .string dd, .int .i64 vv, .int .i64 ff] 24)) := (Kp.refl _ _).alloc _
        have hxB := HX.out.ext hxA
        have HXB := Lib.hid hxB
        have HC1 := Lib.hid (own_i64 _ cur kk _ _ w.heap.size (hown.ext hxA) (Kp.refl _ (wr.alloc (.cells #[.int .i64 kk, .string pp, .string dd, .int .i64 vv, .int .i64 ff] 24))) (by omega) hxB.size)
        have hbx := fun W => box_cells (w := wr) (W := W) (k := kk) (p := pp) (d := dd) (v := vv) (f := ff) (T := 24)
        have HBX := Lib.hid hbx
        obtain ⟨wA, hwA⟩ : ∃ wA, wr.alloc (.cells #[.int .i64 kk, .string pp, .string dd, .int .i64 vv, .int .i64 ff] 24) = wA := ⟨_, rfl⟩
        rw [hwA] at HC1 HXB
        simp only [hwA] at HBX
        have HWA := Lib.hid hwA
        clear hown hxA hxB hbx hwA
        go_wp2_with (fail)
        rw [HWA.out]
        refine HC1.out.mono ?_
        rintro e w3 ⟨v3, rfl, h3, hx3, hb3, hl3⟩
        obtain ⟨f0, f1, f2, f3, f4⟩ := HBX.out w3 hx3
        have HT := Lib.hid (fun v bs s W hb hx hl hs hbase => own_text v bs s wA W w.heap.size hb hx hl hs hbase)
        go_wp2_with (fail)
        have h3d := OwnBy.ext h3 (Kp.refl (fun _ => False) w3).drew
        have hx3d := hx3.drew
        have hb3d : w.heap.size ≤ w3.drew.heap.size := hb3
        go_region_held3 (fun w' => w'.cell? ⟨wr.heap.size, 1, none⟩ = some (.string pp) ∧ w'.cell? ⟨wr.heap.size, 2, none⟩ = some (.string dd) ∧ Ext wA w')
          ((refine (fun hE => And.intro (HBX.out _ hE).2.1 (And.intro (HBX.out _ hE).2.2.1 hE)) ?_; first | exact hx3d | assumption))
          ((go_at_call 30; refine (HT.out _ _ _ _ (by assumption) (by assumption) (by omega) (by omega) (by assumption)).mono ?_; rintro e w' ⟨v', rfl, h', hx', hb', hl'⟩))
        obtain ⟨g0, g1, g2, g3, g4⟩ := HBX.out _ hx'
        have HXW := Lib.hid (HXB.out.ext hx')
        have HAL := Lib.hid (all_lit v' _ [vv, ff] w' h'.bytes (by omega) (by simp))
        have HB' := Lib.hid hb'
        clear h3 h3d hx3 hx3d hb3 hb3d hl3 f0 f1 f2 f3 f4 h' hx' hb' hl'
        go_wp2_with (fail)
        refine HAL.out.mono ?_
        rintro e w5 ⟨v5, rfl, h5, hx5⟩
        have h5' := h5.low HB'.out
        have HO5 := Lib.hid h5'
        clear h5 h5'
        go_wp2_with (fail)
        go_light
        exact ⟨⟨k + 1, by omega, by go_num, by rw [HN.out]; exact HO5.out, HXW.out.ext hx5⟩, by simp [intOf]; omega⟩
      · have hke : xs.take k = xs := List.take_of_length_le (by omega)
        rw [hke] at hown
        have HO5 := Lib.hid hown
        clear hke hown
        go_wp2_with (fail)
        go_ret
        go_light
        exact ⟨_, rfl, by rw [HP.out]; exact OwnBy.bytes HO5.out, HX.out⟩
  · have HP : Hid (putR s n xs = []) := by show _ = _; unfold putR; rw [if_neg hz]
    obtain ⟨z, hzz⟩ : ∃ z, mayR s n xs = z := ⟨_, rfl⟩
    rw [hzz] at HM hz
    clear hzz
    go_enter Tryz.func10, Tryz.ntmps10
    go_wp2_with (fail)
    refine (HM.out).mono ?_
    rintro e w1 ⟨rfl, hx1⟩
    go_wp2_with (fail)
    go_ret
    go_light
    exact ⟨_, rfl, by rw [HP.out]; exact BytesR.nil _, HE.out.ext hx1⟩
end Go.Proofs.YtlcbllgmnbhphaaGreatDoor
