/- Walks over the reference's tree: Load. -/
import Derived.Test.YtdagikbdpeblhaaGreatDoorAvG26
import Derived.Test.YtdagikbdpeblhaaGreatDoorAvHRefL
import Derived.Test.YtdagikbdpeblhaaGreatDoorAvHAllN
import Derived.Test.YtdagikbdpeblhaaGreatDoorAvHWTreeM
namespace Go.Proofs.YtdagikbdpeblhaaGreatDoor
set_option maxRecDepth 100000
open Go.RowKit Av

theorem nameR_ok {x : Bs} : nameR x = true ↔ nameOk x := by
  constructor
  · intro h
    have h1 : (47 : UInt8) ∉ x := fun hm => by
      unfold nameR at h
      simp only [Bool.and_eq_true, List.all_eq_true] at h
      have := h.2 47 hm
      revert this
      decide
    rw [nameR_eq x h1] at h
    exact ⟨h, h1⟩
  · rintro ⟨h, h1⟩
    rw [nameR_eq x h1]
    exact h
theorem Named.rise {l : List Bs} (h : Named l) : Rising l := by
  have key : ∀ k, k ≤ l.length → Rising (l.take k) := by
    intro k
    induction k with
    | zero => intro _; exact List.Pairwise.nil
    | succ k ih =>
      intro hk
      by_cases h0 : 0 < k
      · exact rise_step (by omega) h0 (ih (by omega)) ((h.1 k (by omega)).2.2.2 h0)
      · obtain rfl : k = 0 := by omega
        rw [List.take_succ_eq_append_getElem (by omega)]
        exact List.pairwise_singleton _ _
  have := key l.length (Nat.le_refl _)
  rwa [List.take_length] at this
theorem named_iff {l : List Bs} : Named l ↔ Rising l ∧ l.length ≤ 500 ∧ ∀ x ∈ l, nameR x = true := by
  constructor
  · intro h
    refine ⟨h.rise, h.2, fun x hx => nameR_ok.2 ?_⟩
    obtain ⟨j, hj, rfl⟩ := List.mem_iff_getElem.1 hx
    obtain ⟨_, h1, h2, _⟩ := h.1 j hj
    exact top_name h1 h2
  · rintro ⟨h1, h2, h3⟩
    exact named_of (fun x hx => nameR_ok.1 (h3 x hx)) h1 h2
/-- A node laid into the reference's tree. -/
def loadR (r : Bool) (room : Int) (L : RL) (p : ByteArray) (n : NodeV) : RL × Int := if r = false then (L, 1) else if (mget L p).isSome = true then (L, 5) else if room ≤ (L.length : Int) then (L, 9) else (putR L (atR L p) (p, ndLoad n), 0)
def LoadRPost (w : World) (base g : Nat) (room : Int) (v : Value) (X : RL × Int) (e : Ending) (w' : World) : Prop :=
  ∃ v' E', e = .returned (.int .i64 X.2) ∧ RefA w' base g room v' E' ∧ entL E' = X.1 ∧ Kp (fun i => i = g) w w' ∧ ∀ i, v'.ownBlock = some i → v.ownBlock = some i ∨ w.heap.size ≤ i
set_option maxHeartbeats 6400000 in
theorem load_bad (base g : Nat) (room : Int) (v : Value) (E : List Ent) (p : ByteArray) (n : NodeV) (nv : Value) (r : Bool) (w : World) (h : RefA w base g room v E) (hp : p.size ≤ 1000000) (hn : NmS w nv n.names) (hl : n.names.length ≤ 100000) (hr : r = false) (hbad : ¬ (goodL p.data.toList = true ∧ Rising n.names ∧ n.names.length ≤ 500)) :
    Calls Tryz.prog 14 #[.pointer (some ⟨g, 0, none⟩), .string p, .agg (ndA n nv)] w fun e w' => LoadRPost w base g room v (loadR r room (entL E) p n) e w' := by
  obtain ⟨na, nc, rfl, _⟩ := Sl.open hn.1
  obtain ⟨wA, hWA⟩ : ∃ wA, w.alloc (.cells (ndA n (.slice na n.names.length nc)) rnT) = wA := ⟨_, rfl⟩
  have hxA : Ext w wA := by rw [← hWA]; exact (Kp.refl _ _).alloc _
  have hA : Blk wA w.heap.size (ndA n (.slice na n.names.length nc)) rnT := by rw [← hWA]; exact heap_alloc_new w _
  have HA := Lib.hid hA
  have HXA := Lib.hid hxA
  have HRA := Lib.hid (h.ext hxA)
  have HNM : Hid (NmS wA (.slice na n.names.length nc) n.names) := ⟨hn.1.ext hxA, hn.2⟩
  have HGD := Lib.hid (fun W => refGood_any p W (by unfold maxLen; omega))
  have HRS := Lib.hid (fun W (hW : Ext wA W) => rising10_any (.slice na n.names.length nc) n.names W ⟨HNM.out.1.ext hW, HNM.out.2⟩ (by omega))
  obtain ⟨X, hX⟩ : ∃ X, loadR r room (entL E) p n = X := ⟨_, rfl⟩
  rw [hX]
  have HX : Hid (loadR r room (entL E) p n = X) := hX
  unfold ndA at hWA ⊢
  have HWA := Lib.hid hWA
  clear hWA hX hxA
  unfold ndA at hA
  have a0 := hA.cell 0 _ rfl
  have a1 := hA.cell 1 _ rfl
  have a2 := hA.cell 2 _ rfl
  have a3 := hA.cell 3 _ rfl
  have a4 := hA.cell 4 _ rfl
  have a5 := hA.cell 5 _ rfl
  have a6 := hA.cell 6 _ rfl
  have a7 := hA.cell 7 _ rfl
  have a8 := hA.cell 8 _ rfl
  have a9 := hA.cell 9 _ rfl
  clear hA
  have HE : Hid (X = (entL E, 1)) := by show _ = _; rw [← HX.out]; unfold loadR; rw [if_pos hr]
  clear h hn hr HX
  cases hg : goodL p.data.toList with
  | false =>
    rw [hg] at HGD
    clear hbad hg
    go_enter Tryz.func14, Tryz.ntmps14
    go_upto_region 1 with (fail)
    rw [HWA.out]
    go_wp2_with (fail)
    refine (HGD.out wA).mono ?_
    rintro e w1 ⟨rfl, hx1⟩
    have HX1 := Lib.hid hx1
    clear hx1
    go_wp2_with (fail)
    go_ret
    rw [HE.out]
    exact ⟨v, E, rfl, HRA.out.ext HX1.out, rfl, (HXA.out.trans HX1.out).mono (fun _ _ f => f.elim), fun i hi => .inl hi⟩
  | true =>
    rw [hg] at HGD hbad
    by_cases hri : Rising n.names
    · have h5 : ¬ n.names.length ≤ 500 := fun h5 => hbad ⟨rfl, hri, h5⟩
      have h5I : (n.names.length : Int) > 500 := by omega
      rw [decide_eq_true hri] at HRS
      clear hbad hg hri h5
      go_enter Tryz.func14, Tryz.ntmps14
      go_upto_region 1 with (fail)
      rw [HWA.out]
      go_wp2_with (fail)
      refine (HGD.out wA).mono ?_
      rintro e w1 ⟨rfl, hx1⟩
      have HX1 := Lib.hid hx1
      clear hx1
      have hab := HA.out.kp HX1.out (fun f => f)
      unfold ndA at hab
      clear a0 a1 a2 a3 a4 a5 a6 a7 a8 a9
      have a0 := hab.cell 0 _ rfl
      have a1 := hab.cell 1 _ rfl
      have a2 := hab.cell 2 _ rfl
      have a3 := hab.cell 3 _ rfl
      have a4 := hab.cell 4 _ rfl
      have a5 := hab.cell 5 _ rfl
      have a6 := hab.cell 6 _ rfl
      have a7 := hab.cell 7 _ rfl
      have a8 := hab.cell 8 _ rfl
      have a9 := hab.cell 9 _ rfl
      clear hab
      go_wp2_with (fail)
      refine (HRS.out w1 HX1.out).mono ?_
      rintro e w2 ⟨rfl, hx2⟩
      have HX2 := Lib.hid (HX1.out.trans hx2)
      have hab := HA.out.kp HX2.out (fun f => f)
      unfold ndA at hab
      clear hx2 a0 a1 a2 a3 a4 a5 a6 a7 a8 a9
      have a0 := hab.cell 0 _ rfl
      have a1 := hab.cell 1 _ rfl
      have a2 := hab.cell 2 _ rfl
      have a3 := hab.cell 3 _ rfl
      have a4 := hab.cell 4 _ rfl
      have a5 := hab.cell 5 _ rfl
      have a6 := hab.cell 6 _ rfl
      have a7 := hab.cell 7 _ rfl
      have a8 := hab.cell 8 _ rfl
      have a9 := hab.cell 9 _ rfl
      clear hab
      go_wp2_with (fail)
      go_ret
      rw [HE.out]
      exact ⟨v, E, rfl, HRA.out.ext HX2.out, rfl, (HXA.out.trans HX2.out).mono (fun _ _ f => f.elim), fun i hi => .inl hi⟩
    · rw [decide_eq_false hri] at HRS
      clear hbad hg hri
      go_enter Tryz.func14, Tryz.ntmps14
      go_upto_region 1 with (fail)
      rw [HWA.out]
      go_wp2_with (fail)
      refine (HGD.out wA).mono ?_
      rintro e w1 ⟨rfl, hx1⟩
      have HX1 := Lib.hid hx1
      clear hx1
      have hab := HA.out.kp HX1.out (fun f => f)
      unfold ndA at hab
      clear a0 a1 a2 a3 a4 a5 a6 a7 a8 a9
      have a0 := hab.cell 0 _ rfl
      have a1 := hab.cell 1 _ rfl
      have a2 := hab.cell 2 _ rfl
      have a3 := hab.cell 3 _ rfl
      have a4 := hab.cell 4 _ rfl
      have a5 := hab.cell 5 _ rfl
      have a6 := hab.cell 6 _ rfl
      have a7 := hab.cell 7 _ rfl
      have a8 := hab.cell 8 _ rfl
      have a9 := hab.cell 9 _ rfl
      clear hab
      go_wp2_with (fail)
      refine (HRS.out w1 HX1.out).mono ?_
      rintro e w2 ⟨rfl, hx2⟩
      have HX2 := Lib.hid (HX1.out.trans hx2)
      clear hx2
      go_wp2_with (fail)
      go_ret
      rw [HE.out]
      exact ⟨v, E, rfl, HRA.out.ext HX2.out, rfl, (HXA.out.trans HX2.out).mono (fun _ _ f => f.elim), fun i hi => .inl hi⟩
theorem str_elem : ElemOk Tryz.prog 36 strT 1 := ⟨by kernel_rfl, by kernel_rfl⟩
def LdLoop (w : World) (l : List Bs) (s7 : Value) (wr : World) : Prop := ∃ k : Nat, k ≤ l.length ∧ s7 = .int .i64 k ∧ (∀ x ∈ l.take k, nameR x = true) ∧ Ext w wr
set_option maxHeartbeats 6400000 in
theorem load_good (base g : Nat) (room : Int) (v : Value) (E : List Ent) (p : ByteArray) (n : NodeV) (nv : Value) (r : Bool) (w : World) (h : RefA w base g room v E) (hri : Rising (keysR (entL E))) (hE : E.length ≤ 90000) (hp : p.size ≤ 1000000) (hn : NmS w nv n.names) (hl : n.names.length ≤ 100000) (hsz : ∀ x ∈ n.names, x.length ≤ 1000000) (hr : r = true ↔ ∀ x ∈ n.names, nameR x = true) (hgood : goodL p.data.toList = true ∧ Rising n.names ∧ n.names.length ≤ 500) :
    Calls Tryz.prog 14 #[.pointer (some ⟨g, 0, none⟩), .string p, .agg (ndA n nv)] w fun e w' => LoadRPost w base g room v (loadR r room (entL E) p n) e w' := by
  obtain ⟨hg, hrs, h500⟩ := hgood
  have HGW : Hid (g < w.heap.size) := h.blk.lt
  obtain ⟨va, vc, rfl⟩ := owns_slice h.ents.row
  obtain ⟨na, nc, rfl, _⟩ := Sl.open hn.1
  obtain ⟨wA, hWA⟩ : ∃ wA, w.alloc (.cells (ndA n (.slice na n.names.length nc)) rnT) = wA := ⟨_, rfl⟩
  have hxA : Ext w wA := by rw [← hWA]; exact (Kp.refl _ _).alloc _
  have hA : Blk wA w.heap.size (ndA n (.slice na n.names.length nc)) rnT := by rw [← hWA]; exact heap_alloc_new w _
  have HA := Lib.hid hA
  have HXA := Lib.hid hxA
  have HRA := Lib.hid (h.ext hxA)
  have HNM : Hid (NmS wA (.slice na n.names.length nc) n.names) := ⟨hn.1.ext hxA, hn.2⟩
  have HGD := Lib.hid (fun W => refGood_any p W (by unfold maxLen; omega))
  have HRS := Lib.hid (fun W (hW : Ext wA W) => rising10_any (.slice na n.names.length nc) n.names W ⟨HNM.out.1.ext hW, HNM.out.2⟩ (by omega))
  obtain ⟨X, hX⟩ : ∃ X, loadR r room (entL E) p n = X := ⟨_, rfl⟩
  rw [hX]
  have HX : Hid (loadR r room (entL E) p n = X) := hX
  unfold ndA at hWA ⊢
  have HWA := Lib.hid hWA
  clear hWA hX hxA
  unfold ndA at hA
  have a0 := hA.cell 0 _ rfl
  have a1 := hA.cell 1 _ rfl
  have a2 := hA.cell 2 _ rfl
  have a3 := hA.cell 3 _ rfl
  have a4 := hA.cell 4 _ rfl
  have a5 := hA.cell 5 _ rfl
  have a6 := hA.cell 6 _ rfl
  have a7 := hA.cell 7 _ rfl
  have a8 := hA.cell 8 _ rfl
  have a9 := hA.cell 9 _ rfl
  clear hA
  rw [hg] at HGD
  rw [decide_eq_true hrs] at HRS
  have h5I : ¬ (n.names.length : Int) > 500 := by omega
  have HHR := Lib.hid hr
  have HSZ := Lib.hid hsz
  have HNMN := Lib.hid hn
  obtain ⟨_, _, hsl, _, _, hop⟩ := Sl.open HNM.out.1
  simp only [Value.slice.injEq, true_and] at hsl
  obtain ⟨rfl, rfl⟩ := hsl
  have HOP : Hid (∀ k (hk : k < n.names.length), ∃ q off, na = some ⟨q, off, none⟩ ∧ wA.cell? ⟨q, off + k, none⟩ = some (encStr n.names[k])) := fun k hk => by
    obtain ⟨q, off, e, _, hc⟩ := hop.2 (by omega)
    exact ⟨q, off, e, hc k _ (by rw [List.getElem?_map, List.getElem?_eq_getElem hk]; rfl)⟩
  have HISN := Lib.hid (fun (x : Bs) (hx : x ∈ n.names) W => refIsName_any ⟨x.toArray⟩ W (by have := hsz x hx; show x.length ≤ _; unfold maxLen; omega))
  have HAT := Lib.hid (fun W (hW : Ext wA W) => at_any base g room _ E p W (HRA.out.ext hW))
  have HRIS := Lib.hid hri
  clear h hn hr hg hrs h500 hop hsz hri
  go_enter Tryz.func14, Tryz.ntmps14
  go_upto_region 1 with (fail)
  rw [HWA.out]
  go_wp2_with (fail)
  refine (HGD.out wA).mono ?_
  rintro e w1 ⟨rfl, hx1⟩
  have HX1 := Lib.hid hx1
  clear hx1
  have hab := HA.out.kp HX1.out (fun f => f)
  unfold ndA at hab
  clear a0 a1 a2 a3 a4 a5 a6 a7 a8 a9
  have a0 := hab.cell 0 _ rfl
  have a1 := hab.cell 1 _ rfl
  have a2 := hab.cell 2 _ rfl
  have a3 := hab.cell 3 _ rfl
  have a4 := hab.cell 4 _ rfl
  have a5 := hab.cell 5 _ rfl
  have a6 := hab.cell 6 _ rfl
  have a7 := hab.cell 7 _ rfl
  have a8 := hab.cell 8 _ rfl
  have a9 := hab.cell 9 _ rfl
  clear hab
  go_wp2_with (fail)
  refine (HRS.out w1 HX1.out).mono ?_
  rintro e w2 ⟨rfl, hx2⟩
  have HX2 := Lib.hid (HX1.out.trans hx2)
  have hab := HA.out.kp HX2.out (fun f => f)
  unfold ndA at hab
  clear hx2 a0 a1 a2 a3 a4 a5 a6 a7 a8 a9
  have a0 := hab.cell 0 _ rfl
  have a1 := hab.cell 1 _ rfl
  have a2 := hab.cell 2 _ rfl
  have a3 := hab.cell 3 _ rfl
  have a4 := hab.cell 4 _ rfl
  have a5 := hab.cell 5 _ rfl
  have a6 := hab.cell 6 _ rfl
  have a7 := hab.cell 7 _ rfl
  have a8 := hab.cell 8 _ rfl
  have a9 := hab.cell 9 _ rfl
  clear hab
  go_wp2_with (fail)
  go_loopw [7] (fun s7 wr => LdLoop wA n.names s7 wr) (fun s7 _ => n.names.length - (intOf s7).toNat)
  case atStart => exact ⟨0, Nat.zero_le _, rfl, fun x hx => (by simp at hx), HX2.out⟩
  case round =>
    obtain ⟨k, hk, rfl, hall, hx⟩ := hrel
    have HX3 := Lib.hid hx
    have hab := HA.out.kp hx (fun f => f)
    unfold ndA at hab
    clear hx a0 a1 a2 a3 a4 a5 a6 a7 a8 a9
    have a0 := hab.cell 0 _ rfl
    have a1 := hab.cell 1 _ rfl
    have a2 := hab.cell 2 _ rfl
    have a3 := hab.cell 3 _ rfl
    have a4 := hab.cell 4 _ rfl
    have a5 := hab.cell 5 _ rfl
    have a6 := hab.cell 6 _ rfl
    have a7 := hab.cell 7 _ rfl
    have a8 := hab.cell 8 _ rfl
    have a9 := hab.cell 9 _ rfl
    clear hab
    by_cases hlt : k < n.names.length
    · have hkI : (k : Int) < (n.names.length : Int) := by omega
      have hk0 : (0 : Int) ≤ (k : Int) := by omega
      obtain ⟨q, off, rfl, hc⟩ := HOP.out k hlt
      have hc3 := HX3.out.cell hc (fun f => f)
      have hmem : n.names[k] ∈ n.names := List.getElem_mem hlt
      have HIS := Lib.hid (HISN.out _ hmem wr)
      have HALL := Lib.hid hall
      have HMEM := Lib.hid hmem
      obtain ⟨x, hxx⟩ : ∃ x, n.names[k] = x := ⟨_, rfl⟩
      have HXX := Lib.hid hxx
      rw [hxx] at hc3 HIS
      unfold encStr at hc3
      clear hc hmem hall hxx
      cases hnr : nameR x with
      | true =>
        have hnr2 : nameR (⟨x.toArray⟩ : ByteArray).data.toList = true := hnr
        rw [hnr2] at HIS
        have HNR := Lib.hid hnr
        clear hnr hnr2
        go_wp2_with (fail)
        refine HIS.out.mono ?_
        rintro e w4 ⟨rfl, rfl⟩
        go_wp2_with (fail)
        go_light
        refine ⟨⟨k + 1, ?_, ?_, ?_, HX3.out⟩, ?_⟩
        · omega
        · go_num
        · intro y hy
          rw [List.take_succ_eq_append_getElem hlt] at hy
          rcases List.mem_append.1 hy with hy | hy
          · exact HALL.out y hy
          · rw [List.mem_singleton.1 hy, HXX.out]
            exact HNR.out
        · simp [intOf]; omega
      | false =>
        have hnr2 : nameR (⟨x.toArray⟩ : ByteArray).data.toList = false := hnr
        rw [hnr2] at HIS
        have HE : Hid (X = (entL E, 1)) := by
          show _ = _
          rw [← HX.out]
          have hrf : r = false := by
            cases r with
            | false => rfl
            | true =>
              have := HHR.out.1 rfl _ HMEM.out
              rw [HXX.out, hnr] at this
              cases this
          unfold loadR
          rw [if_pos hrf]
        clear hnr hnr2
        go_wp2_with (fail)
        refine HIS.out.mono ?_
        rintro e w4 ⟨rfl, rfl⟩
        go_wp2_with (fail)
        go_ret
        rw [HE.out]
        exact ⟨_, E, rfl, HRA.out.ext HX3.out, rfl, (HXA.out.trans HX3.out).mono (fun _ _ f => f.elim), fun i hi => .inl hi⟩
    · have hkI : ¬ (k : Int) < (n.names.length : Int) := by omega
      have hrt : r = true := HHR.out.2 (fun x hx => hall x (by rw [List.take_of_length_le (by omega)]; exact hx))
      have HRT := Lib.hid hrt
      clear hall hrt
      have hat := HAT.out wr HX3.out
      have HAT' := Lib.hid hat
      clear hat HAT
      go_wp2_with (fail)
      refine HAT'.out.mono ?_
      rintro e w4 ⟨rfl, hx4⟩
      have HX4 := Lib.hid (HX3.out.trans hx4)
      clear hx4 HAT'
      cases hg : mget (entL E) p with
      | some m5 =>
        have HE : Hid (X = (entL E, 5)) := by
          show _ = _
          rw [← HX.out]
          unfold loadR
          rw [if_neg (by rw [HRT.out]; simp), if_pos (by rw [hg]; rfl)]
        rw [isAt_some HRIS.out hg]
        clear hg
        go_wp2_with (fail)
        go_ret
        rw [HE.out]
        exact ⟨_, E, rfl, HRA.out.ext HX4.out, rfl, (HXA.out.trans HX4.out).mono (fun _ _ f => f.elim), fun i hi => .inl hi⟩
      | none =>
        rw [isAt_none hg]
        by_cases hrm : room ≤ (E.length : Int)
        · have HE : Hid (X = (entL E, 9)) := by
            show _ = _
            rw [← HX.out]
            unfold loadR
            rw [if_neg (by rw [HRT.out]; simp), if_neg (by rw [hg]; simp), if_pos (by rw [show (entL E).length = E.length from List.length_map _]; exact hrm)]
          clear hg
          go_upto_region 11 with (fail)
          refine' wp_region_dag0 ((46, .val _) :: (47, .val _) :: (48, .val _) :: (49, .val _) :: (50, .val _) :: (51, .val _) :: (52, .val _) :: (53, .val _) :: (54, .val _) :: (55, .val _) :: []) (by exact ⟨fun _ _ _ _ _ => trivial, ⟨fun _ _ _ _ _ => trivial, ⟨fun _ _ _ _ _ => trivial, ⟨fun _ _ _ _ _ => trivial, ⟨fun _ _ _ _ _ => trivial, ⟨fun _ _ _ _ _ => trivial, ⟨fun _ _ _ _ _ => trivial, ⟨fun _ _ _ _ _ => trivial, ⟨fun _ _ _ _ _ => trivial, ⟨fun _ _ _ _ _ => trivial, trivial⟩⟩⟩⟩⟩⟩⟩⟩⟩⟩) (by kernel_rfl) (by kernel_rfl) (by kernel_rfl) ?_
          rotate_left 10
          repeat (first
            | (refine wpD_skipv ?_ ?_ ?_
               focus rfl
               focus rfl
               simp only [Act.put, List.setIfInBounds_toArray, List.set_cons_succ, List.set_cons_zero])
            | (refine' wpD_val (c := _) ?_ (fun w => Kp.refl _ w) ?_ (fun wq hwq hfq => ?_) ?_
               rotate_left
               focus rfl
               focus rfl
               focus ((have hbq := (HRA.out.ext (HX4.out.trans hwq)).blk; have r0 := hbq.cell 0 _ rfl; have r1 := hbq.cell 1 _ rfl); go_simp; first | done | rfl)
               simp only [Act.put, List.setIfInBounds_toArray, List.set_cons_succ, List.set_cons_zero])
            | (refine' wpD_con (c := _) ?_ ?_ (fun wq hwq hfq => ?_) ?_
               rotate_left
               focus rfl
               focus rfl
               focus ((have hbq := (HRA.out.ext (HX4.out.trans hwq)).blk; have r0 := hbq.cell 0 _ rfl; have r1 := hbq.cell 1 _ rfl); go_simp; (try (rw [dUpon_enter])); fail)
               simp only [Act.put, List.setIfInBounds_toArray, List.set_cons_succ, List.set_cons_zero])
            | fail)
          refine wpD_nil ?_
          intro w5 hx5 hend
          clear hend
          have HX5 := Lib.hid (HX4.out.trans hx5)
          clear hx5
          go_wp2_with (fail)
          go_ret
          rw [HE.out]
          exact ⟨_, E, rfl, HRA.out.ext HX5.out, rfl, (HXA.out.trans HX5.out).mono (fun _ _ f => f.elim), fun i hi => .inl hi⟩
        · have HE : Hid (X = (putR (entL E) (atR (entL E) p) (p, ndLoad n), 0)) := by
            show _ = _
            rw [← HX.out]
            unfold loadR
            rw [if_neg (by rw [HRT.out]; simp), if_neg (by rw [hg]; simp), if_neg (by rw [show (entL E).length = E.length from List.length_map _]; exact hrm)]
          clear hg
          go_upto_region 11 with (fail)
          refine' wp_region_dag0 ((46, .val _) :: (47, .val _) :: (48, .val _) :: (49, .val _) :: (50, .val _) :: (51, .val _) :: (52, .val _) :: (53, .val _) :: (54, .val _) :: (55, .val _) :: []) (by exact ⟨fun _ _ _ _ _ => trivial, ⟨fun _ _ _ _ _ => trivial, ⟨fun _ _ _ _ _ => trivial, ⟨fun _ _ _ _ _ => trivial, ⟨fun _ _ _ _ _ => trivial, ⟨fun _ _ _ _ _ => trivial, ⟨fun _ _ _ _ _ => trivial, ⟨fun _ _ _ _ _ => trivial, ⟨fun _ _ _ _ _ => trivial, ⟨fun _ _ _ _ _ => trivial, trivial⟩⟩⟩⟩⟩⟩⟩⟩⟩⟩) (by kernel_rfl) (by kernel_rfl) (by kernel_rfl) ?_
          rotate_left 10
          repeat (first
            | (refine wpD_skipv ?_ ?_ ?_
               focus rfl
               focus rfl
               simp only [Act.put, List.setIfInBounds_toArray, List.set_cons_succ, List.set_cons_zero])
            | (refine' wpD_val (c := _) ?_ (fun w => Kp.refl _ w) ?_ (fun wq hwq hfq => ?_) ?_
               rotate_left
               focus rfl
               focus rfl
               focus ((have hbq := (HRA.out.ext (HX4.out.trans hwq)).blk; have r0 := hbq.cell 0 _ rfl; have r1 := hbq.cell 1 _ rfl); go_simp; first | done | rfl)
               simp only [Act.put, List.setIfInBounds_toArray, List.set_cons_succ, List.set_cons_zero])
            | (refine' wpD_con (c := _) ?_ ?_ (fun wq hwq hfq => ?_) ?_
               rotate_left
               focus rfl
               focus rfl
               focus ((have hbq := (HRA.out.ext (HX4.out.trans hwq)).blk; have r0 := hbq.cell 0 _ rfl; have r1 := hbq.cell 1 _ rfl); go_simp; (try (rw [dUpon_enter])); fail)
               simp only [Act.put, List.setIfInBounds_toArray, List.set_cons_succ, List.set_cons_zero])
            | fail)
          refine wpD_nil ?_
          intro w5 hx5 hend
          clear hend
          have HX5 := Lib.hid (HX4.out.trans hx5)
          clear hx5
          go_upto_region 13 with (fail)
          have hab := HA.out.kp HX5.out (fun f => f)
          unfold ndA at hab
          clear a0 a1 a2 a3 a4 a5 a6 a7 a8 a9
          have hb6 : Blk (w5.alloc (.cells #[] strT)) w.heap.size #[.int .i64 n.made, .int .i64 n.chg, .int .i64 n.ver, .int .i64 n.kids, .int .i64 n.own, .int .i64 n.len, .int .i64 n.cnt, .string n.data, .int .i64 n.next, .slice na n.names.length nc] rnT := hab.kp ((Kp.refl (fun _ => False) w5).alloc _) (fun f => f)
          have a9 := hb6.cell 9 _ rfl
          clear hab hb6
          go_wp2_with (at_builtin; refine wpList_appK 36 strT 1 (by decide) str_elem rfl _ _ rfl w5.heap.size _ 0 [] rfl (Fresh0.new (Nat.le_refl _)).1 _ n.names.length (n.names.map encStr) rfl (HNM.out.1.ext (HX5.out.trans ((Kp.refl (fun _ => False) w5).alloc _))) HNM.out.2 ?c0 ?c1 ?c2 ?_)
          case c0 =>
            intro y hy
            obtain ⟨x, _, rfl⟩ := List.mem_map.1 hy
            rfl
          case c1 => omega
          case c2 => rw [World.size_alloc]; omega
          intro v6 w6 h6 hk6
          have hx6 : Ext w5 w6 := ((Kp.refl (fun _ => False) w5).alloc (.cells #[] strT)).next hk6 (fun i hi e => by
            simp only [Value.ownBlock, Option.some.injEq] at e
            omega)
          have h6 : w6.ownsRow w5.heap.size strT 1 v6 n.names.length (n.names.map encStr) := by simpa using h6
          obtain ⟨na6, nc6, rfl⟩ := owns_slice h6
          have H6 := Lib.hid h6
          have HX6 := Lib.hid (HX5.out.trans hx6)
          have hab := HA.out.kp HX6.out (fun f => f)
          have HAB6 := Lib.hid hab
          unfold ndA at hab
          clear a9 h6 hk6 hx6
          have a0 := hab.cell 0 _ rfl
          have a1 := hab.cell 1 _ rfl
          have a2 := hab.cell 2 _ rfl
          have a3 := hab.cell 3 _ rfl
          have a4 := hab.cell 4 _ rfl
          have a5 := hab.cell 5 _ rfl
          have a6 := hab.cell 6 _ rfl
          have a7 := hab.cell 7 _ rfl
          have a8 := hab.cell 8 _ rfl
          have a9 := hab.cell 9 _ rfl
          have fa0 := hab.free 0
          have fa1 := hab.free 1
          have fa2 := hab.free 2
          have fa3 := hab.free 3
          have fa4 := hab.free 4
          have fa5 := hab.free 5
          have fa6 := hab.free 6
          have fa7 := hab.free 7
          have fa8 := hab.free 8
          have fa9 := hab.free 9
          clear hab
          go_upto_region 16 with (fail)
          obtain ⟨w7, hw7⟩ : ∃ w7, ((w6.setCell ⟨w.heap.size, 9, none⟩ (.slice na6 n.names.length nc6)).setCell ⟨w.heap.size, 5, none⟩ (.int .i64 n.data.size)).setCell ⟨w.heap.size, 6, none⟩ (.int .i64 n.names.length) = w7 := ⟨_, rfl⟩
          rw [hw7]
          have hk7 : Kp (fun i => i = w.heap.size) w6 w7 := by
            rw [← hw7]
            exact (((Kp.refl (fun i => i = w.heap.size) w6).set1 _ 9 _ rfl).set1 _ 5 _ rfl).set1 _ 6 _ rfl
          have hab6 := HAB6.out
          unfold ndA at hab6
          have hb7 : Blk w7 w.heap.size #[.int .i64 n.made, .int .i64 n.chg, .int .i64 n.ver, .int .i64 n.kids, .int .i64 n.own, .int .i64 n.data.size, .int .i64 n.names.length, .string n.data, .int .i64 n.next, .slice na6 n.names.length nc6] rnT := by
            rw [← hw7]
            exact ((hab6.set 9 _).set 5 _).set 6 _
          have hAlt : w.heap.size < wA.heap.size := HA.out.lt
          have hs5 := HX5.out.size
          have hgw := HGW.out
          have hRA7 : RefA w7 base g room (.slice va E.length vc) E := by
            have h1 := HRA.out.ext HX6.out
            have hne : ∀ T : TypeId, T ≠ rnT → NoT w6 (fun i => i = w.heap.size) T := fun T hT i e cur f hc => by
              have e2 : i = w.heap.size := e
              subst e2
              have h2 : w6.heap[w.heap.size]? = some (.cells _ rnT (0, 0)) := hab6
              rw [h2] at hc
              simp only [Option.some.injEq, Obj.cells.injEq] at hc
              exact hT hc.2.1.symm
            refine ⟨h1.low, h1.blk.kp hk7 (by omega), ⟨?_, fun x hx => EntOk.kp (h1.ents.ok x hx) hk7 (hne strT (by decide))⟩⟩
            refine ownsRow.kp h1.ents.row hk7 (fun i hi e => ?_)
            obtain ⟨cur, f, h4⟩ := own_type h1.ents.row hi
            exact hne entT (by decide) i e cur f h4
          have hnm7 : NmO w7 (.slice na6 n.names.length nc6) (ndLoad n).names := by
            have h1 := ownsRow.kp H6.out hk7 (fun i hi e => by
              have h3 := (own_in H6.out hi).1
              have e2 : i = w.heap.size := e
              omega)
            exact own_less h1 (Nat.zero_le _)
          have HLAY := Lib.hid (lay_ref base g room _ E p (ndLoad n) (.slice na6 n.names.length nc6) w7 hRA7 hnm7 (by omega))
          unfold entC ndLoad at HLAY
          have HK7 := Lib.hid hk7
          clear hw7 hk7 hab6 hRA7 hnm7 a0 a1 a2 a3 a4 a5 a6 a7 a8 a9 fa0 fa1 fa2 fa3 fa4 fa5 fa6 fa7 fa8 fa9
          have l0 := hb7.cell 0 _ rfl
          have l1 := hb7.cell 1 _ rfl
          have l2 := hb7.cell 2 _ rfl
          have l3 := hb7.cell 3 _ rfl
          have l4 := hb7.cell 4 _ rfl
          have l5 := hb7.cell 5 _ rfl
          have l6 := hb7.cell 6 _ rfl
          have l7 := hb7.cell 7 _ rfl
          have l8 := hb7.cell 8 _ rfl
          have l9 := hb7.cell 9 _ rfl
          clear hb7
          go_wp2_with (fail)
          refine HLAY.out.mono ?_
          rintro e w8 ⟨u8, v8, rfl, hr8, hk8, hge8⟩
          have HR8 := Lib.hid hr8
          have HK8 := Lib.hid hk8
          have HGE8 := Lib.hid hge8
          clear hr8 hk8 hge8
          go_wp2_with (fail)
          go_ret
          rw [HE.out]
          have hs7 : w.heap.size ≤ w7.heap.size := by
            have h1 := HXA.out.size
            have h2 := HX6.out.size
            have h3 := HK7.out.size
            omega
          refine ⟨v8, _, rfl, HR8.out, ?_, ?_, fun i hi => .inr (Nat.le_trans hs7 (HGE8.out i hi))⟩
          · unfold putR entL ndLoad
            simp
          · exact ((((HXA.out.trans HX6.out).mono (T := fun i => i = g) (fun _ _ f => f.elim)).next HK7.out (fun i hi e => by omega)).next HK8.out (fun i hi e => e))
end Go.Proofs.YtdagikbdpeblhaaGreatDoor
