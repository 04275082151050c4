/- Walks of package aviarylaw14: SnapApart. -/
import Derived.Test.YtjapjpigpakejaaGreatDoorAvG40
import Derived.Test.YtjapjpigpakejaaGreatDoorAvHDag
namespace Go.Proofs.YtjapjpigpakejaaGreatDoor
set_option maxRecDepth 100000
open Go.RowKit Av

theorem conv_bs {W : World} {v : Value} {bs : Bs} (h : BytesR W v bs) : (convert 66 9 v).run Tryz.prog W = .ok (.string (mkS bs)) W := by
  obtain ⟨a, c, rfl, _, _, hop⟩ := BytesR.open h
  have := conv_any W a bs.length c bs (Nat.le_refl _) (fun h => by obtain ⟨b, off, e, _, hc⟩ := hop h; exact ⟨b, off, e, hc⟩)
  rwa [List.take_length] at this
theorem mkS_inj {a b : Bs} (h : mkS a = mkS b) : a = b := by
  have := congrArg (fun x : ByteArray => x.data.toList) h
  simpa [mkS] using this
def CopyOf (w1 : World) (K : Nat) (t : Tr) (v : Value) (w : World) : Prop := ∃ b m c, v = .pointer (some ⟨b, 0, none⟩) ∧ TS w1 w b m 60 K c ∧ OkT (pl c) ∧ ownL (pl c) = ownL (pl t)
theorem CopyOf.ext {w1 : World} {K : Nat} {t : Tr} {v : Value} {w w' : World} (h : CopyOf w1 K t v w) (k : Ext w w') : CopyOf w1 K t v w' := by
  obtain ⟨b, m, c, e, h1, h2, h3⟩ := h
  exact ⟨b, m, c, e, h1.ext k, h2, h3⟩
theorem GoodS.same {room : Int} {t u : Pt} (h : GoodS room t) (e : ∀ p, mget u p = mget t p) (hu : (u.map (·.1)).Nodup) (hl : u.length = t.length) : GoodS room u :=
  ⟨h.snd.same_get e (by rw [hl]; exact h.snd.size), fun x hx y hy => by
    have h1 := mget_of_mem hu (k := x.1) hx
    rw [e] at h1
    exact h.free _ (mget_mem h1) y hy, fun p n hp => h.parts p n (by rw [← e]; exact hp), fun p n hp => h.num p n (by rw [← e]; exact hp)⟩
theorem len_same {t u : Pt} (ht : (t.map (·.1)).Nodup) (hu : (u.map (·.1)).Nodup) (e : ∀ p, mget u p = mget t p) : u.length = t.length := by
  have h := own_same hu ht e
  rw [← own_len, h, own_len]
set_option maxHeartbeats 12800000 in
theorem snapApart_any (v1 v2 : Value) (xs ys : List OpV) (w : World) (hG : GT w) (h1 : OpsAt w v1 xs) (h2 : OpsAt w v2 ys) :
    Calls Tryz.prog 8 #[v1, v2] w fun e w' => e = .returned (.bool true) ∧ Ext w w' := by
  have HG := Lib.hid hG
  have HA := Lib.hid (fun W (hW : Ext w W) => grown_any v1 xs W (hG.ext hW) (h1.ext hW))
  have HB := Lib.hid (fun W (hW : Ext w W) => grown_any v2 ys W (hG.ext hW) (h2.ext hW))
  clear hG h1 h2
  go_enter Tryz.func8, Tryz.ntmps8
  go_wp2_with (fail)
  refine (snapAwake_any w HG.out).mono ?_
  rintro e w1 ⟨rfl, hx1⟩
  have HX1 := Lib.hid hx1
  clear hx1
  go_wp2_with (fail)
  refine (HA.out w1 HX1.out).mono ?_
  rintro e w2 ⟨hx2, hcA⟩
  have HX2 := Lib.hid (HX1.out.trans hx2)
  rcases hcA with rfl | ⟨b, m, t, rfl, ht, hgt⟩
  · clear hx2 HA
    go_wp2_with (fail)
    refine (HB.out w2 HX2.out).mono ?_
    rintro e w3 ⟨hx3, hcB⟩
    have HX3 := Lib.hid (HX2.out.trans hx3)
    clear hx3 HB
    rcases hcB with rfl | ⟨b', m', u, rfl, _, _⟩
    all_goals
      go_wp2_with (fail)
      go_ret
      exact ⟨rfl, HX3.out⟩
  · have HT2 := Lib.hid ht
    have HGT := Lib.hid hgt
    clear hx2 ht hgt HA
    go_wp2_with (fail)
    refine (HB.out w2 HX2.out).mono ?_
    rintro e w3 ⟨hx3, hcB⟩
    have HX3 := Lib.hid (HX2.out.trans hx3)
    rcases hcB with rfl | ⟨b', m', u, rfl, hu, hgu⟩
    · clear hx3 HB
      go_wp2_with (fail)
      go_ret
      exact ⟨rfl, HX3.out⟩
    · have HT3 := Lib.hid (HT2.out.ext hx3)
      have HU3 : Hid (TS w1 w3 b' m' 60 20 u) := ⟨hu.tr.less HT2.out.ex.size, hu.pk, HT2.out.ex.trans hx3⟩
      have HGU := Lib.hid hgu
      have HOT := Lib.hid (HGT.out.ok (by omega))
      have HOU := Lib.hid (HGU.out.ok (by omega))
      clear hx3 hu hgu HB HT2
      have HPA : Hid (∀ W, Ext w3 W → Calls Tryz.prog 34 #[.pointer (some ⟨b, 0, none⟩)] W fun e w' => ∃ v, e = .returned v ∧ OwnBy w' W.heap.size v (encL (ownL (pl t))) ∧ Ext W w') := fun W hW => snapPut_any (HT3.out.ext hW) HOT.out (by omega)
      have HPB : Hid (∀ W, Ext w3 W → Calls Tryz.prog 34 #[.pointer (some ⟨b', 0, none⟩)] W fun e w' => ∃ v, e = .returned v ∧ OwnBy w' W.heap.size v (encL (ownL (pl u))) ∧ Ext W w') := fun W hW => snapPut_any (HU3.out.ext hW) HOU.out (by omega)
      have HSM := Lib.hid (fun W (hW : Ext w3 W) => snapSame_any (HT3.out.ext hW) (HU3.out.ext hW) HOT.out HOU.out (by omega) (by omega))
      have HSC : Hid (∀ W, Ext w3 W → ∀ bc mc c, TS w1 W bc mc 60 20 c → OkT (pl c) → ownL (pl c) = ownL (pl t) → Calls Tryz.prog 35 #[.pointer (some ⟨b, 0, none⟩), .pointer (some ⟨bc, 0, none⟩)] W fun e w' => e = .returned (.bool true) ∧ Ext W w') := fun W hW bc mc c h1 h2 h3 => by
        have := snapSame_any (HT3.out.ext hW) h1 HOT.out h2 (by omega) (by omega)
        rw [decide_eq_true h3.symm] at this
        exact this
      have HCP : Hid (∀ W, Ext w3 W → Calls Tryz.prog 38 #[.pointer (some ⟨b, 0, none⟩)] W fun e w' => ∃ v, e = .returned v ∧ CopyOf w1 20 t v w' ∧ Ext W w') := fun W hW => by
        refine (tsCopy (HT3.out.ext hW) (by omega)).mono ?_
        rintro e w' ⟨bc, mc, c, rfl, h1, h2, _, h4⟩
        have hl := len_same HT3.out.pk.1 h1.pk.1 h2
        exact ⟨_, rfl, ⟨bc, mc, c, rfl, h1, (HGT.out.same h2 h1.pk.1 hl).ok (by omega), own_same h1.pk.1 HT3.out.pk.1 h2⟩, h4⟩
      have hse := str_eq (mkS (encL (ownL (pl t)))) (mkS (encL (ownL (pl u))))
      have heq : decide (mkS (encL (ownL (pl t))) = mkS (encL (ownL (pl u)))) = decide (ownL (pl t) = ownL (pl u)) := by
        rw [Bool.eq_iff_iff, decide_eq_true_iff, decide_eq_true_iff]
        exact ⟨fun h => encL_inj (HGT.out.ents HT3.out.pk (by omega) (by omega)) (HGU.out.ents HU3.out.pk (by omega) (by omega)) (mkS_inj h), fun h => by rw [h]⟩
      rw [heq] at hse
      have HCA : Hid (∀ (v : Value) (W : World), BytesR W v (encL (ownL (pl t))) → (convert 66 9 v).run Tryz.prog W = .ok (.string (mkS (encL (ownL (pl t))))) W) := fun v W hb => conv_bs hb
      have HCB : Hid (∀ (v : Value) (W : World), BytesR W v (encL (ownL (pl u))) → (convert 66 9 v).run Tryz.prog W = .ok (.string (mkS (encL (ownL (pl u))))) W) := fun v W hb => conv_bs hb
      obtain ⟨SA, hSA⟩ : ∃ S, mkS (encL (ownL (pl t))) = S := ⟨_, rfl⟩
      obtain ⟨SB, hSB⟩ : ∃ S, mkS (encL (ownL (pl u))) = S := ⟨_, rfl⟩
      rw [hSA] at HCA hse
      rw [hSB] at HCB hse
      obtain ⟨BA, hBA⟩ : ∃ B, encL (ownL (pl t)) = B := ⟨_, rfl⟩
      obtain ⟨BB, hBB⟩ : ∃ B, encL (ownL (pl u)) = B := ⟨_, rfl⟩
      rw [hBA] at HPA HCA
      rw [hBB] at HPB HCB
      obtain ⟨sb, hsb⟩ : ∃ b, decide (ownL (pl t) = ownL (pl u)) = b := ⟨_, rfl⟩
      rw [hsb] at HSM hse
      have HSE := Lib.hid hse
      clear heq hSA hSB hBA hBB hsb hse
      go_upto_region 6 with (fail)
      cases sb
      all_goals
        refine' wp_region_dag0 ((19, .val _) :: (20, ⟨fun _ => True, fun v w => BytesR w v BA⟩) :: (21, .val _) :: (22, .val _) :: (23, ⟨fun _ => True, fun v w => BytesR w v BB⟩) :: (24, .val _) :: (25, .val _) :: (26, .val _) :: (27, .val _) :: (28, .val _) :: (29, .val _) :: (30, .val _) :: (31, .val _) :: (32, .val _) :: (33, ⟨fun _ => True, fun v w => CopyOf w1 20 t v w⟩) :: (34, .val _) :: (35, .val _) :: (4, .val _) :: []) (by exact ⟨fun _ _ _ _ _ => trivial, ⟨fun _ _ _ hr hv => hv.ext hr, ⟨fun _ _ _ _ _ => trivial, ⟨fun _ _ _ _ _ => trivial, ⟨fun _ _ _ hr hv => hv.ext hr, ⟨fun _ _ _ _ _ => trivial, ⟨fun _ _ _ _ _ => trivial, ⟨fun _ _ _ _ _ => trivial, ⟨fun _ _ _ _ _ => trivial, ⟨fun _ _ _ _ _ => trivial, ⟨fun _ _ _ _ _ => trivial, ⟨fun _ _ _ _ _ => trivial, ⟨fun _ _ _ _ _ => trivial, ⟨fun _ _ _ _ _ => trivial, ⟨fun _ _ _ hr hv => hv.ext hr, ⟨fun _ _ _ _ _ => trivial, ⟨fun _ _ _ _ _ => trivial, ⟨fun _ _ _ _ _ => trivial, trivial⟩⟩⟩⟩⟩⟩⟩⟩⟩⟩⟩⟩⟩⟩⟩⟩⟩⟩) (by kernel_rfl) (by kernel_rfl) (by kernel_rfl) ?_
        rotate_left 15
        repeat (first
          | (refine wpD_skipv ?_ ?_ ?_
             focus rfl
             focus rfl
             simp only [Act.put, List.setIfInBounds_toArray, List.set_cons_succ, List.set_cons_zero])
          | (refine' wpD_val (c := _) ?_ (fun w => Kp.refl _ w) ?_ (fun wq hwq hfq => ?_) ?_
             rotate_left
             focus rfl
             focus rfl
             focus ((have hse := HSE.out; (first | have k1 := HCA.out v20 wq (hfq 20 rfl) | have k1 := HCB.out v23 wq (hfq 23 rfl) | skip)); go_simp; first | done | rfl)
             simp only [Act.put, List.setIfInBounds_toArray, List.set_cons_succ, List.set_cons_zero])
          | (refine' wpD_con (c := _) ?_ ?_ (fun wq hwq hfq => ?_) ?_
             rotate_left
             focus rfl
             focus rfl
             focus ((have hse := HSE.out; (first | have k1 := HCA.out v20 wq (hfq 20 rfl) | have k1 := HCB.out v23 wq (hfq 23 rfl) | skip)); go_simp; (try (rw [dUpon_enter])); (first | ((with_reducible refine (HSM.out _ hwq).mono ?_); rintro e w' ⟨rfl, hx⟩; exact DEnd.con hx) | (have hfc := hfq 33 rfl; obtain ⟨bc, mc, c, rfl, h1, h2, h3⟩ := hfc; refine (HSC.out _ hwq bc mc c h1 h2 h3).mono ?_; rintro e w' ⟨rfl, hx⟩; exact DEnd.con hx)))
             simp only [Act.put, List.setIfInBounds_toArray, List.set_cons_succ, List.set_cons_zero])
          | (refine wpD_made (A := fun _ => True) (V := fun v w => BytesR w v BA) 20 ?_ ?_ ?_ ?_ (fun wq hwq hfq => ?_) (fun v20 h20 => ?_)
             focus rfl
             focus rfl
             focus (exact ⟨undef, trivial⟩)
             focus rfl
             focus ((have hse := HSE.out; (first | have k1 := HCA.out v20 wq (hfq 20 rfl) | have k1 := HCB.out v23 wq (hfq 23 rfl) | skip)); go_simp; (try (rw [dUpon_enter])); (with_reducible refine (HPA.out _ hwq).mono ?_); rintro e w' ⟨v, rfl, hb, hx⟩; exact DEnd.made trivial hb.bytes hx)
             clear h20
             simp only [Act.put, List.setIfInBounds_toArray, List.set_cons_succ, List.set_cons_zero])
          | (refine wpD_made (A := fun _ => True) (V := fun v w => BytesR w v BB) 23 ?_ ?_ ?_ ?_ (fun wq hwq hfq => ?_) (fun v23 h23 => ?_)
             focus rfl
             focus rfl
             focus (exact ⟨undef, trivial⟩)
             focus rfl
             focus ((have hse := HSE.out; (first | have k1 := HCA.out v20 wq (hfq 20 rfl) | have k1 := HCB.out v23 wq (hfq 23 rfl) | skip)); go_simp; (try (rw [dUpon_enter])); (with_reducible refine (HPB.out _ hwq).mono ?_); rintro e w' ⟨v, rfl, hb, hx⟩; exact DEnd.made trivial hb.bytes hx)
             clear h23
             simp only [Act.put, List.setIfInBounds_toArray, List.set_cons_succ, List.set_cons_zero])
          | (refine wpD_made (A := fun _ => True) (V := fun v w => CopyOf w1 20 t v w) 33 ?_ ?_ ?_ ?_ (fun wq hwq hfq => ?_) (fun v33 h33 => ?_)
             focus rfl
             focus rfl
             focus (exact ⟨undef, trivial⟩)
             focus rfl
             focus ((have hse := HSE.out; (first | have k1 := HCA.out v20 wq (hfq 20 rfl) | have k1 := HCB.out v23 wq (hfq 23 rfl) | skip)); go_simp; (try (rw [dUpon_enter])); (with_reducible refine (HCP.out _ hwq).mono ?_); rintro e w' ⟨v, rfl, hb, hx⟩; exact DEnd.made trivial hb hx)
             clear h33
             simp only [Act.put, List.setIfInBounds_toArray, List.set_cons_succ, List.set_cons_zero])
          | fail)
        refine wpD_nil ?_
        intro w8 hx8 _
        go_wp2_with (fail)
        go_ret
        go_light
        exact ⟨rfl, HX3.out.ext hx8⟩
end Go.Proofs.YtjapjpigpakejaaGreatDoor
