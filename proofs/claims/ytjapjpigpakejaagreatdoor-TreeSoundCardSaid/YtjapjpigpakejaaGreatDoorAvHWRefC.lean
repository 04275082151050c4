/- Walks of package aviaryref1: Parts, Good, Top, Parent. -/
import Derived.Test.YtjapjpigpakejaaGreatDoorAvHWRefB
namespace Go.Proofs.YtjapjpigpakejaaGreatDoor
set_option maxRecDepth 100000
open Go.RowKit Av

theorem parts_no (p : Bs) (h : goodL p = false) : partsL p = [] := by simp [partsL, h]
theorem parts_cut (t : Bs) (h : t.length < 200) : partsL (47 :: t) = if (cut t).length ≤ 8 then (if (cut t).all nameL then cut t else []) else [] := by
  unfold partsL
  rw [good_cons t h]
  by_cases h8 : (cut t).length ≤ 8
  · by_cases ha : (cut t).all nameL = true
    · simp [h8, ha]
    · have : (cut t).all nameL = false := by simpa using ha
      simp [h8, this]
  · simp [h8]

set_option maxHeartbeats 800000 in
theorem refParts_any (p : ByteArray) (w : World) (hp : p.size ≤ maxLen) :
    Calls Tryz.prog 44 #[.string p] w fun e w' => PartsPost w (partsL p.data.toList) e w' := by
  unfold maxLen at hp
  have HS : Hid (p.size = p.data.toList.length) := Go.Lib.size_eq p
  by_cases h1 : 2 ≤ p.size
  · by_cases h2 : p.size ≤ 200
    · obtain ⟨c, t, hct⟩ : ∃ c t, p.data.toList = c :: t := by
        cases h : p.data.toList with
        | nil => exact absurd (show p.size = 0 by rw [HS.out, h]; rfl) (by omega)
        | cons c t => exact ⟨c, t, rfl⟩
      have h0 : 0 < p.size := by omega
      have hg0 : p[0] = c := by
        have : p.data.toList[0]'(by rw [hct]; simp) = p[0] := by rw [Array.getElem_toList]; rfl
        rw [← this]; simp [hct]
      by_cases h47 : c = 47
      · subst h47
        have hz : ((p[0].toNat : Int) == 47) = true := by rw [hg0]; rfl
        have hz' : ((p[0].toNat : Int) != 47) = false := by rw [hg0]; rfl
        have HX := Lib.hid (extract_tail p t hct)
        have htl : t.length + 1 = p.size := by rw [HS.out, hct]; simp
        have hsz : (p.extract 1 p.size).size ≤ 200 := by rw [Lib.size_eq, HX.out]; omega
        have HZ := Lib.hid hsz
        have HC := Lib.hid hct
        have HP := Lib.hid (parts_cut t (by omega))
        have HTL := Lib.hid htl
        clear hg0 hct htl hsz
        go_enter Tryz.func44, Tryz.ntmps44
        go_wp2_with (fail)
        refine (refCut_any _ _ HZ.out).mono ?_
        rintro e w1 ⟨v, ps, rfl, hps, hown, hx⟩
        rw [HX.out] at hps
        have hst := hown.strs
        obtain ⟨a', c', rfl, hcc, hm, hop⟩ := Strs.open hst
        have hl : (cut t).length = ps.length := by rw [← hps]; simp
        have HPS := Lib.hid hps
        have HST := Lib.hid hst
        have HO := Lib.hid hop
        have HL := Lib.hid hl
        unfold maxLen at hm
        clear hps hst hop hl hown
        by_cases h8 : ps.length ≤ 8
        · go_wp2_with (fail)
          go_loop [4] (fun i => ∃ k : Nat, k ≤ ps.length ∧ i = .int .i64 k ∧ ((cut t).take k).all nameL = true) (fun i => ps.length - (intOf i).toNat)
          case atStart => exact ⟨0, Nat.zero_le _, rfl, rfl⟩
          case round =>
            obtain ⟨k, hk, rfl, hall⟩ := hrel
            have HA := Lib.hid hall
            clear hall
            by_cases hlt : k < ps.length
            · obtain ⟨b, off, rfl, hb, hc⟩ := HO.out (by omega)
              have hcell := hc k hlt
              obtain ⟨hk', hpk⟩ := piece ps _ HPS.out k hlt
              have hmem : (cut t)[k] ∈ cut t := List.getElem_mem hk'
              have hsz : ps[k].size ≤ maxLen := by
                have h1 := cut_len_le t _ hmem
                have h3 := HTL.out
                rw [Lib.size_eq, hpk]; unfold maxLen; omega
              have hnr : nameR ps[k].data.toList = nameL ps[k].data.toList := nameR_eq _ (by rw [hpk]; exact cut_free t _ hmem)
              have HCON := Lib.hid (refIsName_any ps[k] w1 hsz)
              have HK := Lib.hid hpk
              have HNR := Lib.hid hnr
              clear hsz hpk hmem hc hnr
              by_cases hnm : nameL ps[k].data.toList = true
              · have hn2 : nameR ps[k].data.toList = true := by rw [HNR.out]; exact hnm
                go_wp2_with (go_at_call 57; refine HCON.out.mono ?_; rintro e w' ⟨rfl, rfl⟩)
                go_round
                case rel => exact ⟨k + 1, by omega, by go_num, by rw [all_name_snoc _ _ hk', HA.out, ← HK.out, hnm]; rfl⟩
                case measure => simp [intOf]; omega
              · have hn2 : nameR ps[k].data.toList = false := by rw [HNR.out]; simpa using hnm
                have hn3 : nameL ps[k].data.toList = false := by simpa using hnm
                clear hnm
                go_wp2_with (go_at_call 57; refine HCON.out.mono ?_; rintro e w' ⟨rfl, rfl⟩)
                go_ret
                go_light
                have : (cut t).all nameL = false := by
                  rw [List.all_eq_false]; exact ⟨_, List.getElem_mem hk', by rw [← HK.out, hn3]; simp⟩
                exact ⟨.slice none 0 0, [], rfl, by rw [HC.out, HP.out, this]; simp, Strs.nil _, hx⟩
            · have hke : k = ps.length := by omega
              have HKE := Lib.hid hke
              clear hke
              go_wp2
              go_ret
              go_light
              have := HA.out
              rw [HKE.out, ← HL.out, List.take_length] at this
              exact ⟨_, ps, rfl, by rw [HPS.out, HC.out, HP.out, this, HL.out]; simp [h8], HST.out, hx⟩
        · go_wp2_with (fail)
          go_ret
          go_light
          exact ⟨.slice none 0 0, [], rfl, by rw [HC.out, HP.out, HL.out]; simp [h8], Strs.nil _, hx⟩
      · have hz' : ((p[0].toNat : Int) != 47) = true := by
          rw [hg0, bne_iff_ne]; intro e; exact h47 (UInt8.toNat_inj.1 (by show c.toNat = 47; omega))
        have HP := Lib.hid (parts_no p.data.toList (good_no _ (by rw [hct]; simpa using h47)))
        clear hg0 hct h47
        go_enter Tryz.func44, Tryz.ntmps44
        go_wp2_with (fail)
        go_ret
        exact ⟨.slice none 0 0, [], rfl, HP.out.symm, Strs.nil _, Kp.refl _ _⟩
    · have HP := Lib.hid (parts_no p.data.toList (good_long _ (by rw [← HS.out]; omega)))
      go_enter Tryz.func44, Tryz.ntmps44
      go_wp2_with (fail)
      go_ret
      exact ⟨.slice none 0 0, [], rfl, HP.out.symm, Strs.nil _, Kp.refl _ _⟩
  · have hgl : goodL p.data.toList = false := by
      cases h : goodL p.data.toList with
      | false => rfl
      | true => have := good_len _ h; rw [← HS.out] at this; omega
    have HP := Lib.hid (parts_no _ hgl)
    clear hgl
    go_enter Tryz.func44, Tryz.ntmps44
    go_wp2_with (fail)
    go_ret
    exact ⟨.slice none 0 0, [], rfl, HP.out.symm, Strs.nil _, Kp.refl _ _⟩

set_option maxHeartbeats 400000 in
theorem refGood_any (p : ByteArray) (w : World) (hp : p.size ≤ maxLen) :
    Calls Tryz.prog 55 #[.string p] w fun e w' => e = .returned (.bool (goodL p.data.toList)) ∧ Ext w w' := by
  have HPt := Lib.hid (refParts_any p w hp)
  go_enter Tryz.func55, Tryz.ntmps55
  go_wp2_with (fail)
  refine HPt.out.mono ?_
  rintro e w1 ⟨v, ps, rfl, hps, hst, hx⟩
  obtain ⟨a', c', rfl, hcc, hm, hop⟩ := Strs.open hst
  have hl : (partsL p.data.toList).length = ps.length := by rw [← hps]; simp
  clear hst hop hps
  go_wp2_with (fail)
  go_ret
  go_light
  refine ⟨ret_bool ?_, hx⟩
  rw [Bool.eq_iff_iff, good_iff_parts]
  constructor
  · intro h e
    rw [e] at hl
    simp at h hl
    omega
  · intro h
    have : 0 < (partsL p.data.toList).length := List.length_pos_iff.2 h
    simp; omega

set_option maxHeartbeats 400000 in
theorem refParent_any (p : ByteArray) (w : World) (hp : p.size ≤ maxLen) :
    Calls Tryz.prog 16 #[.string p] w fun e w' => e = .returned (.tuple #[.string (optS (parentL p.data.toList)), .bool (parentL p.data.toList).isSome]) ∧ Ext w w' := by
  have HPt := Lib.hid (refParts_any p w hp)
  by_cases hn : 2 ≤ (partsL p.data.toList).length
  · go_enter Tryz.func16, Tryz.ntmps16
    go_wp2_with (fail)
    refine HPt.out.mono ?_
    rintro e w1 ⟨v, ps, rfl, hps, hst, hx⟩
    have hl : ps.length = (partsL p.data.toList).length := by rw [← hps]; simp
    have h2 : 2 ≤ ps.length := by omega
    have h8 : ps.length ≤ 8 := by rw [hl]; exact parts_len _
    obtain ⟨a', c', rfl, hcc, hm, hopen⟩ := Strs.open hst
    obtain ⟨b, off, rfl, hb, hc⟩ := hopen (by omega)
    have hd : ps.dropLast.map (·.data.toList) = (partsL p.data.toList).dropLast := by rw [← hps, List.map_dropLast]
    have hs : Strs w1 (.slice (some ⟨b, off, none⟩) (ps.length - 1) c') ps.dropLast := by
      have e : ps.length - 1 = ps.dropLast.length := by simp
      rw [e]
      exact Strs.of_cells (by simp; omega) (by simp; omega) hb (fun i hi => by rw [List.getElem_dropLast]; exact hc i _)
    have hpl := parent_len p.data.toList
    have HCON := Lib.hid (refOf_any _ _ _ hs (by rw [hd]; omega))
    have HJ := Lib.hid (parent_some _ hn)
    have HD := Lib.hid hd
    clear hl hps hst hopen hn hc hs hd hpl
    go_wp2_with (fail)
    refine HCON.out.mono ?_
    rintro e w2 ⟨rfl, rfl⟩
    go_wp2_with (fail)
    go_ret2
    go_light
    refine ⟨?_, hx⟩
    rw [HJ.out, ← HD.out, List.map_dropLast]; rfl
  · go_enter Tryz.func16, Tryz.ntmps16
    go_wp2_with (fail)
    refine HPt.out.mono ?_
    rintro e w1 ⟨v, ps, rfl, hps, hst, hx⟩
    have hl : ps.length = (partsL p.data.toList).length := by rw [← hps]; simp
    have h2 : ps.length < 2 := by omega
    obtain ⟨a', c', rfl, hcc, hm, hopen⟩ := Strs.open hst
    clear hl hps hst hopen
    go_wp2_with (fail)
    go_ret2
    exact ⟨by rw [parent_none _ (by omega)]; rfl, hx⟩
end Go.Proofs.YtjapjpigpakejaaGreatDoor
