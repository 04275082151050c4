/- Texts put together: AvWRefC, AvWPathC. -/
import Derived.Test.YtjapjpigpakejaaGreatDoorAvG13
import Derived.Test.YtjapjpigpakejaaGreatDoorAvG5
import Derived.Lib.LaidTab

/- Walks of package aviaryref1: Parts, Good, Top, Parent. -/
namespace Go.Proofs.YtjapjpigpakejaaGreatDoor
set_option maxRecDepth 100000
open Go.RowKit Av

theorem parts_no (p : Bs) (h : goodL p = false) : partsL p = [] := by simp [partsL, h]
theorem parts_cut (t : Bs) (h : t.length < 200) : partsL (47 :: t) = if (cut t).length ≤ 8 then (if (cut t).all nameL then cut t else []) else [] := by
  unfold partsL
  rw [good_cons t h]
  by_cases h8 : (cut t).length ≤ 8
  · by_cases ha : (cut t).all nameL = true
    · simp [h8, ha]
    · have : (cut t).all nameL = false := by simpa using ha
      simp [h8, this]
  · simp [h8]

set_option maxHeartbeats 800000 in
theorem refParts_any (p : ByteArray) (w : World) (hp : p.size ≤ maxLen) :
    Calls Tryz.prog 44 #[.string p] w fun e w' => PartsPost w (partsL p.data.toList) e w' := by
  unfold maxLen at hp
  have HS : Hid (p.size = p.data.toList.length) := Go.Lib.size_eq p
  by_cases h1 : 2 ≤ p.size
  · by_cases h2 : p.size ≤ 200
    · obtain ⟨c, t, hct⟩ : ∃ c t, p.data.toList = c :: t := by
        cases h : p.data.toList with
        | nil => exact absurd (show p.size = 0 by rw [HS.out, h]; rfl) (by omega)
        | cons c t => exact ⟨c, t, rfl⟩
      have h0 : 0 < p.size := by omega
      have hg0 : p[0] = c := by
        have : p.data.toList[0]'(by rw [hct]; simp) = p[0] := by rw [Array.getElem_toList]; rfl
        rw [← this]; simp [hct]
      by_cases h47 : c = 47
      · subst h47
        have hz : ((p[0].toNat : Int) == 47) = true := by rw [hg0]; rfl
        have hz' : ((p[0].toNat : Int) != 47) = false := by rw [hg0]; rfl
        have HX := Lib.hid (extract_tail p t hct)
        have htl : t.length + 1 = p.size := by rw [HS.out, hct]; simp
        have hsz : (p.extract 1 p.size).size ≤ 200 := by rw [Lib.size_eq, HX.out]; omega
        have HZ := Lib.hid hsz
        have HC := Lib.hid hct
        have HP := Lib.hid (parts_cut t (by omega))
        have HTL := Lib.hid htl
        clear hg0 hct htl hsz
        go_enter Tryz.func44, Tryz.ntmps44
        go_wp2_with (fail)
        refine (refCut_any _ _ HZ.out).mono ?_
        rintro e w1 ⟨v, ps, rfl, hps, hown, hx⟩
        rw [HX.out] at hps
        have hst := hown.strs
        obtain ⟨a', c', rfl, hcc, hm, hop⟩ := Strs.open hst
        have hl : (cut t).length = ps.length := by rw [← hps]; simp
        have HPS := Lib.hid hps
        have HST := Lib.hid hst
        have HO := Lib.hid hop
        have HL := Lib.hid hl
        unfold maxLen at hm
        clear hps hst hop hl hown
        by_cases h8 : ps.length ≤ 8
        · go_wp2_with (fail)
          go_loop [4] (fun i => ∃ k : Nat, k ≤ ps.length ∧ i = .int .i64 k ∧ ((cut t).take k).all nameL = true) (fun i => ps.length - (intOf i).toNat)
          case atStart => exact ⟨0, Nat.zero_le _, rfl, rfl⟩
          case round =>
            obtain ⟨k, hk, rfl, hall⟩ := hrel
            have HA := Lib.hid hall
            clear hall
            by_cases hlt : k < ps.length
            · obtain ⟨b, off, rfl, hb, hc⟩ := HO.out (by omega)
              have hcell := hc k hlt
              obtain ⟨hk', hpk⟩ := piece ps _ HPS.out k hlt
              have hmem : (cut t)[k] ∈ cut t := List.getElem_mem hk'
              have hsz : ps[k].size ≤ maxLen := by
                have h1 := cut_len_le t _ hmem
                have h3 := HTL.out
                rw [Lib.size_eq, hpk]; unfold maxLen; omega
              have hnr : nameR ps[k].data.toList = nameL ps[k].data.toList := nameR_eq _ (by rw [hpk]; exact cut_free t _ hmem)
              have HCON := Lib.hid (refIsName_any ps[k] w1 hsz)
              have HK := Lib.hid hpk
              have HNR := Lib.hid hnr
              clear hsz hpk hmem hc hnr
              by_cases hnm : nameL ps[k].data.toList = true
              · have hn2 : nameR ps[k].data.toList = true := by rw [HNR.out]; exact hnm
                go_wp2_with (go_at_call 57; refine HCON.out.mono ?_; rintro e w' ⟨rfl, rfl⟩)
                go_round
                case rel => exact ⟨k + 1, by omega, by go_num, by rw [all_name_snoc _ _ hk', HA.out, ← HK.out, hnm]; rfl⟩
                case measure => simp [intOf]; omega
              · have hn2 : nameR ps[k].data.toList = false := by rw [HNR.out]; simpa using hnm
                have hn3 : nameL ps[k].data.toList = false := by simpa using hnm
                clear hnm
                go_wp2_with (go_at_call 57; refine HCON.out.mono ?_; rintro e w' ⟨rfl, rfl⟩)
                go_ret
                go_light
                have : (cut t).all nameL = false := by
                  rw [List.all_eq_false]; exact ⟨_, List.getElem_mem hk', by rw [← HK.out, hn3]; simp⟩
                exact ⟨.slice none 0 0, [], rfl, by rw [HC.out, HP.out, this]; simp, Strs.nil _, hx⟩
            · have hke : k = ps.length := by omega
              have HKE := Lib.hid hke
              clear hke
              go_wp2
              go_ret
              go_light
              have := HA.out
              rw [HKE.out, ← HL.out, List.take_length] at this
              exact ⟨_, ps, rfl, by rw [HPS.out, HC.out, HP.out, this, HL.out]; simp [h8], HST.out, hx⟩
        · go_wp2_with (fail)
          go_ret
          go_light
          exact ⟨.slice none 0 0, [], rfl, by rw [HC.out, HP.out, HL.out]; simp [h8], Strs.nil _, hx⟩
      · have hz' : ((p[0].toNat : Int) != 47) = true := by
          rw [hg0, bne_iff_ne]; intro e; exact h47 (UInt8.toNat_inj.1 (by show c.toNat = 47; omega))
        have HP := Lib.hid (parts_no p.data.toList (good_no _ (by rw [hct]; simpa using h47)))
        clear hg0 hct h47
        go_enter Tryz.func44, Tryz.ntmps44
        go_wp2_with (fail)
        go_ret
        exact ⟨.slice none 0 0, [], rfl, HP.out.symm, Strs.nil _, Kp.refl _ _⟩
    · have HP := Lib.hid (parts_no p.data.toList (good_long _ (by rw [← HS.out]; omega)))
      go_enter Tryz.func44, Tryz.ntmps44
      go_wp2_with (fail)
      go_ret
      exact ⟨.slice none 0 0, [], rfl, HP.out.symm, Strs.nil _, Kp.refl _ _⟩
  · have hgl : goodL p.data.toList = false := by
      cases h : goodL p.data.toList with
      | false => rfl
      | true => have := good_len _ h; rw [← HS.out] at this; omega
    have HP := Lib.hid (parts_no _ hgl)
    clear hgl
    go_enter Tryz.func44, Tryz.ntmps44
    go_wp2_with (fail)
    go_ret
    exact ⟨.slice none 0 0, [], rfl, HP.out.symm, Strs.nil _, Kp.refl _ _⟩

set_option maxHeartbeats 400000 in
theorem refGood_any (p : ByteArray) (w : World) (hp : p.size ≤ maxLen) :
    Calls Tryz.prog 55 #[.string p] w fun e w' => e = .returned (.bool (goodL p.data.toList)) ∧ Ext w w' := by
  have HPt := Lib.hid (refParts_any p w hp)
  go_enter Tryz.func55, Tryz.ntmps55
  go_wp2_with (fail)
  refine HPt.out.mono ?_
  rintro e w1 ⟨v, ps, rfl, hps, hst, hx⟩
  obtain ⟨a', c', rfl, hcc, hm, hop⟩ := Strs.open hst
  have hl : (partsL p.data.toList).length = ps.length := by rw [← hps]; simp
  clear hst hop hps
  go_wp2_with (fail)
  go_ret
  go_light
  refine ⟨ret_bool ?_, hx⟩
  rw [Bool.eq_iff_iff, good_iff_parts]
  constructor
  · intro h e
    rw [e] at hl
    simp at h hl
    omega
  · intro h
    have : 0 < (partsL p.data.toList).length := List.length_pos_iff.2 h
    simp; omega

set_option maxHeartbeats 400000 in
theorem refParent_any (p : ByteArray) (w : World) (hp : p.size ≤ maxLen) :
    Calls Tryz.prog 16 #[.string p] w fun e w' => e = .returned (.tuple #[.string (optS (parentL p.data.toList)), .bool (parentL p.data.toList).isSome]) ∧ Ext w w' := by
  have HPt := Lib.hid (refParts_any p w hp)
  by_cases hn : 2 ≤ (partsL p.data.toList).length
  · go_enter Tryz.func16, Tryz.ntmps16
    go_wp2_with (fail)
    refine HPt.out.mono ?_
    rintro e w1 ⟨v, ps, rfl, hps, hst, hx⟩
    have hl : ps.length = (partsL p.data.toList).length := by rw [← hps]; simp
    have h2 : 2 ≤ ps.length := by omega
    have h8 : ps.length ≤ 8 := by rw [hl]; exact parts_len _
    obtain ⟨a', c', rfl, hcc, hm, hopen⟩ := Strs.open hst
    obtain ⟨b, off, rfl, hb, hc⟩ := hopen (by omega)
    have hd : ps.dropLast.map (·.data.toList) = (partsL p.data.toList).dropLast := by rw [← hps, List.map_dropLast]
    have hs : Strs w1 (.slice (some ⟨b, off, none⟩) (ps.length - 1) c') ps.dropLast := by
      have e : ps.length - 1 = ps.dropLast.length := by simp
      rw [e]
      exact Strs.of_cells (by simp; omega) (by simp; omega) hb (fun i hi => by rw [List.getElem_dropLast]; exact hc i _)
    have hpl := parent_len p.data.toList
    have HCON := Lib.hid (refOf_any _ _ _ hs (by rw [hd]; omega))
    have HJ := Lib.hid (parent_some _ hn)
    have HD := Lib.hid hd
    clear hl hps hst hopen hn hc hs hd hpl
    go_wp2_with (fail)
    refine HCON.out.mono ?_
    rintro e w2 ⟨rfl, rfl⟩
    go_wp2_with (fail)
    go_ret2
    go_light
    refine ⟨?_, hx⟩
    rw [HJ.out, ← HD.out, List.map_dropLast]; rfl
  · go_enter Tryz.func16, Tryz.ntmps16
    go_wp2_with (fail)
    refine HPt.out.mono ?_
    rintro e w1 ⟨v, ps, rfl, hps, hst, hx⟩
    have hl : ps.length = (partsL p.data.toList).length := by rw [← hps]; simp
    have h2 : ps.length < 2 := by omega
    obtain ⟨a', c', rfl, hcc, hm, hopen⟩ := Strs.open hst
    clear hl hps hst hopen
    go_wp2_with (fail)
    go_ret2
    exact ⟨by rw [parent_none _ (by omega)]; rfl, hx⟩
end Go.Proofs.YtjapjpigpakejaaGreatDoor

/- Walks of package path: Name, Top, Within, Number. -/
namespace Go.Proofs.YtjapjpigpakejaaGreatDoor
set_option maxRecDepth 100000
open Go.RowKit Av

/-- The table of powers of ten, and internal/bytealg.MaxLen. -/
structure GT (w : World) : Prop where
  gl : GL w
  tab : Lib.TabIs Tryz.prog w "internal/strconv.uint64pow10" .u64 Lib.pow10Tab
theorem var_ext {P : Program} {w w' : World} {n : String} {cs : Array Value} (h : w.var? P n = some cs) (k : Ext w w') : w'.var? P n = some cs := by
  unfold World.var? at *
  cases hg : P.globalNamed n with
  | none => rw [hg] at h; cases h
  | some g =>
    rw [hg] at h
    simp only [Option.bind_some] at h ⊢
    cases hb : w.heap[g]? with
    | none => rw [hb] at h; cases h
    | some o => rw [k.obj hb (fun f => f)]; rwa [hb] at h
theorem GT.ext {w w' : World} (h : GT w) (k : Ext w w') : GT w' := ⟨h.gl.ext k, var_ext h.tab k⟩

theorem path_small (p : ByteArray) (h : goodL p.data.toList = true) : p.size ≤ 200 := by rw [Lib.size_eq]; exact (good_len _ h).2
theorem Itoa_any (n : Int) (h0 : 0 ≤ n) (h1 : n ≤ 2147483647) (w : World) (hG : GT w) :
    Calls Tryz.prog 138 #[.int .i64 n] w fun e w' => e = .returned (.string ⟨(Lib.decDigits n.toNat).toArray⟩) ∧ Ext w w' := by
  refine (Tryz.strconv_Itoa n (by omega) (by omega) w hG.tab).mono ?_
  rintro e w' ⟨rfl, k, os, rfl⟩
  refine ⟨ret_val ?_, ?_⟩
  · rw [Lib.itoa, if_neg (by omega)]
  · refine ⟨rfl, rfl, rfl, by simp [Go.Sort.grow], fun j hj _ => ?_⟩
    simp only [Go.Sort.grow]
    exact Array.getElem?_append_left hj
theorem Repeat_any (c : Int) (h0 : 0 ≤ c) (h1 : c ≤ 10) (w : World) :
    Calls Tryz.prog 139 #[.string ⟨#[48]⟩, .int .i64 c] w fun e w' => e = .returned (.string ⟨(List.replicate c.toNat (48 : UInt8)).toArray⟩) ∧ Ext w w' := by
  obtain ⟨k, rfl⟩ := Int.eq_ofNat_of_zero_le h0
  refine (Tryz.strings_Repeat ⟨#[48]⟩ k w (by omega) (by show 1 * k ≤ _; omega)).mono ?_
  rintro e w' ⟨rfl, hb⟩
  refine ⟨ret_val ?_, Kp.of_below hb⟩
  rw [show (⟨#[48]⟩ : ByteArray).data.toList = List.replicate 1 48 from rfl, Lib.repeatL_replicate, Nat.mul_one]
  rfl

set_option maxHeartbeats 400000 in
theorem pathTop_any (p : ByteArray) (w : World) (hG : GL w) (hp : p.size ≤ maxLen) :
    Calls Tryz.prog 85 #[.string p] w fun e w' => e = .returned (.string ⟨(topL p.data.toList).toArray⟩) ∧ Ext w w' := by
  have HPt := Lib.hid (Parts_any p w hG hp)
  go_enter Tryz.func85, Tryz.ntmps85
  go_wp2_with (fail)
  refine HPt.out.mono ?_
  rintro e w1 ⟨v, ps, rfl, hps, hst, hx⟩
  obtain ⟨a', c', rfl, hcc, hm, hop⟩ := Strs.open hst
  have HO := Lib.hid hop
  have HPS := Lib.hid hps
  clear hst hop hps
  by_cases h0 : 0 < ps.length
  · obtain ⟨b, off, rfl, hb, hc⟩ := HO.out h0
    have hcell := hc 0 h0
    rw [Nat.add_zero] at hcell
    have h0' : ((ps.length : Int) == 0) = false := by rw [beq_eq_false_iff_ne]; omega
    clear hc
    go_wp2_with (fail)
    go_ret
    go_light
    refine ⟨ret_val ?_, hx⟩
    have : topL p.data.toList = ps[0].data.toList := by
      unfold topL
      rw [← HPS.out]
      cases ps with
      | nil => simp at h0
      | cons x y => rfl
    rw [this, bytes_self]; rfl
  · have h0' : ((ps.length : Int) == 0) = true := by rw [beq_iff_eq]; omega
    go_wp2_with (fail)
    go_ret
    go_light
    refine ⟨ret_val ?_, hx⟩
    have : topL p.data.toList = [] := by
      unfold topL
      rw [← HPS.out, List.eq_nil_of_length_eq_zero (by omega : ps.length = 0)]; rfl
    rw [this]; rfl

/-- The last name, out of the slice of names. -/
theorem last_of {p : Bs} {ps : List ByteArray} (h : ps.map (·.data.toList) = partsL p) (h0 : ps.length - 1 < ps.length) : (⟨(lastL p).toArray⟩ : ByteArray) = ps[ps.length - 1] := by
  have : lastL p = ps[ps.length - 1].data.toList := by
    unfold lastL
    rw [← h, List.getLastD_eq_getLast?, List.getLast?_eq_getElem?, List.length_map, List.getElem?_map, List.getElem?_eq_getElem h0]
    rfl
  rw [this, bytes_self]
theorem last_nil {p : Bs} {ps : List ByteArray} (h : ps.map (·.data.toList) = partsL p) (h0 : ps.length = 0) : lastL p = [] := by
  unfold lastL
  rw [← h, List.eq_nil_of_length_eq_zero h0]; rfl

set_option maxHeartbeats 400000 in
theorem pathName_any (p : ByteArray) (w : World) (hG : GL w) (hp : p.size ≤ maxLen) :
    Calls Tryz.prog 92 #[.string p] w fun e w' => e = .returned (.string ⟨(lastL p.data.toList).toArray⟩) ∧ Ext w w' := by
  have HPt := Lib.hid (Parts_any p w hG hp)
  go_enter Tryz.func92, Tryz.ntmps92
  go_wp2_with (fail)
  refine HPt.out.mono ?_
  rintro e w1 ⟨v, ps, rfl, hps, hst, hx⟩
  obtain ⟨a', c', rfl, hcc, hm, hop⟩ := Strs.open hst
  have HO := Lib.hid hop
  have HPS := Lib.hid hps
  unfold maxLen at hm
  clear hst hop hps
  by_cases h0 : 0 < ps.length
  · obtain ⟨b, off, rfl, hb, hc⟩ := HO.out h0
    have hlt : ps.length - 1 < ps.length := by omega
    have hcell := hc (ps.length - 1) hlt
    have h0' : ((ps.length : Int) == 0) = false := by rw [beq_eq_false_iff_ne]; omega
    have q1 : 1 ≤ (ps.length : Int) := by omega
    have e2 : ((ps.length : Int) - 1).toNat = ps.length - 1 := by omega
    have HL := Lib.hid (last_of HPS.out hlt)
    clear hc
    go_wp2_with (fail)
    go_ret
    go_light
    exact ⟨ret_val (by rw [HL.out]; rfl), hx⟩
  · have h0' : ((ps.length : Int) == 0) = true := by rw [beq_iff_eq]; omega
    have HL := Lib.hid (last_nil HPS.out (by omega))
    go_wp2_with (fail)
    go_ret
    go_light
    exact ⟨ret_val (by rw [HL.out]; rfl), hx⟩

theorem hasPrefix_any (s p : ByteArray) (w : World) : Calls Tryz.prog 157 #[.string s, .string p] w fun e w' => e = .returned (.bool (p.data.toList.isPrefixOf s.data.toList)) ∧ w = w' := by
  refine (Tryz.strings_HasPrefix s p w).mono ?_
  rintro e w' ⟨rfl, rfl⟩
  exact ⟨rfl, rfl⟩

def errI (o : Option Bs) : Int := if o.isSome then 0 else 1
set_option maxHeartbeats 400000 in
theorem pathNumber_any (p : ByteArray) (n : Int) (w : World) (hG : GT w) (hp : p.size ≤ maxLen) :
    Calls Tryz.prog 116 #[.string p, .int .i64 n] w fun e w' => e = .returned (.tuple #[.string (optS (numberL p.data.toList n)), .int .i64 (errI (numberL p.data.toList n))]) ∧ Ext w w' := by
  have H1 := Lib.hid (Good_any p w hG.gl hp)
  by_cases h0 : 0 ≤ n
  · by_cases h1 : n ≤ 2147483647
    · have HI := Lib.hid (fun w1 (k : Ext w w1) => Itoa_any n h0 h1 w1 (hG.ext k))
      obtain ⟨hd1, hd2⟩ := dec_len (n := n.toNat) (by omega)
      have hpad : padL n.toNat = List.replicate (10 - (Lib.decDigits n.toNat).length) 48 ++ Lib.decDigits n.toNat := rfl
      have hpl := padL_len (n := n.toNat) (by omega)
      have HN : Hid (∀ g1 g2, goodL p.data.toList = g1 → goodL (p.data.toList ++ padL n.toNat) = g2 → numberL p.data.toList n = if g1 && g2 then some (p.data.toList ++ padL n.toNat) else none) := by
        show ∀ g1 g2, _ → _ → _
        rintro g1 g2 rfl rfl
        unfold numberL
        simp [h0, h1]
      obtain ⟨D, hD⟩ : ∃ D, Lib.decDigits n.toNat = D := ⟨_, rfl⟩
      obtain ⟨Z, hZ⟩ : ∃ Z, padL n.toNat = Z := ⟨_, rfl⟩
      rw [hD] at hd1 hd2 hpad HI
      rw [hZ] at hpad hpl HN
      have HP := Lib.hid hpad
      have hsz : (⟨D.toArray⟩ : ByteArray).size = D.length := by simp [ByteArray.size]
      have HSZ := Lib.hid hsz
      clear hD hZ hpad hsz
      go_enter Tryz.func116, Tryz.ntmps116
      go_wp2_with (fail)
      refine H1.out.mono ?_
      rintro e w1 ⟨rfl, hx1⟩
      cases g1 : goodL p.data.toList with
      | false =>
        have hr := HN.out false _ g1 rfl
        simp only [Bool.false_and, Bool.false_eq_true, if_false] at hr
        have HR := Lib.hid hr
        clear g1 hr
        go_wp2_with (fail)
        go_ret2
        go_light
        exact ⟨by rw [HR.out]; rfl, hx1⟩
      | true =>
        have G1 := Lib.hid g1
        have hql : p.size ≤ 200 := path_small p g1
        clear g1
        go_wp2_with (fail)
        refine (HI.out w1 hx1).mono ?_
        rintro e w2 ⟨rfl, hx2⟩
        go_wp2_with (fail)
        refine (Repeat_any (10 - (D.length : Int)) (by omega) (by omega) w2).mono ?_
        rintro e w3 ⟨rfl, hx3⟩
        rw [show (10 - (D.length : Int)).toNat = 10 - D.length by omega]
        obtain ⟨R, hR⟩ : ∃ R, List.replicate (10 - D.length) (48 : UInt8) = R := ⟨_, rfl⟩
        have hrl : R.length = 10 - D.length := by rw [← hR]; simp
        have hRl : (⟨R.toArray⟩ : ByteArray).size ≤ 10 := by show R.toArray.size ≤ 10; simp; omega
        have hDl : (⟨D.toArray⟩ : ByteArray).size ≤ 10 := by show D.toArray.size ≤ 10; simp; omega
        have HC : Hid (p ++ (⟨R.toArray⟩ ++ ⟨D.toArray⟩) = (⟨(p.data.toList ++ Z).toArray⟩ : ByteArray)) := by
          show _ = _
          conv => lhs; rw [← bytes_self p]
          rw [bytes_append, bytes_append, ← hR, ← HP.out]
        have hRD : (⟨R.toArray⟩ ++ ⟨D.toArray⟩ : ByteArray).size ≤ 20 := by rw [bytes_append]; show (R ++ D).toArray.size ≤ 20; simp; omega
        have c2 : ∀ wx, (Op.stringOp .add p (⟨R.toArray⟩ ++ ⟨D.toArray⟩)).run Tryz.prog wx = .ok (.string ⟨(p.data.toList ++ Z).toArray⟩) wx := fun wx => by
          rw [run_string_add_sum (P := Tryz.prog) wx _ _ (by omega), HC.out]
        rw [hR]
        clear hR hrl
        go_wp2_with (fail)
        have hx := (hx1.ext hx2).ext hx3
        refine (Good_any _ _ (hG.gl.ext hx) (by show (p.data.toList ++ Z).toArray.size ≤ _; rw [List.size_toArray, List.length_append, ← Lib.size_eq, hpl]; unfold maxLen; omega)).mono ?_
        rintro e w4 ⟨rfl, hx4⟩
        rw [show (⟨(p.data.toList ++ Z).toArray⟩ : ByteArray).data.toList = p.data.toList ++ Z by simp]
        cases g2 : goodL (p.data.toList ++ Z) with
        | false =>
          have hr := HN.out _ _ G1.out g2
          simp only [Bool.and_false, Bool.false_eq_true, if_false] at hr
          have HR := Lib.hid hr
          clear g2 hr
          go_wp2_with (fail)
          go_ret2
          go_light
          exact ⟨by rw [HR.out]; rfl, hx.ext hx4⟩
        | true =>
          have hr := HN.out _ _ G1.out g2
          simp only [Bool.and_true, if_true] at hr
          have HR := Lib.hid hr
          clear g2 hr
          go_wp2_with (fail)
          go_ret2
          go_light
          exact ⟨by rw [HR.out]; rfl, hx.ext hx4⟩
    · have hr : numberL p.data.toList n = none := by simp [numberL, h1]
      have HR := Lib.hid hr
      have h1' : 2147483647 < n := by omega
      clear hr
      go_enter Tryz.func116, Tryz.ntmps116
      go_wp2_with (fail)
      refine H1.out.mono ?_
      rintro e w1 ⟨rfl, hx1⟩
      cases g1 : goodL p.data.toList
      all_goals
        clear g1
        go_wp2_with (fail)
        go_ret2
        go_light
        exact ⟨by rw [HR.out]; rfl, hx1⟩
  · have hr : numberL p.data.toList n = none := by simp [numberL, h0]
    have HR := Lib.hid hr
    have h0' : n < 0 := by omega
    clear hr
    go_enter Tryz.func116, Tryz.ntmps116
    go_wp2_with (fail)
    refine H1.out.mono ?_
    rintro e w1 ⟨rfl, hx1⟩
    cases g1 : goodL p.data.toList
    all_goals
      clear g1
      go_wp2_with (fail)
      go_ret2
      go_light
      exact ⟨by rw [HR.out]; rfl, hx1⟩
end Go.Proofs.YtjapjpigpakejaaGreatDoor
