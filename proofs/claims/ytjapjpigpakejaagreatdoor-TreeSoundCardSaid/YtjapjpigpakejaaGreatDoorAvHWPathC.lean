/- Walks of package path: Name, Top, Within, Number. -/
import Derived.Test.YtjapjpigpakejaaGreatDoorAvHWRefC
import Derived.Test.YtjapjpigpakejaaGreatDoorAvPathLaw
import Derived.Lib.LaidTab
namespace Go.Proofs.YtjapjpigpakejaaGreatDoor
set_option maxRecDepth 100000
open Go.RowKit Av

/-- The table of powers of ten, and internal/bytealg.MaxLen. -/
structure GT (w : World) : Prop where
  gl : GL w
  tab : Lib.TabIs Tryz.prog w "internal/strconv.uint64pow10" .u64 Lib.pow10Tab
theorem var_ext {P : Program} {w w' : World} {n : String} {cs : Array Value} (h : w.var? P n = some cs) (k : Ext w w') : w'.var? P n = some cs := by
  unfold World.var? at *
  cases hg : P.globalNamed n with
  | none => rw [hg] at h; cases h
  | some g =>
    rw [hg] at h
    simp only [Option.bind_some] at h ⊢
    cases hb : w.heap[g]? with
    | none => rw [hb] at h; cases h
    | some o => rw [k.obj hb (fun f => f)]; rwa [hb] at h
theorem GT.ext {w w' : World} (h : GT w) (k : Ext w w') : GT w' := ⟨h.gl.ext k, var_ext h.tab k⟩

theorem path_small (p : ByteArray) (h : goodL p.data.toList = true) : p.size ≤ 200 := by rw [Lib.size_eq]; exact (good_len _ h).2
theorem Itoa_any (n : Int) (h0 : 0 ≤ n) (h1 : n ≤ 2147483647) (w : World) (hG : GT w) :
    Calls Tryz.prog 138 #[.int .i64 n] w fun e w' => e = .returned (.string ⟨(Lib.decDigits n.toNat).toArray⟩) ∧ Ext w w' := by
  refine (Tryz.strconv_Itoa n (by omega) (by omega) w hG.tab).mono ?_
  rintro e w' ⟨rfl, k, os, rfl⟩
  refine ⟨ret_val ?_, ?_⟩
  · rw [Lib.itoa, if_neg (by omega)]
  · refine ⟨rfl, rfl, rfl, by simp [Go.Sort.grow], fun j hj _ => ?_⟩
    simp only [Go.Sort.grow]
    exact Array.getElem?_append_left hj
theorem Repeat_any (c : Int) (h0 : 0 ≤ c) (h1 : c ≤ 10) (w : World) :
    Calls Tryz.prog 139 #[.string ⟨#[48]⟩, .int .i64 c] w fun e w' => e = .returned (.string ⟨(List.replicate c.toNat (48 : UInt8)).toArray⟩) ∧ Ext w w' := by
  obtain ⟨k, rfl⟩ := Int.eq_ofNat_of_zero_le h0
  refine (Tryz.strings_Repeat ⟨#[48]⟩ k w (by omega) (by show 1 * k ≤ _; omega)).mono ?_
  rintro e w' ⟨rfl, hb⟩
  refine ⟨ret_val ?_, Kp.of_below hb⟩
  rw [show (⟨#[48]⟩ : ByteArray).data.toList = List.replicate 1 48 from rfl, Lib.repeatL_replicate, Nat.mul_one]
  rfl

set_option maxHeartbeats 400000 in
theorem pathTop_any (p : ByteArray) (w : World) (hG : GL w) (hp : p.size ≤ maxLen) :
    Calls Tryz.prog 85 #[.string p] w fun e w' => e = .returned (.string ⟨(topL p.data.toList).toArray⟩) ∧ Ext w w' := by
  have HPt := Lib.hid (Parts_any p w hG hp)
  go_enter Tryz.func85, Tryz.ntmps85
  go_wp2_with (fail)
  refine HPt.out.mono ?_
  rintro e w1 ⟨v, ps, rfl, hps, hst, hx⟩
  obtain ⟨a', c', rfl, hcc, hm, hop⟩ := Strs.open hst
  have HO := Lib.hid hop
  have HPS := Lib.hid hps
  clear hst hop hps
  by_cases h0 : 0 < ps.length
  · obtain ⟨b, off, rfl, hb, hc⟩ := HO.out h0
    have hcell := hc 0 h0
    rw [Nat.add_zero] at hcell
    have h0' : ((ps.length : Int) == 0) = false := by rw [beq_eq_false_iff_ne]; omega
    clear hc
    go_wp2_with (fail)
    go_ret
    go_light
    refine ⟨ret_val ?_, hx⟩
    have : topL p.data.toList = ps[0].data.toList := by
      unfold topL
      rw [← HPS.out]
      cases ps with
      | nil => simp at h0
      | cons x y => rfl
    rw [this, bytes_self]; rfl
  · have h0' : ((ps.length : Int) == 0) = true := by rw [beq_iff_eq]; omega
    go_wp2_with (fail)
    go_ret
    go_light
    refine ⟨ret_val ?_, hx⟩
    have : topL p.data.toList = [] := by
      unfold topL
      rw [← HPS.out, List.eq_nil_of_length_eq_zero (by omega : ps.length = 0)]; rfl
    rw [this]; rfl

/-- The last name, out of the slice of names. -/
theorem last_of {p : Bs} {ps : List ByteArray} (h : ps.map (·.data.toList) = partsL p) (h0 : ps.length - 1 < ps.length) : (⟨(lastL p).toArray⟩ : ByteArray) = ps[ps.length - 1] := by
  have : lastL p = ps[ps.length - 1].data.toList := by
    unfold lastL
    rw [← h, List.getLastD_eq_getLast?, List.getLast?_eq_getElem?, List.length_map, List.getElem?_map, List.getElem?_eq_getElem h0]
    rfl
  rw [this, bytes_self]
theorem last_nil {p : Bs} {ps : List ByteArray} (h : ps.map (·.data.toList) = partsL p) (h0 : ps.length = 0) : lastL p = [] := by
  unfold lastL
  rw [← h, List.eq_nil_of_length_eq_zero h0]; rfl

set_option maxHeartbeats 400000 in
theorem pathName_any (p : ByteArray) (w : World) (hG : GL w) (hp : p.size ≤ maxLen) :
    Calls Tryz.prog 92 #[.string p] w fun e w' => e = .returned (.string ⟨(lastL p.data.toList).toArray⟩) ∧ Ext w w' := by
  have HPt := Lib.hid (Parts_any p w hG hp)
  go_enter Tryz.func92, Tryz.ntmps92
  go_wp2_with (fail)
  refine HPt.out.mono ?_
  rintro e w1 ⟨v, ps, rfl, hps, hst, hx⟩
  obtain ⟨a', c', rfl, hcc, hm, hop⟩ := Strs.open hst
  have HO := Lib.hid hop
  have HPS := Lib.hid hps
  unfold maxLen at hm
  clear hst hop hps
  by_cases h0 : 0 < ps.length
  · obtain ⟨b, off, rfl, hb, hc⟩ := HO.out h0
    have hlt : ps.length - 1 < ps.length := by omega
    have hcell := hc (ps.length - 1) hlt
    have h0' : ((ps.length : Int) == 0) = false := by rw [beq_eq_false_iff_ne]; omega
    have q1 : 1 ≤ (ps.length : Int) := by omega
    have e2 : ((ps.length : Int) - 1).toNat = ps.length - 1 := by omega
    have HL := Lib.hid (last_of HPS.out hlt)
    clear hc
    go_wp2_with (fail)
    go_ret
    go_light
    exact ⟨ret_val (by rw [HL.out]; rfl), hx⟩
  · have h0' : ((ps.length : Int) == 0) = true := by rw [beq_iff_eq]; omega
    have HL := Lib.hid (last_nil HPS.out (by omega))
    go_wp2_with (fail)
    go_ret
    go_light
    exact ⟨ret_val (by rw [HL.out]; rfl), hx⟩

theorem hasPrefix_any (s p : ByteArray) (w : World) : Calls Tryz.prog 157 #[.string s, .string p] w fun e w' => e = .returned (.bool (p.data.toList.isPrefixOf s.data.toList)) ∧ w = w' := by
  refine (Tryz.strings_HasPrefix s p w).mono ?_
  rintro e w' ⟨rfl, rfl⟩
  exact ⟨rfl, rfl⟩

def errI (o : Option Bs) : Int := if o.isSome then 0 else 1
set_option maxHeartbeats 400000 in
theorem pathNumber_any (p : ByteArray) (n : Int) (w : World) (hG : GT w) (hp : p.size ≤ maxLen) :
    Calls Tryz.prog 116 #[.string p, .int .i64 n] w fun e w' => e = .returned (.tuple #[.string (optS (numberL p.data.toList n)), .int .i64 (errI (numberL p.data.toList n))]) ∧ Ext w w' := by
  have H1 := Lib.hid (Good_any p w hG.gl hp)
  by_cases h0 : 0 ≤ n
  · by_cases h1 : n ≤ 2147483647
    · have HI := Lib.hid (fun w1 (k : Ext w w1) => Itoa_any n h0 h1 w1 (hG.ext k))
      obtain ⟨hd1, hd2⟩ := dec_len (n := n.toNat) (by omega)
      have hpad : padL n.toNat = List.replicate (10 - (Lib.decDigits n.toNat).length) 48 ++ Lib.decDigits n.toNat := rfl
      have hpl := padL_len (n := n.toNat) (by omega)
      have HN : Hid (∀ g1 g2, goodL p.data.toList = g1 → goodL (p.data.toList ++ padL n.toNat) = g2 → numberL p.data.toList n = if g1 && g2 then some (p.data.toList ++ padL n.toNat) else none) := by
        show ∀ g1 g2, _ → _ → _
        rintro g1 g2 rfl rfl
        unfold numberL
        simp [h0, h1]
      obtain ⟨D, hD⟩ : ∃ D, Lib.decDigits n.toNat = D := ⟨_, rfl⟩
      obtain ⟨Z, hZ⟩ : ∃ Z, padL n.toNat = Z := ⟨_, rfl⟩
      rw [hD] at hd1 hd2 hpad HI
      rw [hZ] at hpad hpl HN
      have HP := Lib.hid hpad
      have hsz : (⟨D.toArray⟩ : ByteArray).size = D.length := by simp [ByteArray.size]
      have HSZ := Lib.hid hsz
      clear hD hZ hpad hsz
      go_enter Tryz.func116, Tryz.ntmps116
      go_wp2_with (fail)
      refine H1.out.mono ?_
      rintro e w1 ⟨rfl, hx1⟩
      cases g1 : goodL p.data.toList with
      | false =>
        have hr := HN.out false _ g1 rfl
        simp only [Bool.false_and, Bool.false_eq_true, if_false] at hr
        have HR := Lib.hid hr
        clear g1 hr
        go_wp2_with (fail)
        go_ret2
        go_light
        exact ⟨by rw [HR.out]; rfl, hx1⟩
      | true =>
        have G1 := Lib.hid g1
        have hql : p.size ≤ 200 := path_small p g1
        clear g1
        go_wp2_with (fail)
        refine (HI.out w1 hx1).mono ?_
        rintro e w2 ⟨rfl, hx2⟩
        go_wp2_with (fail)
        refine (Repeat_any (10 - (D.length : Int)) (by omega) (by omega) w2).mono ?_
        rintro e w3 ⟨rfl, hx3⟩
        rw [show (10 - (D.length : Int)).toNat = 10 - D.length by omega]
        obtain ⟨R, hR⟩ : ∃ R, List.replicate (10 - D.length) (48 : UInt8) = R := ⟨_, rfl⟩
        have hrl : R.length = 10 - D.length := by rw [← hR]; simp
        have hRl : (⟨R.toArray⟩ : ByteArray).size ≤ 10 := by show R.toArray.size ≤ 10; simp; omega
        have hDl : (⟨D.toArray⟩ : ByteArray).size ≤ 10 := by show D.toArray.size ≤ 10; simp; omega
        have HC : Hid (p ++ (⟨R.toArray⟩ ++ ⟨D.toArray⟩) = (⟨(p.data.toList ++ Z).toArray⟩ : ByteArray)) := by
          show _ = _
          conv => lhs; rw [← bytes_self p]
          rw [bytes_append, bytes_append, ← hR, ← HP.out]
        have hRD : (⟨R.toArray⟩ ++ ⟨D.toArray⟩ : ByteArray).size ≤ 20 := by rw [bytes_append]; show (R ++ D).toArray.size ≤ 20; simp; omega
        have c2 : ∀ wx, (Op.stringOp .add p (⟨R.toArray⟩ ++ ⟨D.toArray⟩)).run Tryz.prog wx = .ok (.string ⟨(p.data.toList ++ Z).toArray⟩) wx := fun wx => by
          rw [run_string_add_sum (P := Tryz.prog) wx _ _ (by omega), HC.out]
        rw [hR]
        clear hR hrl
        go_wp2_with (fail)
        have hx := (hx1.ext hx2).ext hx3
        refine (Good_any _ _ (hG.gl.ext hx) (by show (p.data.toList ++ Z).toArray.size ≤ _; rw [List.size_toArray, List.length_append, ← Lib.size_eq, hpl]; unfold maxLen; omega)).mono ?_
        rintro e w4 ⟨rfl, hx4⟩
        rw [show (⟨(p.data.toList ++ Z).toArray⟩ : ByteArray).data.toList = p.data.toList ++ Z by simp]
        cases g2 : goodL (p.data.toList ++ Z) with
        | false =>
          have hr := HN.out _ _ G1.out g2
          simp only [Bool.and_false, Bool.false_eq_true, if_false] at hr
          have HR := Lib.hid hr
          clear g2 hr
          go_wp2_with (fail)
          go_ret2
          go_light
          exact ⟨by rw [HR.out]; rfl, hx.ext hx4⟩
        | true =>
          have hr := HN.out _ _ G1.out g2
          simp only [Bool.and_true, if_true] at hr
          have HR := Lib.hid hr
          clear g2 hr
          go_wp2_with (fail)
          go_ret2
          go_light
          exact ⟨by rw [HR.out]; rfl, hx.ext hx4⟩
    · have hr : numberL p.data.toList n = none := by simp [numberL, h1]
      have HR := Lib.hid hr
      have h1' : 2147483647 < n := by omega
      clear hr
      go_enter Tryz.func116, Tryz.ntmps116
      go_wp2_with (fail)
      refine H1.out.mono ?_
      rintro e w1 ⟨rfl, hx1⟩
      cases g1 : goodL p.data.toList
      all_goals
        clear g1
        go_wp2_with (fail)
        go_ret2
        go_light
        exact ⟨by rw [HR.out]; rfl, hx1⟩
  · have hr : numberL p.data.toList n = none := by simp [numberL, h0]
    have HR := Lib.hid hr
    have h0' : n < 0 := by omega
    clear hr
    go_enter Tryz.func116, Tryz.ntmps116
    go_wp2_with (fail)
    refine H1.out.mono ?_
    rintro e w1 ⟨rfl, hx1⟩
    cases g1 : goodL p.data.toList
    all_goals
      clear g1
      go_wp2_with (fail)
      go_ret2
      go_light
      exact ⟨by rw [HR.out]; rfl, hx1⟩
end Go.Proofs.YtjapjpigpakejaaGreatDoor
