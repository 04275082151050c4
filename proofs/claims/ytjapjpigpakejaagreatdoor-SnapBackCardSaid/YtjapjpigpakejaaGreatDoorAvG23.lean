/- Texts put together: AvWRefE, AvWOp, AvWOpB. -/
import Derived.Test.YtjapjpigpakejaaGreatDoorAvG22
import Derived.Laws.BytesArg
import Derived.Test.YtjapjpigpakejaaGreatDoorAvG4
import Derived.Deep.DeepCutAuto

/- Walks of package aviaryref1: Digits, Number. -/
namespace Go.Proofs.YtjapjpigpakejaaGreatDoor
set_option maxRecDepth 100000
open Go.RowKit Av

/-- Cells that lay there read as they did. -/
theorem ext_cells {w w' : World} (h : Ext w w') : ∀ b o, b < w.heap.size → w'.cell? ⟨b, o, none⟩ = w.cell? ⟨b, o, none⟩ := fun b _ hb =>
  World.cell?_of_block (w := w) (h.block b hb (fun f => f))
/-- One byte in a block of its own, as a string. -/
theorem conv_one (W : World) (g : Nat) (z : Int) (h : W.cell? ⟨g, 0, none⟩ = some (.int .u8 z)) :
    (convert 66 9 (.slice (some ⟨g, 0, none⟩) 1 1)).run Tryz.prog W = .ok (.string (strOfNums [z])) W :=
  run_convert_bytes_arg W 66 5 Tryz.underlying66 Tryz.underlying5 g 0 1 1 [z] rfl (fun i hi => by
    obtain rfl : i = 0 := by omega
    exact h) 9 Tryz.underlying9
theorem strOne (z : Int) (k : Nat) (h : z = k) : strOfNums [z] = ⟨#[UInt8.ofNat k]⟩ := by subst h; rfl

set_option maxHeartbeats 400000 in
theorem refDigits_one (z : Int) (w : World) (h0 : 0 ≤ z) (h10 : z < 10) :
    Calls Tryz.prog 106 #[.int .u64 z] w fun e w' => e = .returned (.string ⟨(Lib.decDigits z.toNat).toArray⟩) ∧ Ext w w' := by
  have hcv := conv_one
  have HR : Hid (strOfNums [48 + z] = ⟨(Lib.decDigits z.toNat).toArray⟩) := by
    show _ = _
    rw [strOne _ (48 + z.toNat) (by omega), Lib.decDigits, dif_pos (by omega)]
  go_enter Tryz.func106, Tryz.ntmps106
  go_wp2_with (fail)
  go_ret
  go_light
  exact ⟨ret_val (by rw [HR.out]; rfl), (Kp.refl _ _).alloc _⟩

set_option maxHeartbeats 800000 in
theorem refDigits_any : ∀ (k : Nat) (z : Int) (w : World), 0 ≤ z → z < 10 ^ (k + 1) → z ≤ 4294967295 →
    Calls Tryz.prog 106 #[.int .u64 z] w fun e w' => e = .returned (.string ⟨(Lib.decDigits z.toNat).toArray⟩) ∧ Ext w w' := by
  intro k
  induction k with
  | zero =>
    intro z w h0 h1 _
    exact refDigits_one z w h0 (by simpa using h1)
  | succ k ih =>
    intro z w h0 hk h64
    by_cases h10 : z < 10
    · exact refDigits_one z w h0 h10
    · have hcv := conv_one
      have IH := Lib.hid (fun W => ih (z / 10) W (by omega) (by rw [Int.pow_succ] at hk; omega) (by omega))
      have e1 : IntKind.u64.wrap (z.tdiv 10) = z / 10 := by rw [Int.tdiv_eq_ediv_of_nonneg h0]; exact IntWalk.u64_in _ (by omega)
      have e2 : z.tmod 10 = z % 10 := Int.tmod_eq_emod_of_nonneg h0
      have e3 : IntKind.u64.wrap (48 + z % 10) = 48 + z % 10 := IntWalk.u64_in _ (by omega)
      have e4 : IntKind.u8.wrap (48 + z % 10) = 48 + z % 10 := IntWalk.u8_in _ (by omega)
      have hS := strOne (48 + z % 10) (48 + z.toNat % 10) (by omega)
      have hD : Lib.decDigits z.toNat = Lib.decDigits (z / 10).toNat ++ [UInt8.ofNat (48 + z.toNat % 10)] := by
        rw [show (z / 10).toNat = z.toNat / 10 by omega]
        conv => lhs; rw [Lib.decDigits, dif_neg (by omega)]
      have hl : (Lib.decDigits (z / 10).toNat).length ≤ 20 := by rw [Lib.decDigits_length]; exact Nat.le_trans (nDigits_le 9 _ (by omega)) (by omega)
      have HE : Hid ((⟨(Lib.decDigits (z / 10).toNat).toArray⟩ : ByteArray) ++ strOfNums [48 + z % 10] = ⟨(Lib.decDigits z.toNat).toArray⟩) := by
        show _ = _
        rw [hS, hD]
        exact bytes_append _ [_]
      have hsz : (strOfNums [48 + z % 10]).size = 1 := by rw [hS]; rfl
      obtain ⟨S, hSS⟩ : ∃ S, strOfNums [48 + z % 10] = S := ⟨_, rfl⟩
      obtain ⟨D, hDD⟩ : ∃ D, Lib.decDigits (z / 10).toNat = D := ⟨_, rfl⟩
      rw [hSS] at HE hsz
      rw [hDD] at HE IH hl
      have c1 : ∀ wx, (Op.stringOp .add ⟨D.toArray⟩ S).run Tryz.prog wx = .ok (.string (⟨D.toArray⟩ ++ S)) wx := fun wx =>
        run_string_add_sum (P := Tryz.prog) wx _ _ (by have : (⟨D.toArray⟩ : ByteArray).size = D.length := rfl; omega)
      have hcv' : ∀ (W : World) (g : Nat), W.cell? ⟨g, 0, none⟩ = some (.int .u8 (48 + z % 10)) → (convert 66 9 (.slice (some ⟨g, 0, none⟩) 1 1)).run Tryz.prog W = .ok (.string S) W := fun W g h => by
        rw [hcv W g _ h, hSS]
      clear ih hk hcv hS hD hsz hSS hDD hl
      go_enter Tryz.func106, Tryz.ntmps106
      go_wp2_with (fail)
      go_region_with ((go_at_call 106; refine (IH.out _).mono ?_; rintro e w1 ⟨rfl, hx⟩; have hxc := ext_cells hx))
      all_goals
        go_wp2_with (fail)
        go_ret
        go_light
        refine ⟨ret_val (by rw [← HE.out]; rfl), ?_⟩
        first | exact (((Kp.refl _ _).drew.ext hx).alloc _) | exact ((((Kp.refl _ _).alloc _).drew).ext hx)

theorem refDigits_num (n : Int) (w : World) (h0 : 0 ≤ n) (h1 : n ≤ 2147483647) :
    Calls Tryz.prog 106 #[.int .u64 n] w fun e w' => e = .returned (.string ⟨(Lib.decDigits n.toNat).toArray⟩) ∧ Ext w w' :=
  refDigits_any 9 n w h0 (by omega) (by omega)

/-- The loop that puts noughts ahead. -/
def PadRel (D : List UInt8) (s : Value) : Prop := ∃ k : Nat, k ≤ 10 - D.length ∧ s = .string ⟨(List.replicate k 48 ++ D).toArray⟩
def strLen (v : Value) : Nat := match v with | .string s => s.size | _ => 0

set_option maxHeartbeats 800000 in
theorem refNumber_any (p : ByteArray) (n : Int) (w : World) (hp : p.size ≤ maxLen) :
    Calls Tryz.prog 77 #[.string p, .int .i64 n] w fun e w' => e = .returned (.tuple #[.string (optS (numberL p.data.toList n)), .bool (numberL p.data.toList n).isSome]) ∧ Ext w w' := by
  have H1 := Lib.hid (refGood_any p w hp)
  by_cases h0 : 0 ≤ n
  · by_cases h1 : n ≤ 2147483647
    · have HI := Lib.hid (fun w1 => refDigits_num n w1 h0 h1)
      obtain ⟨hd1, hd2⟩ := dec_len (n := n.toNat) (by omega)
      have hpad : padL n.toNat = List.replicate (10 - (Lib.decDigits n.toNat).length) 48 ++ Lib.decDigits n.toNat := rfl
      have hpl := padL_len (n := n.toNat) (by omega)
      have HN : Hid (∀ g1 g2, goodL p.data.toList = g1 → goodL (p.data.toList ++ padL n.toNat) = g2 → numberL p.data.toList n = if g1 && g2 then some (p.data.toList ++ padL n.toNat) else none) := by
        show ∀ g1 g2, _ → _ → _
        rintro g1 g2 rfl rfl
        unfold numberL
        simp [h0, h1]
      obtain ⟨D, hD⟩ : ∃ D, Lib.decDigits n.toNat = D := ⟨_, rfl⟩
      obtain ⟨Z, hZ⟩ : ∃ Z, padL n.toNat = Z := ⟨_, rfl⟩
      rw [hD] at hd1 hd2 hpad HI
      rw [hZ] at hpad hpl HN
      have HP := Lib.hid hpad
      have hu : IntKind.u64.wrap n = n := IntWalk.u64_in _ (by omega)
      clear hD hZ hpad
      go_enter Tryz.func77, Tryz.ntmps77
      go_wp2_with (fail)
      refine H1.out.mono ?_
      rintro e w1 ⟨rfl, hx1⟩
      cases g1 : goodL p.data.toList with
      | false =>
        have hr := HN.out false _ g1 rfl
        simp only [Bool.false_and, Bool.false_eq_true, if_false] at hr
        have HR := Lib.hid hr
        clear g1 hr
        go_wp2_with (fail)
        go_ret2
        go_light
        exact ⟨by rw [HR.out]; rfl, hx1⟩
      | true =>
        have G1 := Lib.hid g1
        have hql : p.size ≤ 200 := path_small p g1
        clear g1
        go_wp2_with (fail)
        refine (HI.out w1).mono ?_
        rintro e w2 ⟨rfl, hx2⟩
        go_wp2_with (fail)
        have hx := hx1.ext hx2
        go_loop [6] (PadRel D) (fun s => 10 - strLen s)
        case atStart => exact ⟨0, by omega, by simp⟩
        case round =>
          obtain ⟨k, hk, rfl⟩ := hrel
          obtain ⟨R, hR⟩ : ∃ R, List.replicate k (48 : UInt8) ++ D = R := ⟨_, rfl⟩
          have hrl : R.length = k + D.length := by rw [← hR]; simp
          have hsz : (⟨R.toArray⟩ : ByteArray).size = k + D.length := by show R.toArray.size = _; simp [hrl]
          rw [hR]
          by_cases hlt : k < 10 - D.length
          · have c1 : ∀ wx, (Op.stringOp .add ⟨#[48]⟩ ⟨R.toArray⟩).run Tryz.prog wx = .ok (.string ⟨(48 :: R).toArray⟩) wx := fun wx => by
              rw [run_string_add_sum (P := Tryz.prog) wx _ _ (by rw [hsz]; have : (⟨#[48]⟩ : ByteArray).size = 1 := rfl; omega)]
              rw [show (⟨#[48]⟩ : ByteArray) = ⟨[48].toArray⟩ from rfl, bytes_append]; rfl
            have hl10 : R.length < 10 := by omega
            have hl10' : (R.length : Int) < 10 := by omega
            have HRR : Hid (48 :: R = List.replicate (k + 1) 48 ++ D) := by show _ = _; rw [← hR]; rfl
            have HSZ := Lib.hid hsz
            clear hR hrl hsz
            go_wp2_with (fail)
            go_light
            refine ⟨⟨k + 1, by omega, by rw [HRR.out]⟩, ?_⟩
            have h1 := HSZ.out
            have h2 : (⟨(48 :: R).toArray⟩ : ByteArray).size = R.length + 1 := by show (48 :: R).toArray.size = _; simp
            have h3 : (⟨R.toArray⟩ : ByteArray).size = R.length := by show R.toArray.size = _; simp
            simp only [strLen, h2, h3]
            omega
          · have hke : R = Z := by rw [← hR, HP.out, show k = 10 - D.length by omega]
            subst hke
            have hl10 : ¬ R.length < 10 := by omega
            have hl10' : ¬ (R.length : Int) < 10 := by omega
            have hRl : (⟨R.toArray⟩ : ByteArray).size ≤ 10 := by omega
            have c2 : ∀ wx, (Op.stringOp .add p ⟨R.toArray⟩).run Tryz.prog wx = .ok (.string ⟨(p.data.toList ++ R).toArray⟩) wx := fun wx => by
              rw [run_string_add_sum (P := Tryz.prog) wx _ _ (by omega)]
              conv => lhs; rw [← bytes_self p]
              rw [bytes_append]
            have HC : Hid ((⟨(p.data.toList ++ R).toArray⟩ : ByteArray).size ≤ maxLen) := by
              show (p.data.toList ++ R).toArray.size ≤ _
              rw [List.size_toArray, List.length_append, ← Lib.size_eq, hpl]; unfold maxLen; omega
            clear hR hrl hsz hpl hRl hlt hk
            go_wp2_with (fail)
            refine (refGood_any _ _ HC.out).mono ?_
            rintro e w4 ⟨rfl, hx4⟩
            rw [show (⟨(p.data.toList ++ R).toArray⟩ : ByteArray).data.toList = p.data.toList ++ R by simp]
            cases g2 : goodL (p.data.toList ++ R) with
            | false =>
              have hr := HN.out _ _ G1.out g2
              simp only [Bool.and_false, Bool.false_eq_true, if_false] at hr
              have HR := Lib.hid hr
              clear g2 hr
              go_wp2_with (fail)
              go_ret2
              go_light
              exact ⟨by rw [HR.out]; rfl, hx.ext hx4⟩
            | true =>
              have hr := HN.out _ _ G1.out g2
              simp only [Bool.and_true, if_true] at hr
              have HR := Lib.hid hr
              clear g2 hr
              go_wp2_with (fail)
              go_ret2
              go_light
              exact ⟨by rw [HR.out]; rfl, hx.ext hx4⟩
    · have hr : numberL p.data.toList n = none := by simp [numberL, h1]
      have HR := Lib.hid hr
      have h1' : 2147483647 < n := by omega
      clear hr
      go_enter Tryz.func77, Tryz.ntmps77
      go_wp2_with (fail)
      refine H1.out.mono ?_
      rintro e w1 ⟨rfl, hx1⟩
      cases g1 : goodL p.data.toList
      all_goals
        clear g1
        go_wp2_with (fail)
        go_ret2
        go_light
        exact ⟨by rw [HR.out]; rfl, hx1⟩
  · have hr : numberL p.data.toList n = none := by simp [numberL, h0]
    have HR := Lib.hid hr
    have h0' : n < 0 := by omega
    clear hr
    go_enter Tryz.func77, Tryz.ntmps77
    go_wp2_with (fail)
    refine H1.out.mono ?_
    rintro e w1 ⟨rfl, hx1⟩
    cases g1 : goodL p.data.toList
    all_goals
      clear g1
      go_wp2_with (fail)
      go_ret2
      go_light
      exact ⟨by rw [HR.out]; rfl, hx1⟩
end Go.Proofs.YtjapjpigpakejaaGreatDoor

/- Walks of package op: Good and what it calls. -/
namespace Go.Proofs.YtjapjpigpakejaaGreatDoor
set_option maxRecDepth 100000
open Go.RowKit Av

set_option maxHeartbeats 400000 in
theorem versioned_any (k : Int) (w : World) : Calls Tryz.prog 115 #[.int .i64 k] w fun e w' => e = .returned (.bool (versionedB k)) ∧ w = w' := by
  go_enter Tryz.func115, Tryz.ntmps115
  go_wp2_with (fail)
  all_goals
    go_ret
    go_light
    refine ⟨ret_bool ?_, rfl⟩
    rw [Bool.eq_iff_iff]
    simp [versionedB, *]

set_option maxHeartbeats 800000 in
theorem formed_any (o : OpV) (w : World) (hG : GL w) (hp : o.path.size ≤ maxLen) :
    Calls Tryz.prog 94 #[o.val] w fun e w' => e = .returned (.bool (formedB o)) ∧ Ext w w' := by
  obtain ⟨k, p, d, v, f⟩ := o
  unfold OpV.val
  have HG := Lib.hid (fun W (k : Ext w W) => Good_any p W (hG.ext k) hp)
  have HF : Hid (∀ g, goodL p.data.toList = g → formedB ⟨k, p, d, v, f⟩ = (decide (1 ≤ k) && (decide (k ≤ 7) && (g && (decide (-1 ≤ v) && (decide (0 ≤ f) && decide (f ≤ 3))))))) := by
    show ∀ g, _ → _
    rintro g rfl
    rfl
  simp only
  go_enter Tryz.func94, Tryz.ntmps94
  go_wp2_with (go_at_call 53; refine (HG.out _ ((Kp.refl _ _).alloc _)).mono ?_; rintro e w1 ⟨rfl, hx⟩; have hxc := ext_cells hx)
  all_goals
    go_ret
    go_light
    refine ⟨ret_bool ?_, ?_⟩
    · rw [HF.out _ rfl, Bool.eq_iff_iff]
      simp [*]
      try (intros; omega)
    · first | exact ((Kp.refl _ _).alloc _).ext hx | exact (Kp.refl _ _).alloc _

set_option maxHeartbeats 1600000 in
theorem own_any (o : OpV) (w : World) (hd : o.data.size ≤ maxLen) :
    Calls Tryz.prog 95 #[o.val] w fun e w' => e = .returned (.bool (ownB o)) ∧ Ext w w' := by
  obtain ⟨k, p, d, v, f⟩ := o
  unfold OpV.val
  have hv := versioned_any k
  have HV := Lib.hid hv
  have hsz : decide (d.size = 0) = (d.toList == []) := by
    rw [Lib.size_eq, Lib.toList_data, Bool.eq_iff_iff, decide_eq_true_eq, beq_iff_eq, List.length_eq_zero_iff]
  have HF : Hid (ownB ⟨k, p, d, v, f⟩ = (((d.toList == []) || (decide (k = 1) || decide (k = 3))) && ((decide (v = 0) || versionedB k) && (decide (f = 0) || decide (k = 1))))) := by
    show _ = _
    unfold ownB
    simp only [hsz]
  simp only at hd ⊢
  clear hv hsz
  go_enter Tryz.func95, Tryz.ntmps95
  go_upto_region 1 with (fail)
  go_cut [0, 3] (fun s0 s wx => s0 = .agg #[.int .i64 k, .string p, .string d, .int .i64 v, .int .i64 f] ∧ s = .bool ((d.toList == []) || (decide (k = 1) || decide (k = 3))) ∧ wx = w.alloc (.cells #[.int .i64 k, .string p, .string d, .int .i64 v, .int .i64 f] 30))
  case first =>
    go_wp2_with (fail)
    all_goals
      go_meet
      go_light
      refine ⟨by simp [*], congrArg Value.bool ?_, by simp [*]⟩
      rw [Bool.eq_iff_iff]
      simp [*]
  case rest =>
    obtain ⟨rfl, rfl, rfl⟩ := hcut
    obtain ⟨b, hb⟩ : ∃ b, ((d.toList == []) || (decide (k = 1) || decide (k = 3))) = b := ⟨_, rfl⟩
    rw [hb] at HF ⊢
    clear hb
    go_wp2_with (go_at_call 115; refine (HV.out _).mono ?_; rintro e w1 ⟨rfl, rfl⟩)
    all_goals
      go_ret
      go_light
      refine ⟨ret_bool ?_, (Kp.refl _ _).alloc _⟩
      rw [HF.out, Bool.eq_iff_iff]
      simp [*]
end Go.Proofs.YtjapjpigpakejaaGreatDoor

/- Walks of package op: numbered, Good. -/
namespace Go.Proofs.YtjapjpigpakejaaGreatDoor
set_option maxRecDepth 100000
open Go.RowKit Av

theorem flags_cases {o : OpV} (h : formedB o = true) : o.flags = 0 ∨ o.flags = 1 ∨ o.flags = 2 ∨ o.flags = 3 := by
  simp only [formedB, Bool.and_eq_true, decide_eq_true_eq] at h
  omega

set_option maxHeartbeats 1600000 in
theorem numbered_any (o : OpV) (w : World) (hG : GT w) (hp : o.path.size ≤ maxLen) (h : formedB o = true) :
    Calls Tryz.prog 96 #[o.val] w fun e w' => e = .returned (.bool (numberedB o)) ∧ Ext w w' := by
  have hf := flags_cases h
  obtain ⟨k, p, d, v, f⟩ := o
  unfold OpV.val
  simp only at hp hf ⊢
  have HN := Lib.hid (fun W (k : Ext w W) => pathNumber_any p 0 W (hG.ext k) hp)
  have HP := Lib.hid (fun W (k : Ext w W) => Parts_any p W (hG.gl.ext k) hp)
  obtain ⟨n, hn⟩ : ∃ n, (partsL p.data.toList).length = n := ⟨_, rfl⟩
  obtain ⟨s, hs⟩ : ∃ s, optS (numberL p.data.toList 0) = s := ⟨_, rfl⟩
  obtain ⟨b, hb⟩ : ∃ b, (numberL p.data.toList 0).isSome = b := ⟨_, rfl⟩
  have HF : Hid (∀ (g : Int), numberedB ⟨k, p, d, v, g⟩ = (decide (g < 2) || (decide (1 < n) && b))) := by
    show ∀ g, _
    intro g
    unfold numberedB
    simp only [hn, hb]
  have he : errI (numberL p.data.toList 0) = if b then 0 else 1 := by unfold errI; rw [hb]
  rw [hs, he] at HN
  have HL := Lib.hid hn
  have hn8 : n ≤ 8 := by rw [← hn]; exact parts_len _
  clear hs he hb hn h
  rcases hf with rfl | rfl | rfl | rfl
  · go_enter Tryz.func96, Tryz.ntmps96
    go_wp2_with (fail)
    go_ret
    go_light
    exact ⟨ret_bool (by rw [HF.out]; rfl), (Kp.refl _ _).alloc _⟩
  · go_enter Tryz.func96, Tryz.ntmps96
    go_wp2_with (fail)
    go_ret
    go_light
    exact ⟨ret_bool (by rw [HF.out]; rfl), (Kp.refl _ _).alloc _⟩
  all_goals
    cases b
    all_goals
      go_enter Tryz.func96, Tryz.ntmps96
      go_wp2_with (fail)
      refine (HN.out _ ((Kp.refl _ _).alloc _)).mono ?_
      rintro e w1 ⟨rfl, hx⟩
      have hxc := ext_cells hx
      simp only [Bool.false_eq_true, if_true, if_false]
      go_wp2_with (fail)
      refine (HP.out _ (((Kp.refl _ _).alloc _).ext hx)).mono ?_
      rintro e w2 ⟨v, ps, rfl, hps, hst, hx2⟩
      obtain ⟨a', c', rfl, _, _, _⟩ := Strs.open hst
      have hl : ps.length = n := by rw [← HL.out, ← hps, List.length_map]
      rw [hl]
      clear hst hps hl
      by_cases h1 : 1 < n
      all_goals
        go_wp2_with (fail)
        go_ret
        go_light
        exact ⟨ret_bool (by rw [HF.out]; simp [h1]), (((Kp.refl _ _).alloc _).ext hx).ext hx2⟩

/-- The cells of a boxed op stay. -/
theorem box_cells {w W : World} {k : Int} {p d : ByteArray} {v f : Int} {T : TypeId} (h : Ext (w.alloc (.cells #[.int .i64 k, .string p, .string d, .int .i64 v, .int .i64 f] T)) W) :
    W.cell? ⟨w.heap.size, 0, none⟩ = some (.int .i64 k) ∧ W.cell? ⟨w.heap.size, 1, none⟩ = some (.string p) ∧ W.cell? ⟨w.heap.size, 2, none⟩ = some (.string d) ∧ W.cell? ⟨w.heap.size, 3, none⟩ = some (.int .i64 v) ∧ W.cell? ⟨w.heap.size, 4, none⟩ = some (.int .i64 f) := by
  refine ⟨?_, ?_, ?_, ?_, ?_⟩ <;> exact h.cell (by simp) (fun f => f)

set_option maxHeartbeats 1600000 in
theorem opGood_any (o : OpV) (w : World) (hG : GT w) (hp : o.path.size ≤ maxLen) (hd : o.data.size ≤ maxLen) :
    Calls Tryz.prog 67 #[o.val] w fun e w' => e = .returned (.int .i64 (goodO o)) ∧ Ext w w' := by
  have H1 := Lib.hid (fun W (k : Ext w W) => formed_any o W (hG.gl.ext k) hp)
  have H2 := Lib.hid (fun W (_ : Ext w W) => own_any o W hd)
  have H3 := Lib.hid (fun W (k : Ext w W) h => numbered_any o W (hG.ext k) hp h)
  have HF : Hid (goodO o = if formedB o then (if 1000 < o.data.size then 2 else if ownB o && numberedB o then 0 else 1) else 1) := by show _ = _; rfl
  obtain ⟨k, p, d, v, f⟩ := o
  generalize formedB ⟨k, p, d, v, f⟩ = b1 at *
  generalize ownB ⟨k, p, d, v, f⟩ = b2 at *
  generalize numberedB ⟨k, p, d, v, f⟩ = b3 at *
  generalize goodO ⟨k, p, d, v, f⟩ = g at *
  unfold OpV.val at *
  simp only at hp hd H1 H2 H3 HF ⊢
  unfold maxLen at hd
  have hE0 : Ext w (w.alloc (.cells #[.int .i64 k, .string p, .string d, .int .i64 v, .int .i64 f] 30)) := (Kp.refl _ _).alloc _
  go_enter Tryz.func67, Tryz.ntmps67
  go_wp2_with (fail)
  refine (H1.out _ hE0).mono ?_
  rintro e w1 ⟨rfl, hx1⟩
  obtain ⟨x0, x1, x2, x3, x4⟩ := box_cells hx1
  have hE1 := hE0.ext hx1
  cases b1 with
  | false =>
    go_wp2_with (fail)
    go_ret
    go_light
    exact ⟨ret_val (by rw [HF.out]; rfl), hE1⟩
  | true =>
    by_cases hbig : d.size ≤ 1000
    · go_wp2_with (fail)
      refine (H2.out _ hE1).mono ?_
      rintro e w2 ⟨rfl, hx2⟩
      obtain ⟨y0, y1, y2, y3, y4⟩ := box_cells (hx1.ext hx2)
      have hE2 := hE1.ext hx2
      have hbig' : ¬ 1000 < d.size := by omega
      cases b2 with
      | false =>
        go_wp2_with (fail)
        go_ret
        go_light
        exact ⟨ret_val (by rw [HF.out]; first | (simp [hbig']; done) | (simp [hbig']; rfl)), hE2⟩
      | true =>
        go_wp2_with (fail)
        refine (H3.out _ hE2 trivial).mono ?_
        rintro e w3 ⟨rfl, hx3⟩
        have hE3 := hE2.ext hx3
        cases b3
        all_goals
          go_wp2_with (fail)
          go_ret
          go_light
          exact ⟨ret_val (by rw [HF.out]; first | (simp [hbig']; done) | (simp [hbig']; rfl)), hE3⟩
    · have hbig' : 1000 < d.size := by omega
      go_wp2_with (fail)
      go_ret
      go_light
      exact ⟨ret_val (by rw [HF.out]; first | (simp [hbig']; done) | (simp [hbig']; rfl)), hE1⟩
end Go.Proofs.YtjapjpigpakejaaGreatDoor
