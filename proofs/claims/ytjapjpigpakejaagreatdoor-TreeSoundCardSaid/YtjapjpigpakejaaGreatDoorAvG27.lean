/- Texts put together: AvWRefD, AvWRefE. -/
import Derived.Test.YtjapjpigpakejaaGreatDoorAvHWPathC
import Derived.Deep.QuietTactic
import Derived.BigQuiet
import Derived.Deep.RegionWith
import Derived.Laws.BytesArg

/- Walks of package aviaryref1: Name, Within, Same, Digits, Number. -/
namespace Go.Proofs.YtjapjpigpakejaaGreatDoor
set_option maxRecDepth 100000
open Go.RowKit Av

set_option maxHeartbeats 400000 in
theorem refName_any (p : ByteArray) (w : World) (hp : p.size ≤ maxLen) :
    Calls Tryz.prog 18 #[.string p] w fun e w' => e = .returned (.string ⟨(lastL p.data.toList).toArray⟩) ∧ Ext w w' := by
  have HPt := Lib.hid (refParts_any p w hp)
  go_enter Tryz.func18, Tryz.ntmps18
  go_wp2_with (fail)
  refine HPt.out.mono ?_
  rintro e w1 ⟨v, ps, rfl, hps, hst, hx⟩
  obtain ⟨a', c', rfl, hcc, hm, hop⟩ := Strs.open hst
  have HO := Lib.hid hop
  have HPS := Lib.hid hps
  unfold maxLen at hm
  clear hst hop hps
  by_cases h0 : 0 < ps.length
  · obtain ⟨b, off, rfl, hb, hc⟩ := HO.out h0
    have hlt : ps.length - 1 < ps.length := by omega
    have hcell := hc (ps.length - 1) hlt
    have h0' : ((ps.length : Int) == 0) = false := by rw [beq_eq_false_iff_ne]; omega
    have q1 : 1 ≤ (ps.length : Int) := by omega
    have e2 : ((ps.length : Int) - 1).toNat = ps.length - 1 := by omega
    have HL := Lib.hid (last_of HPS.out hlt)
    clear hc
    go_wp2_with (fail)
    go_ret
    go_light
    exact ⟨ret_val (by rw [HL.out]; rfl), hx⟩
  · have h0' : ((ps.length : Int) == 0) = true := by rw [beq_iff_eq]; omega
    have HL := Lib.hid (last_nil HPS.out (by omega))
    go_wp2_with (fail)
    go_ret
    go_light
    exact ⟨ret_val (by rw [HL.out]; rfl), hx⟩

theorem str_ne (a b : ByteArray) : (a.toList != b.toList) = !decide (a = b) := by rw [bne, str_eq]
theorem take_step {α : Type} {a b : List α} {k : Nat} (h : a.take k = b.take k) (ha : k < a.length) (hb : k < b.length) (e : a[k] = b[k]) : a.take (k + 1) = b.take (k + 1) := by
  rw [List.take_succ_eq_append_getElem ha, List.take_succ_eq_append_getElem hb, h, e]
theorem map_inj {a b : List ByteArray} : a.map (·.data.toList) = b.map (·.data.toList) ↔ a = b := by
  constructor
  · intro h
    exact List.map_inj_right (fun x y e => bytes_eq e) |>.1 h
  · rintro rfl; rfl

/-- Behind k rounds of a loop that holds two slices against each other. -/
def SameRel (w : World) (xs ys : List ByteArray) (i : Value) (wr : World) : Prop :=
  ∃ k : Nat, k ≤ ys.length ∧ i = .int .i64 k ∧ xs.take k = ys.take k ∧ Ext w wr

set_option maxHeartbeats 400000 in
theorem refSame_any (va vb : Value) (xs ys : List ByteArray) (w : World) (ha : Strs w va xs) (hb : Strs w vb ys) :
    Calls Tryz.prog 29 #[va, vb] w fun e w' => e = .returned (.bool (decide (xs = ys))) ∧ Ext w w' := by
  obtain ⟨aa, ca, rfl, hca, hma, hoa⟩ := Strs.open ha
  obtain ⟨ab, cb, rfl, hcb, hmb, hob⟩ := Strs.open hb
  unfold maxLen at hma hmb
  have HA := Lib.hid hoa
  have HB := Lib.hid hob
  clear ha hb hoa hob
  by_cases hl : xs.length = ys.length
  · have hl' : ((xs.length : Int) != ys.length) = false := by rw [bne_eq_false_iff_eq]; omega
    have HL := Lib.hid hl
    clear hl
    go_enter Tryz.func29, Tryz.ntmps29
    go_wp2_with (fail)
    go_loopw [5] (SameRel w xs ys) (fun i _ => xs.length - (intOf i).toNat)
    case atStart => exact ⟨0, Nat.zero_le _, rfl, rfl, Kp.refl _ _⟩
    case round =>
      obtain ⟨k, hk, rfl, ht, hx⟩ := hrel
      have HT := Lib.hid ht
      clear ht
      by_cases hlt : k < xs.length
      · have hlt2 : k < ys.length := by rw [← HL.out]; exact hlt
        obtain ⟨b1, o1, rfl, _, hc1⟩ := HA.out (by omega)
        obtain ⟨b2, o2, rfl, _, hc2⟩ := HB.out (by omega)
        have g1 := hx.cell (hc1 k hlt) (fun f => f)
        have g2 := hx.cell (hc2 k hlt2) (fun f => f)
        have k1 : (k : Int) < xs.length := by omega
        have k2 : (k : Int) < ys.length := by omega
        have hne := str_eq xs[k] ys[k]
        clear hc1 hc2
        by_cases he : xs[k] = ys[k]
        · have hne' : (xs[k].toList == ys[k].toList) = true := by rw [hne]; simp [he]
          have HE := Lib.hid he
          clear he hne
          go_wp2_with (fail)
          go_quiet (fail)
          go_wp2_with (fail)
          go_light
          exact ⟨⟨k + 1, by omega, by go_num, take_step HT.out hlt hlt2 HE.out, hx.drewN _⟩, by simp [intOf]; omega⟩
        · have hne' : (xs[k].toList == ys[k].toList) = false := by rw [hne]; simp [he]
          have HR : Hid (decide (xs = ys) = false) := by
            show _ = false
            rw [decide_eq_false_iff_not]; rintro rfl; exact he rfl
          clear he hne
          go_wp2_with (fail)
          go_quiet (fail)
          go_wp2_with (fail)
          go_ret
          go_light
          exact ⟨ret_bool HR.out.symm, hx.drewN _⟩
      · have HR : Hid (decide (xs = ys) = true) := by
          show _ = true
          have h1 := HT.out
          have h2 := HL.out
          rw [List.take_of_length_le (by omega), List.take_of_length_le (by omega)] at h1
          exact decide_eq_true h1
        go_wp2_with (fail)
        go_ret
        go_light
        exact ⟨ret_bool HR.out.symm, hx⟩
  · have hl' : ((xs.length : Int) != ys.length) = true := by rw [bne_iff_ne]; omega
    have HR : Hid (decide (xs = ys) = false) := by
      show _ = false
      rw [decide_eq_false_iff_not]; rintro rfl; exact hl rfl
    clear hl
    go_enter Tryz.func29, Tryz.ntmps29
    go_wp2_with (fail)
    go_ret
    go_light
    exact ⟨ret_bool HR.out.symm, Kp.refl _ _⟩

theorem withinR_map {ps qs : List ByteArray} {a b : List Bs} (h1 : ps.map (·.data.toList) = a) (h2 : qs.map (·.data.toList) = b) :
    withinR a b = ((decide (ps.length ≠ 0) && (decide (qs.length ≠ 0) && decide (qs.length ≤ ps.length))) && decide (ps.take qs.length = qs)) := by
  subst h1 h2
  unfold withinR
  simp only [List.length_map, ← List.map_take]
  congr 1
  simp only [map_inj]

end Go.Proofs.YtjapjpigpakejaaGreatDoor

/- Walks of package aviaryref1: Digits, Number. -/
namespace Go.Proofs.YtjapjpigpakejaaGreatDoor
set_option maxRecDepth 100000
open Go.RowKit Av

/-- Cells that lay there read as they did. -/
theorem ext_cells {w w' : World} (h : Ext w w') : ∀ b o, b < w.heap.size → w'.cell? ⟨b, o, none⟩ = w.cell? ⟨b, o, none⟩ := fun b _ hb =>
  World.cell?_of_block (w := w) (h.block b hb (fun f => f))
/-- One byte in a block of its own, as a string. -/
theorem conv_one (W : World) (g : Nat) (z : Int) (h : W.cell? ⟨g, 0, none⟩ = some (.int .u8 z)) :
    (convert 66 9 (.slice (some ⟨g, 0, none⟩) 1 1)).run Tryz.prog W = .ok (.string (strOfNums [z])) W :=
  run_convert_bytes_arg W 66 5 Tryz.underlying66 Tryz.underlying5 g 0 1 1 [z] rfl (fun i hi => by
    obtain rfl : i = 0 := by omega
    exact h) 9 Tryz.underlying9
theorem strOne (z : Int) (k : Nat) (h : z = k) : strOfNums [z] = ⟨#[UInt8.ofNat k]⟩ := by subst h; rfl

set_option maxHeartbeats 400000 in
theorem refDigits_one (z : Int) (w : World) (h0 : 0 ≤ z) (h10 : z < 10) :
    Calls Tryz.prog 106 #[.int .u64 z] w fun e w' => e = .returned (.string ⟨(Lib.decDigits z.toNat).toArray⟩) ∧ Ext w w' := by
  have hcv := conv_one
  have HR : Hid (strOfNums [48 + z] = ⟨(Lib.decDigits z.toNat).toArray⟩) := by
    show _ = _
    rw [strOne _ (48 + z.toNat) (by omega), Lib.decDigits, dif_pos (by omega)]
  go_enter Tryz.func106, Tryz.ntmps106
  go_wp2_with (fail)
  go_ret
  go_light
  exact ⟨ret_val (by rw [HR.out]; rfl), (Kp.refl _ _).alloc _⟩

set_option maxHeartbeats 800000 in
theorem refDigits_any : ∀ (k : Nat) (z : Int) (w : World), 0 ≤ z → z < 10 ^ (k + 1) → z ≤ 4294967295 →
    Calls Tryz.prog 106 #[.int .u64 z] w fun e w' => e = .returned (.string ⟨(Lib.decDigits z.toNat).toArray⟩) ∧ Ext w w' := by
  intro k
  induction k with
  | zero =>
    intro z w h0 h1 _
    exact refDigits_one z w h0 (by simpa using h1)
  | succ k ih =>
    intro z w h0 hk h64
    by_cases h10 : z < 10
    · exact refDigits_one z w h0 h10
    · have hcv := conv_one
      have IH := Lib.hid (fun W => ih (z / 10) W (by omega) (by rw [Int.pow_succ] at hk; omega) (by omega))
      have e1 : IntKind.u64.wrap (z.tdiv 10) = z / 10 := by rw [Int.tdiv_eq_ediv_of_nonneg h0]; exact IntWalk.u64_in _ (by omega)
      have e2 : z.tmod 10 = z % 10 := Int.tmod_eq_emod_of_nonneg h0
      have e3 : IntKind.u64.wrap (48 + z % 10) = 48 + z % 10 := IntWalk.u64_in _ (by omega)
      have e4 : IntKind.u8.wrap (48 + z % 10) = 48 + z % 10 := IntWalk.u8_in _ (by omega)
      have hS := strOne (48 + z % 10) (48 + z.toNat % 10) (by omega)
      have hD : Lib.decDigits z.toNat = Lib.decDigits (z / 10).toNat ++ [UInt8.ofNat (48 + z.toNat % 10)] := by
        rw [show (z / 10).toNat = z.toNat / 10 by omega]
        conv => lhs; rw [Lib.decDigits, dif_neg (by omega)]
      have hl : (Lib.decDigits (z / 10).toNat).length ≤ 20 := by rw [Lib.decDigits_length]; exact Nat.le_trans (nDigits_le 9 _ (by omega)) (by omega)
      have HE : Hid ((⟨(Lib.decDigits (z / 10).toNat).toArray⟩ : ByteArray) ++ strOfNums [48 + z % 10] = ⟨(Lib.decDigits z.toNat).toArray⟩) := by
        show _ = _
        rw [hS, hD]
        exact bytes_append _ [_]
      have hsz : (strOfNums [48 + z % 10]).size = 1 := by rw [hS]; rfl
      obtain ⟨S, hSS⟩ : ∃ S, strOfNums [48 + z % 10] = S := ⟨_, rfl⟩
      obtain ⟨D, hDD⟩ : ∃ D, Lib.decDigits (z / 10).toNat = D := ⟨_, rfl⟩
      rw [hSS] at HE hsz
      rw [hDD] at HE IH hl
      have c1 : ∀ wx, (Op.stringOp .add ⟨D.toArray⟩ S).run Tryz.prog wx = .ok (.string (⟨D.toArray⟩ ++ S)) wx := fun wx =>
        run_string_add_sum (P := Tryz.prog) wx _ _ (by have : (⟨D.toArray⟩ : ByteArray).size = D.length := rfl; omega)
      have hcv' : ∀ (W : World) (g : Nat), W.cell? ⟨g, 0, none⟩ = some (.int .u8 (48 + z % 10)) → (convert 66 9 (.slice (some ⟨g, 0, none⟩) 1 1)).run Tryz.prog W = .ok (.string S) W := fun W g h => by
        rw [hcv W g _ h, hSS]
      clear ih hk hcv hS hD hsz hSS hDD hl
      go_enter Tryz.func106, Tryz.ntmps106
      go_wp2_with (fail)
      go_region_with ((go_at_call 106; refine (IH.out _).mono ?_; rintro e w1 ⟨rfl, hx⟩; have hxc := ext_cells hx))
      all_goals
        go_wp2_with (fail)
        go_ret
        go_light
        refine ⟨ret_val (by rw [← HE.out]; rfl), ?_⟩
        first | exact (((Kp.refl _ _).drew.ext hx).alloc _) | exact ((((Kp.refl _ _).alloc _).drew).ext hx)

theorem refDigits_num (n : Int) (w : World) (h0 : 0 ≤ n) (h1 : n ≤ 2147483647) :
    Calls Tryz.prog 106 #[.int .u64 n] w fun e w' => e = .returned (.string ⟨(Lib.decDigits n.toNat).toArray⟩) ∧ Ext w w' :=
  refDigits_any 9 n w h0 (by omega) (by omega)

/-- The loop that puts noughts ahead. -/
def PadRel (D : List UInt8) (s : Value) : Prop := ∃ k : Nat, k ≤ 10 - D.length ∧ s = .string ⟨(List.replicate k 48 ++ D).toArray⟩
def strLen (v : Value) : Nat := match v with | .string s => s.size | _ => 0

set_option maxHeartbeats 800000 in
theorem refNumber_any (p : ByteArray) (n : Int) (w : World) (hp : p.size ≤ maxLen) :
    Calls Tryz.prog 77 #[.string p, .int .i64 n] w fun e w' => e = .returned (.tuple #[.string (optS (numberL p.data.toList n)), .bool (numberL p.data.toList n).isSome]) ∧ Ext w w' := by
  have H1 := Lib.hid (refGood_any p w hp)
  by_cases h0 : 0 ≤ n
  · by_cases h1 : n ≤ 2147483647
    · have HI := Lib.hid (fun w1 => refDigits_num n w1 h0 h1)
      obtain ⟨hd1, hd2⟩ := dec_len (n := n.toNat) (by omega)
      have hpad : padL n.toNat = List.replicate (10 - (Lib.decDigits n.toNat).length) 48 ++ Lib.decDigits n.toNat := rfl
      have hpl := padL_len (n := n.toNat) (by omega)
      have HN : Hid (∀ g1 g2, goodL p.data.toList = g1 → goodL (p.data.toList ++ padL n.toNat) = g2 → numberL p.data.toList n = if g1 && g2 then some (p.data.toList ++ padL n.toNat) else none) := by
        show ∀ g1 g2, _ → _ → _
        rintro g1 g2 rfl rfl
        unfold numberL
        simp [h0, h1]
      obtain ⟨D, hD⟩ : ∃ D, Lib.decDigits n.toNat = D := ⟨_, rfl⟩
      obtain ⟨Z, hZ⟩ : ∃ Z, padL n.toNat = Z := ⟨_, rfl⟩
      rw [hD] at hd1 hd2 hpad HI
      rw [hZ] at hpad hpl HN
      have HP := Lib.hid hpad
      have hu : IntKind.u64.wrap n = n := IntWalk.u64_in _ (by omega)
      clear hD hZ hpad
      go_enter Tryz.func77, Tryz.ntmps77
      go_wp2_with (fail)
      refine H1.out.mono ?_
      rintro e w1 ⟨rfl, hx1⟩
      cases g1 : goodL p.data.toList with
      | false =>
        have hr := HN.out false _ g1 rfl
        simp only [Bool.false_and, Bool.false_eq_true, if_false] at hr
        have HR := Lib.hid hr
        clear g1 hr
        go_wp2_with (fail)
        go_ret2
        go_light
        exact ⟨by rw [HR.out]; rfl, hx1⟩
      | true =>
        have G1 := Lib.hid g1
        have hql : p.size ≤ 200 := path_small p g1
        clear g1
        go_wp2_with (fail)
        refine (HI.out w1).mono ?_
        rintro e w2 ⟨rfl, hx2⟩
        go_wp2_with (fail)
        have hx := hx1.ext hx2
        go_loop [6] (PadRel D) (fun s => 10 - strLen s)
        case atStart => exact ⟨0, by omega, by simp⟩
        case round =>
          obtain ⟨k, hk, rfl⟩ := hrel
          obtain ⟨R, hR⟩ : ∃ R, List.replicate k (48 : UInt8) ++ D = R := ⟨_, rfl⟩
          have hrl : R.length = k + D.length := by rw [← hR]; simp
          have hsz : (⟨R.toArray⟩ : ByteArray).size = k + D.length := by show R.toArray.size = _; simp [hrl]
          rw [hR]
          by_cases hlt : k < 10 - D.length
          · have c1 : ∀ wx, (Op.stringOp .add ⟨#[48]⟩ ⟨R.toArray⟩).run Tryz.prog wx = .ok (.string ⟨(48 :: R).toArray⟩) wx := fun wx => by
              rw [run_string_add_sum (P := Tryz.prog) wx _ _ (by rw [hsz]; have : (⟨#[48]⟩ : ByteArray).size = 1 := rfl; omega)]
              rw [show (⟨#[48]⟩ : ByteArray) = ⟨[48].toArray⟩ from rfl, bytes_append]; rfl
            have hl10 : R.length < 10 := by omega
            have hl10' : (R.length : Int) < 10 := by omega
            have HRR : Hid (48 :: R = List.replicate (k + 1) 48 ++ D) := by show _ = _; rw [← hR]; rfl
            have HSZ := Lib.hid hsz
            clear hR hrl hsz
            go_wp2_with (fail)
            go_light
            refine ⟨⟨k + 1, by omega, by rw [HRR.out]⟩, ?_⟩
            have h1 := HSZ.out
            have h2 : (⟨(48 :: R).toArray⟩ : ByteArray).size = R.length + 1 := by show (48 :: R).toArray.size = _; simp
            have h3 : (⟨R.toArray⟩ : ByteArray).size = R.length := by show R.toArray.size = _; simp
            simp only [strLen, h2, h3]
            omega
          · have hke : R = Z := by rw [← hR, HP.out, show k = 10 - D.length by omega]
            subst hke
            have hl10 : ¬ R.length < 10 := by omega
            have hl10' : ¬ (R.length : Int) < 10 := by omega
            have hRl : (⟨R.toArray⟩ : ByteArray).size ≤ 10 := by omega
            have c2 : ∀ wx, (Op.stringOp .add p ⟨R.toArray⟩).run Tryz.prog wx = .ok (.string ⟨(p.data.toList ++ R).toArray⟩) wx := fun wx => by
              rw [run_string_add_sum (P := Tryz.prog) wx _ _ (by omega)]
              conv => lhs; rw [← bytes_self p]
              rw [bytes_append]
            have HC : Hid ((⟨(p.data.toList ++ R).toArray⟩ : ByteArray).size ≤ maxLen) := by
              show (p.data.toList ++ R).toArray.size ≤ _
              rw [List.size_toArray, List.length_append, ← Lib.size_eq, hpl]; unfold maxLen; omega
            clear hR hrl hsz hpl hRl hlt hk
            go_wp2_with (fail)
            refine (refGood_any _ _ HC.out).mono ?_
            rintro e w4 ⟨rfl, hx4⟩
            rw [show (⟨(p.data.toList ++ R).toArray⟩ : ByteArray).data.toList = p.data.toList ++ R by simp]
            cases g2 : goodL (p.data.toList ++ R) with
            | false =>
              have hr := HN.out _ _ G1.out g2
              simp only [Bool.and_false, Bool.false_eq_true, if_false] at hr
              have HR := Lib.hid hr
              clear g2 hr
              go_wp2_with (fail)
              go_ret2
              go_light
              exact ⟨by rw [HR.out]; rfl, hx.ext hx4⟩
            | true =>
              have hr := HN.out _ _ G1.out g2
              simp only [Bool.and_true, if_true] at hr
              have HR := Lib.hid hr
              clear g2 hr
              go_wp2_with (fail)
              go_ret2
              go_light
              exact ⟨by rw [HR.out]; rfl, hx.ext hx4⟩
    · have hr : numberL p.data.toList n = none := by simp [numberL, h1]
      have HR := Lib.hid hr
      have h1' : 2147483647 < n := by omega
      clear hr
      go_enter Tryz.func77, Tryz.ntmps77
      go_wp2_with (fail)
      refine H1.out.mono ?_
      rintro e w1 ⟨rfl, hx1⟩
      cases g1 : goodL p.data.toList
      all_goals
        clear g1
        go_wp2_with (fail)
        go_ret2
        go_light
        exact ⟨by rw [HR.out]; rfl, hx1⟩
  · have hr : numberL p.data.toList n = none := by simp [numberL, h0]
    have HR := Lib.hid hr
    have h0' : n < 0 := by omega
    clear hr
    go_enter Tryz.func77, Tryz.ntmps77
    go_wp2_with (fail)
    refine H1.out.mono ?_
    rintro e w1 ⟨rfl, hx1⟩
    cases g1 : goodL p.data.toList
    all_goals
      clear g1
      go_wp2_with (fail)
      go_ret2
      go_light
      exact ⟨by rw [HR.out]; rfl, hx1⟩
end Go.Proofs.YtjapjpigpakejaaGreatDoor
