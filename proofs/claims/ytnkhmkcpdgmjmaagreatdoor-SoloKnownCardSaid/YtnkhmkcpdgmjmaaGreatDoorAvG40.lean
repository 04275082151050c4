/- Texts put together: AvSoT, AvLaw21A, AvLaw21O, AvFrameL, AvTreeCon, AvOpsArg, AvLaw21P, AvSoM. -/
import Derived.Test.YtnkhmkcpdgmjmaaGreatDoorAvG39
import Derived.Test.YtnkhmkcpdgmjmaaGreatDoorAvG20
import Derived.Test.YtnkhmkcpdgmjmaaGreatDoorAvG18
import Derived.Handed
import Derived.LaidSub
import Derived.Lib.LaidTab
import Derived.Test.YtnkhmkcpdgmjmaaGreatDoorAvG19
import Derived.Test.YtnkhmkcpdgmjmaaGreatDoorAvG8
import Derived.Carry

/- Walks: the solo: Tick (of a tree of at most 20 nodes). -/
namespace Go.Proofs.YtnkhmkcpdgmjmaaGreatDoor
set_option maxRecDepth 100000
open Go.RowKit Av

theorem remL_len (L : RL) (p : ByteArray) : (remL L p).length ≤ L.length := by
  have h1 : ∀ (M : RL), (tellL ndRem M p).length = M.length := fun M => by
    unfold tellL
    split
    · rfl
    · split
      · rfl
      · rw [List.length_set]
  unfold remL
  rw [h1]
  split
  · exact Nat.le_refl _
  · unfold delR
    rw [List.length_append, List.length_take, List.length_drop]
    omega
theorem rems_len : ∀ (l : List ByteArray) (L : RL), (l.foldl remL L).length ≤ L.length
  | [], _ => Nat.le_refl _
  | p :: l, L => Nat.le_trans (rems_len l _) (remL_len L p)
theorem gone_same : ∀ (l : List ByteArray) (s : SoV), SameS s (goneS s l)
  | [], _ => ⟨rfl, rfl, rfl, rfl, rfl⟩
  | p :: l, s => (show SameS s (fireS s p 2) from ⟨rfl, rfl, rfl, rfl, rfl⟩).trans (gone_same l _)
theorem end_tr (s : SoV) (id : Int) : (endS s id).tr = (purgeL s.tr id).1 ∧ (endS s id).room = s.room ∧ (endS s id).ss = s.ss ∧ (endS s id).zx = s.zx + 1 := by
  have h := gone_same (purgeL s.tr id).2 { s with zx := s.zx + 1, tr := (purgeL s.tr id).1 }
  exact ⟨h.tr, h.room, h.ss, h.zx⟩
theorem end_len (s : SoV) (id : Int) : (endS s id).tr.length ≤ s.tr.length := by
  rw [(end_tr s id).1]
  exact rems_len _ _
theorem ofBL_len (L : RL) (id : Int) : (ofBL L id).length ≤ L.length := by
  unfold ofBL
  rw [List.length_map]
  exact List.length_filter_le _ _
variable {w0 w w' : World} {g K N : Nat} {B : SoB} {s : SoV}
def TkRel (w0 w2 : World) (g K N : Nat) (B : SoB) (s : SoV) (l : List Int) (s13 : Value) (wr : World) : Prop := ∃ k : Nat, k ≤ l.length ∧ s13 = .int .i64 k ∧ SoPost w0 w2 g (K + 20 * k) B ((l.take k).foldl endS s) wr ∧ SoOk (N + k) ((l.take k).foldl endS s) ∧ ((l.take k).foldl endS s).tr.length ≤ 20 ∧ ((l.take k).foldl endS s).room = s.room
def TickO (w0 w : World) (g K N : Nat) (B : SoB) (X : SoV × List Int) (e : Ending) (w' : World) : Prop := ∃ v, e = .returned v ∧ w'.ownsRow w.heap.size sxT 1 v X.2.length (sxc X.2) ∧ SoPost w0 w g (K + 20 * X.2.length) B X.1 w' ∧ SoOk (N + 1 + X.2.length) X.1
set_option maxHeartbeats 6400000 in
theorem soTick_small (h : SoR w0 w g K B s) (hok : SoOk N s) (hN : N ≤ 80000) (hK : K ≤ 70000) (hG : GT w0) (hroom : s.room ≤ 100000) (hn : s.tr.length ≤ 20) :
    Calls Tryz.prog 35 #[.pointer (some ⟨g, 0, none⟩)] w (TickO w0 w g K N B (tickO s)) := by
  have c1 := h.blk.cell 1 _ rfl
  have HT := Lib.hid (sesTick_any N B.sb B.sr s.ss w h.ss hok.ss (by omega))
  have hl : (tickS s.ss).2.length ≤ 64 := by
    unfold tickS
    rw [List.length_map]
    exact Nat.le_trans (List.length_filter_le _ _) hok.ss.len
  have hok2 : SoOk (N + 1) { s with ss := (tickS s.ss).1 } := ⟨hok.ss.tick, hok.up.zx, hok.up.ev, hok.last⟩
  have hE : tickO s = ((tickS s.ss).2.foldl endS { s with ss := (tickS s.ss).1 }, (tickS s.ss).2) := rfl
  rw [hE]
  have HH := Lib.hid h
  have HOK2 := Lib.hid hok2
  have HG := Lib.hid hG
  have HN := Lib.hid hn
  have HRM := Lib.hid hroom
  unfold TickPost at HT
  generalize (tickS s.ss).2 = l at *
  generalize (tickS s.ss).1 = ss' at *
  have HL := Lib.hid hl
  clear h hok hok2 hG hn hroom hE hl
  go_enter Tryz.func35, Tryz.ntmps35
  go_wp2_with (fail)
  refine HT.out.mono ?_
  rintro e w1 ⟨v, rfl, h2, h3, h4⟩
  obtain ⟨B1, h5, hk5, ho5⟩ := HH.out.sess h4 ⟨_, h3, fun i hi => .inl hi⟩
  obtain ⟨a, c, rfl⟩ := owns_slice h2
  have HRW := Lib.hid h2
  have H5 := Lib.hid h5
  have HK5 := Lib.hid hk5
  have HO5 := Lib.hid ho5
  have hl := HL.out
  clear h2 h3 h4 h5 hk5 ho5 c1 HT
  go_wp2_with (fail)
  go_loopw [13] (fun s13 wr => TkRel w0 w1 g K (N + 1) B1 { s with ss := ss' } l s13 wr) (fun s13 _ => l.length - (intOf s13).toNat)
  case atStart => exact ⟨0, Nat.zero_le _, rfl, SoPost.refl H5.out, HOK2.out, HN.out, rfl⟩
  case round =>
    obtain ⟨k, hk, rfl, ⟨Bk, hSk, hkk, hbk⟩, hokk, htr, hrm⟩ := hrel
    have HSK := Lib.hid hSk
    have HKK := Lib.hid hkk
    have HBK := Lib.hid hbk
    have HOKK := Lib.hid hokk
    have HTR := Lib.hid htr
    have HRMK := Lib.hid hrm
    clear hSk hkk hbk hokk htr hrm
    have hrw := owns_kpT HRW.out HKK.out (H5.out.safeA.noT (by decide))
    by_cases hlt : k < l.length
    · obtain ⟨_, _, hsl, _, _, _, hop⟩ := Sl.open (Sl.of_owns hrw)
      simp only [Value.slice.injEq, true_and] at hsl
      obtain ⟨rfl, rfl⟩ := hsl
      obtain ⟨q, off, rfl, _, hc⟩ := hop (by omega)
      have cs : wr.cell? ⟨q, off + k, none⟩ = some (.int .i64 l[k]) := hc k _ (by simp [sxc, hlt])
      have hfold : (l.take (k + 1)).foldl endS { s with ss := ss' } = endS ((l.take k).foldl endS { s with ss := ss' }) l[k] := by
        rw [List.take_succ_eq_append_getElem hlt, List.foldl_append]; rfl
      have HEN := Lib.hid (soEnd_small HSK.out HOKK.out (by omega) (by omega) HG.out l[k] (by rw [HRMK.out]; exact HRM.out) (Nat.le_trans (ofBL_len _ _) HTR.out))
      have HFOLD := Lib.hid hfold
      clear hrw hop hc hfold
      generalize l[k] = id at *
      go_wp2_with (fail)
      refine HEN.out.mono ?_
      rintro e w3 ⟨⟨u, rfl⟩, h1, h2⟩
      have H1 := Lib.hid (SoPost.trans HKK.out HBK.out h1)
      have H2 := Lib.hid h2
      clear h1 h2 HEN
      go_wp2_with (fail)
      go_light
      refine ⟨⟨k + 1, ?_, ?_, ?_, ?_, ?_, ?_⟩, ?_⟩
      · omega
      · go_num
      · rw [HFOLD.out]; exact H1.out.more (by omega)
      · rw [HFOLD.out]; exact H2.out
      · rw [HFOLD.out]; exact Nat.le_trans (end_len _ _) HTR.out
      · rw [HFOLD.out, (end_tr _ _).2.1]; exact HRMK.out
      · simp [intOf]; omega
    · have hp := SoPost.trans HK5.out HO5.out (⟨Bk, HSK.out, HKK.out, HBK.out⟩ : SoPost w0 w1 g (K + 20 * k) B1 ((l.take k).foldl endS { s with ss := ss' }) wr)
      have hke : k = l.length := by omega
      have hok3 := HOKK.out
      rw [List.take_of_length_le (by omega)] at hp hok3
      rw [hke] at hp hok3
      have HP := Lib.hid hp
      have HOK3 := Lib.hid hok3
      have HRW2 := Lib.hid hrw
      clear hp hok3 hke hrw
      go_wp2_with (fail)
      go_ret
      exact ⟨_, rfl, HRW2.out, HP.out, HOK3.out⟩
end Go.Proofs.YtnkhmkcpdgmjmaaGreatDoor

/- Walks of package aviarylaw21: long, awake. -/
namespace Go.Proofs.YtnkhmkcpdgmjmaaGreatDoor
set_option maxRecDepth 100000
open Go.RowKit Av

def Long21 (w : World) (xs : List OpV) (e : Ending) (w' : World) : Prop := ∃ r : Bool, e = .returned (.bool r) ∧ (r = false → xs.length ≤ 20 ∧ ∀ k (hk : k < xs.length), xs[k].path.size ≤ 300 ∧ xs[k].data.size ≤ 1100) ∧ w = w'
def LongRel21 (w : World) (xs : List OpV) (s3 : Value) (wr : World) : Prop := ∃ k : Nat, k ≤ xs.length ∧ s3 = .int .i64 k ∧ (∀ j (hj : j < xs.length), j < k → xs[j].path.size ≤ 300 ∧ xs[j].data.size ≤ 1100) ∧ w = wr
theorem long21_any (v : Value) (xs : List OpV) (w : World) (h : OpsAt w v xs) :
    Calls Tryz.prog 29 #[v] w fun e w' => Long21 w xs e w' := by
  obtain ⟨a, c, rfl, _, hm, hop⟩ := OpsAt.open h
  have HOP := Lib.hid hop
  clear h hop
  by_cases h20 : xs.length ≤ 20
  · have h20' : ¬ (20 : Int) < (xs.length : Int) := by omega
    go_enter Tryz.func29, Tryz.ntmps29
    go_wp2_with (fail)
    go_loopw [3] (fun s3 wr => LongRel21 w xs s3 wr) (fun i _ => xs.length - (intOf i).toNat)
    case atStart => exact ⟨0, Nat.zero_le _, rfl, fun j _ hj => absurd hj (by omega), rfl⟩
    case round =>
      obtain ⟨k, hk, rfl, hall, rfl⟩ := hrel
      have HALL := Lib.hid hall
      clear hall
      by_cases hlt : k < xs.length
      · obtain ⟨b, off, rfl, _, hc⟩ := HOP.out (by omega)
        obtain ⟨q0, q1, q2, q3, q4⟩ := hc k hlt
        have HST : Hid (xs[k].path.size ≤ 300 → xs[k].data.size ≤ 1100 → ∀ j (hj : j < xs.length), j < k + 1 → xs[j].path.size ≤ 300 ∧ xs[j].data.size ≤ 1100) := fun h1 h2 j hj hjk => by
          by_cases e : j = k
          · subst e; exact ⟨h1, h2⟩
          · exact HALL.out j hj (by omega)
        generalize xs[k].path = p at *
        generalize xs[k].data = d at *
        clear hc q0 q3 q4
        by_cases h1 : p.size ≤ 300
        · have t1 : ¬ (300 : Int) < (p.size : Int) := by omega
          by_cases h2 : d.size ≤ 1100
          · have t2 : ¬ (1100 : Int) < (d.size : Int) := by omega
            have HS := Lib.hid (HST.out h1 h2)
            clear HST
            go_wp2_with (fail)
            go_light
            refine ⟨⟨k + 1, ?_, ?_, HS.out, rfl⟩, ?_⟩
            · omega
            · go_num
            · simp [intOf]; omega
          · have t2 : (1100 : Int) < (d.size : Int) := by omega
            go_wp2_with (fail)
            go_ret
            exact ⟨true, rfl, fun h => (by cases h), rfl⟩
        · have t1 : (300 : Int) < (p.size : Int) := by omega
          go_wp2_with (fail)
          go_ret
          exact ⟨true, rfl, fun h => (by cases h), rfl⟩
      · have HF : Hid (∀ j (hj : j < xs.length), xs[j].path.size ≤ 300 ∧ xs[j].data.size ≤ 1100) := fun j hj => HALL.out j hj (by omega)
        clear HALL
        go_wp2_with (fail)
        go_ret
        exact ⟨false, rfl, fun _ => ⟨h20, HF.out⟩, rfl⟩
  · have h20' : (20 : Int) < (xs.length : Int) := by omega
    go_enter Tryz.func29, Tryz.ntmps29
    go_wp2_with (fail)
    go_ret
    exact ⟨true, rfl, fun h => (by cases h), rfl⟩
def oCa : OpV := ⟨1, ⟨#[47, 97]⟩, ⟨#[]⟩, 0, 0⟩
def aw1 : SoV := (openO (soZ 10) 5).1
theorem aw_open : (openO (soZ 10) 5).2 = (1, 0) := by decide
theorem aw_law : (askS aw1 1 1 [oCa]).2.err = 0 ∧ sameRp (askS aw1 1 1 [oCa]).2 (askS (askS aw1 1 1 [oCa]).1 1 1 [oCa]).2 = true ∧ (askS (askS aw1 1 1 [oCa]).1 1 1 [oCa]).1.zx = 1 ∧ (askS (askS aw1 1 1 [oCa]).1 1 1 [oCa]).1.tr.length = 1 := by decide +kernel
set_option maxHeartbeats 3200000 in
theorem awake21_any (w : World) (hG : GT w) : Calls Tryz.prog 28 #[] w fun e w' => e = .returned (.bool true) ∧ Ext w w' := by
  have HG := Lib.hid hG
  have hl := aw_law
  obtain ⟨X, hX⟩ : ∃ X, askS aw1 1 1 [oCa] = X := ⟨_, rfl⟩
  rw [hX] at hl
  obtain ⟨Y, hY⟩ : ∃ Y, askS X.1 1 1 [oCa] = Y := ⟨_, rfl⟩
  rw [hY] at hl
  have HL := Lib.hid hl
  have HX := Lib.hid hX
  have HY := Lib.hid hY
  clear hG hl hX hY
  go_enter Tryz.func28, Tryz.ntmps28
  go_wp2_with (fail)
  refine (soS_new 10 w (by decide) (by decide)).mono ?_
  rintro e w1 ⟨g, rfl, h1, hx1⟩
  have H1 := Lib.hid h1
  clear h1 hx1
  go_wp2_with (fail)
  refine (soS_open H1.out (by decide) 5).mono ?_
  rintro e w2 ⟨rfl, h2, ho2⟩
  rw [aw_open]
  have H2 : Hid (SoS w w2 g (0 + 1) aw1) := h2
  clear h2 ho2 H1
  go_wp2_with (fail)
  obtain ⟨hxA, hoA, hsA⟩ := ops1 w2 oCa _ rfl
  have HXA := Lib.hid hxA
  have HOA := Lib.hid hoA
  have HQSZ := Lib.hid hsA
  clear hxA hoA hsA
  refine (ask21_any 1 1 _ 1 1 _).mono ?_
  rintro e w3 ⟨rfl, hx3⟩
  have HASK := Lib.hid (soS_ask H2.out (by omega) HG.out (HXA.out.trans hx3) (.slice (some ⟨(w2).heap.size, 0, none⟩) 1 1) [oCa] 1 1 (HOA.out.ext hx3) (by intro x hx; rw [List.mem_singleton.1 hx]; decide) (fun i hi => by
    have e2 : (w2).heap.size = i := by simpa [Value.ownBlock] using hi
    have h1 := Nat.lt_of_lt_of_le HQSZ.out hx3.size
    omega))
  clear hx3 HXA HOA HQSZ
  go_wp2_with (fail)
  refine HASK.out.mono ?_
  rintro e w4 ⟨u, rfl, hu1, hs1, ho1⟩
  clear HASK
  rw [HX.out] at hu1 hs1 ⊢
  have HOA := Lib.hid ho1
  obtain ⟨rsl, hrsl, hxe⟩ := hu1
  obtain ⟨ua, uc, rfl⟩ := hrsl.slice
  have HU0 : Hid (RpAt w4 0 (.slice ua rsl.length uc) X.2) := ⟨rsl, hrsl, hxe⟩
  clear hrsl hxe
  generalize rsl.length = un at *
  unfold rplA
  obtain ⟨w5, hWD⟩ : ∃ W, (w4).alloc (.cells #[.int .i64 (X.2).num, .int .i64 (X.2).zxid, .int .i64 (X.2).err, .int .i64 (X.2).at_, .slice ua un uc] rplT) = W := ⟨_, rfl⟩
  have hxD : Ext w4 w5 := by rw [← hWD]; exact (Kp.refl _ _).alloc _
  have BA : Hid (Blk w5 (w4).heap.size #[.int .i64 (X.2).num, .int .i64 (X.2).zxid, .int .i64 (X.2).err, .int .i64 (X.2).at_, .slice ua un uc] rplT) := by
    show Blk _ _ _ _
    rw [← hWD]; exact heap_alloc_new w4 _
  have HUA := Lib.hid (HU0.out.ext hxD)
  have HSA := Lib.hid ((hs1).ext hxD)
  have HXD := Lib.hid hxD
  have HWD := Lib.hid hWD
  clear ho1 hs1 HU0 hxD hWD
  go_upto_region 6 with (fail)
  rw [HWD.out]
  go_wp2_with (fail)
  obtain ⟨hxA, hoA, hsA⟩ := ops1 w5 oCa _ rfl
  have HXA := Lib.hid hxA
  have HOA := Lib.hid hoA
  have HQSZ := Lib.hid hsA
  clear hxA hoA hsA
  refine (ask21_any 1 1 _ 1 1 _).mono ?_
  rintro e w6 ⟨rfl, hx3⟩
  have HASK := Lib.hid (soS_ask HSA.out (by omega) HG.out (HXA.out.trans hx3) (.slice (some ⟨(w5).heap.size, 0, none⟩) 1 1) [oCa] 1 1 (HOA.out.ext hx3) (by intro x hx; rw [List.mem_singleton.1 hx]; decide) (fun i hi => by
    have e2 : (w5).heap.size = i := by simpa [Value.ownBlock] using hi
    have h1 := Nat.lt_of_lt_of_le HQSZ.out hx3.size
    omega))
  clear hx3 HXA HOA HQSZ
  go_wp2_with (fail)
  refine HASK.out.mono ?_
  rintro e w7 ⟨u, rfl, hu2, hs2, ho2⟩
  clear HASK
  rw [HY.out] at hu2 hs2 ⊢
  have HOB := Lib.hid ho2
  obtain ⟨rsl, hrsl, hxe⟩ := hu2
  obtain ⟨va, vc, rfl⟩ := hrsl.slice
  have HU0 : Hid (RpAt w7 0 (.slice va rsl.length vc) Y.2) := ⟨rsl, hrsl, hxe⟩
  clear hrsl hxe
  generalize rsl.length = vn at *
  unfold rplA
  obtain ⟨w8, hWD⟩ : ∃ W, (w7).alloc (.cells #[.int .i64 (Y.2).num, .int .i64 (Y.2).zxid, .int .i64 (Y.2).err, .int .i64 (Y.2).at_, .slice va vn vc] rplT) = W := ⟨_, rfl⟩
  have hxD : Ext w7 w8 := by rw [← hWD]; exact (Kp.refl _ _).alloc _
  have BB : Hid (Blk w8 (w7).heap.size #[.int .i64 (Y.2).num, .int .i64 (Y.2).zxid, .int .i64 (Y.2).err, .int .i64 (Y.2).at_, .slice va vn vc] rplT) := by
    show Blk _ _ _ _
    rw [← hWD]; exact heap_alloc_new w7 _
  have HUB := Lib.hid (HU0.out.ext hxD)
  have HSB := Lib.hid ((hs2).ext hxD)
  have HXD := Lib.hid hxD
  have HWD := Lib.hid hWD
  clear ho2 hs2 HU0 hxD hWD
  have hba := (HOB.out.blk BA.out (by decide)).kp HXD.out (fun f => f)
  have hbb := BB.out
  have hra := (HOB.out.rp HUA.out).ext HXD.out
  have hl1 : (X.2.err == 0) = true := by rw [HL.out.1]; rfl
  have a0 := hba.cell 0 _ rfl
  have a1 := hba.cell 1 _ rfl
  have a2 := hba.cell 2 _ rfl
  have a3 := hba.cell 3 _ rfl
  have a4 := hba.cell 4 _ rfl
  have b0 := hbb.cell 0 _ rfl
  have b1 := hbb.cell 1 _ rfl
  have b2 := hbb.cell 2 _ rfl
  have b3 := hbb.cell 3 _ rfl
  have b4 := hbb.cell 4 _ rfl
  have HSAME := Lib.hid (repSame_any 0 0 _ _ _ _ w8 hra HUB.out)
  rw [HL.out.2.1] at HSAME
  clear hba hbb hra
  go_upto_region 7 with (fail)
  rw [HWD.out]
  go_wp2_with (fail)
  refine HSAME.out.mono ?_
  rintro e w9 ⟨rfl, hx9⟩
  have HS9 := Lib.hid (HSB.out.ext hx9)
  clear hx9
  go_wp2_with (fail)
  refine (soS_zxid HS9.out).mono ?_
  rintro e w10 ⟨rfl, rfl⟩
  rw [HL.out.2.2.1]
  go_wp2_with (fail)
  refine (soS_tree HS9.out (by omega)).mono ?_
  rintro e w11 ⟨b', m', c', rfl, ht, hx11⟩
  have HT := Lib.hid ht
  have HX11 := Lib.hid (HS9.out.ex.trans hx11)
  have HLN : Hid (((pl c').length : Int) = 1) := by
    show _ = _
    rw [← ht.len, HL.out.2.2.2]; rfl
  clear ht hx11
  go_wp2_with (fail)
  refine (tsLen HT.out.ts).mono ?_
  rintro e w12 ⟨rfl, rfl⟩
  rw [HLN.out]
  go_wp2_with (fail)
  go_ret
  exact ⟨rfl, HX11.out⟩
end Go.Proofs.YtnkhmkcpdgmjmaaGreatDoor

/- Walks of package aviarylaw21: nd, own. -/
namespace Go.Proofs.YtnkhmkcpdgmjmaaGreatDoor
set_option maxRecDepth 100000
open Go.RowKit Av
end Go.Proofs.YtnkhmkcpdgmjmaaGreatDoor

/- The frame of a law's row, where the row lists tables. -/
namespace Go.Proofs.YtnkhmkcpdgmjmaaGreatDoor
set_option maxRecDepth 100000
open Go.ChangeShapes Go.WideShapes Go.ChangeAt Go.RowKit Av

/-- WHAT A LAW's ROW COMES TO: one contract over arguments that can be read. -/
theorem law_lifted_laid {f : FuncId} {fn : Func} {s : ChangeSpec} {laid : List (String × DataW Unit)} {os : Os} (started : os.Started) {H : Type} {enc : TypeId × Value → H}
    (hnoInit : Tryz.prog.inits.idxOf? f = none) (hfn : Tryz.prog.funcs[f]? = some fn) (hvars : s.vars = []) (hres : fn.resultTypes = #[4]) (hrow : rowedAll Tryz.prog fn.params.toList = true)
    (hplain : (laid.all fun x => x.2.handleName?.isNone) = true) (hspec : ∀ ds : List (DataW H), ds.length = fn.params.toList.length → s.fn H ds = { results := [.lit (.bool true)], args := ds })
    (witness : ∃ (w : World) (tape : Tape) (i : Input), w.os = os ∧ (w.forCall tape i).Shaped Tryz.prog ∧ i.vars = [] ∧ Input.okWide Tryz.prog (w.forCall tape i) .any w.heap.size f i ∧
      ((s.pre enc Tryz.prog fn [] false (w.forCall tape i).memory i.args ∧ laidMetH Tryz.prog laid (w.forCall tape i).memory) ∧ sizedMet enc Tryz.prog fn (OpenSpec.ofChange s) false (w.forCall tape i).memory i.args) ∧ Assume.holds {} Tryz.prog (lone (Frame.enter Tryz.prog f i.args .normal) [] (w.forCall tape i)))
    (contract : ∀ (W : World) (base : Nat) (args : Array Value) (ds : List (DataW H)) (p : List MemPlace),
      (∀ (j : Nat) t v, fn.params[j]? = some t → args[j]? = some v → Value.okWide Tryz.prog W .any base t v) →
      DataW.TrodAll enc Tryz.prog W 0 (fun _ => true) true fn.params.toList args.toList ds p →
      W.ShapedOpen Tryz.prog → laidMet Tryz.prog laid W → Calls Tryz.prog f args W fun e W' => e = .returned (.bool true) ∧ Ext W W') :
    ReturnsInHanded {} Tryz.checked os f .any (fun w args => (s.pre enc Tryz.prog fn [] false w args ∧ laidMetH Tryz.prog laid w) ∧ sizedMet enc Tryz.prog fn (OpenSpec.ofChange s) false w args) (s.post enc Tryz.prog fn false true false false) := by
  have own : ownKnob Tryz.prog.godebug = none := by kernel_rfl
  refine returnsInHanded_of_calls own started hnoInit witness ?_
  intro w tape i _ hsh _ hok hpre _
  obtain ⟨_, _, _, fn', hfn', _, _, _, _, hval⟩ := hok
  have e : fn' = fn := Option.some.inj (hfn'.symm.trans hfn)
  subst e
  obtain ⟨⟨⟨ds, gs, before, hw, _⟩, hlaid⟩, _⟩ := hpre
  rw [MakeChecks.laidMetH_plain _ _ _ hplain] at hlaid
  have hw' := DataW.Whole.of_heap (w' := w.forCall tape i) (by rfl) hw
  have hW := hw'
  obtain ⟨p, q, hA, hV, rfl, _, _⟩ := hw'
  rw [hvars] at hV
  have hgs : gs = [] ∧ q = [] := trodVars_none hV
  obtain ⟨rfl, rfl⟩ := hgs
  have hlen : ds.length = fn'.params.toList.length := by
    have : ∀ {ts : List TypeId} {vs : List Value} {ds : List (DataW H)} {ps : List MemPlace}, DataW.TrodAll enc Tryz.prog (w.forCall tape i) 0 (fun _ => true) true ts vs ds ps → ds.length = ts.length := by
      intro ts
      induction ts with
      | nil => intro vs ds ps h; obtain ⟨rfl, rfl, rfl⟩ := trodAll_nil h; rfl
      | cons t ts ih => intro vs ds ps h; obtain ⟨v, vs', d, ds', p, q, rfl, rfl, rfl, h1, h2⟩ := trodAll_cons h; simp [ih h2]
    exact this hA
  refine (contract (w.forCall tape i) w.heap.size i.args ds p hval hA hsh (laidMet.of_heap (by rfl) hlaid)).mono fun e W' ⟨he, hx⟩ => ?_
  subst he
  refine ChangeSpec.post_blind ?_
  have hsp := hspec ds hlen
  refine ⟨ds, [], _, [], p, [], hW, ?_, ?_, ?_, (Kp.below hx).frame _, fun h => by cases h⟩
  · rw [List.append_nil, hsp, hres]; exact trodAll_mk1 (shut_bool Tryz.underlying4 _)
  · rw [List.append_nil, hsp]; exact trodAll_ext (by kernel_rfl) (Kp.below hx) hrow hA
  · rw [List.append_nil, hsp, hvars]; rfl


/-- The table of powers of ten, off the row's list. -/
theorem tab_of_laid {W : World} {laid : List (String × DataW Unit)} (h : laidMet Tryz.prog laid W) (hl : (laid.filter fun x => x.1 == "internal/strconv.uint64pow10") = [("internal/strconv.uint64pow10", Lib.tabData .u64 Lib.pow10Tab)]) :
    Lib.TabIs Tryz.prog W "internal/strconv.uint64pow10" .u64 Lib.pow10Tab := by
  have h2 := h.filter (fun x => x.1 == "internal/strconv.uint64pow10")
  rw [hl] at h2
  exact Lib.tabIs_of_head (g := 1) (t := 328) (e := 232) (n := 20) (by kernel_rfl) (by kernel_rfl) Tryz.underlying328 Tryz.underlying232 (by kernel_rfl) (by kernel_rfl) h2
end Go.Proofs.YtnkhmkcpdgmjmaaGreatDoor

/- Arguments of the tree's laws; tables. -/
namespace Go.Proofs.YtnkhmkcpdgmjmaaGreatDoor
set_option maxRecDepth 100000
open Go.ChangeShapes Go.WideShapes Go.ChangeAt Go.RowKit Av

theorem gt_of {W : World} {laid : List (String × DataW Unit)} (hsh : W.ShapedOpen Tryz.prog) (h : laidMet Tryz.prog laid W) (hl : (laid.filter fun x => x.1 == "internal/strconv.uint64pow10") = [("internal/strconv.uint64pow10", Lib.tabData .u64 Lib.pow10Tab)]) : GT W :=
  ⟨gl_of_shape hsh, tab_of_laid h hl⟩
end Go.Proofs.YtnkhmkcpdgmjmaaGreatDoor

/- Ops that come in as an argument. -/
namespace Go.Proofs.YtnkhmkcpdgmjmaaGreatDoor
set_option maxRecDepth 100000
open Go.ChangeShapes Go.WideShapes Go.ChangeAt Go.RowKit Av

theorem arg_opsl {H : Type} {enc : TypeId × Value → H} {W : World} {base : Nat} {r : Reach} {v : Value} {d : DataW H} {p : List MemPlace} (hv : Value.okWide Tryz.prog W r base 58 v) (h : DataW.Trod enc Tryz.prog W 0 (fun _ => true) true 58 v d p) :
    ∃ xs : List OpV, OpsAt W v xs ∧ OpsSz xs ∧ ∀ o ∈ xs, Op64 o := by
  obtain ⟨a0, len, cap, rfl⟩ := okWide_slice Tryz.underlying58 hv
  obtain ⟨n, h⟩ := h
  obtain ⟨v', hcs, xs, h1, h2, h3⟩ := trod_ops h
  simp only [Value.cells, List.cons.injEq, and_true] at hcs
  subst hcs
  exact ⟨xs, h1, h2, h3⟩
end Go.Proofs.YtnkhmkcpdgmjmaaGreatDoor

/- Arguments of package aviarylaw21: numbers, acts. -/
namespace Go.Proofs.YtnkhmkcpdgmjmaaGreatDoor
set_option maxRecDepth 100000
open Go.ChangeShapes Go.WideShapes Go.ChangeAt Go.RowKit Av
/-- One act: which, whose, its number, the ops, a path, a kind. -/
structure ActG where
  op : Int
  sess : Int
  num : Int
  ops : List OpV
  ov : Value
  p : ByteArray
  kind : Int
def ActG.cells (a : ActG) : List Value := [.int .i64 a.op, .int .i64 a.sess, .int .i64 a.num, a.ov, .string a.p, .int .i64 a.kind]
structure ActGOk (W : World) (a : ActG) : Prop where
  ops : OpsAt W a.ov a.ops
  sz : OpsSz a.ops
  o64 : ∀ o ∈ a.ops, Op64 o
  path : a.p.size ≤ maxLen
  i64 : I64 a.op ∧ I64 a.sess ∧ I64 a.num ∧ I64 a.kind
section
variable {H : Type} {enc : TypeId × Value → H} {W : World}
end
/-- A slice of acts that can be read. -/
def ActsG (w : World) (v : Value) (xs : List ActG) : Prop := Sl w 6 v xs.length (xs.flatMap ActG.cells) ∧ ∀ a ∈ xs, ActGOk w a
end Go.Proofs.YtnkhmkcpdgmjmaaGreatDoor

/- The solo as a law holds it: Ask of ops that came in; its tree as the reference's own. -/
namespace Go.Proofs.YtnkhmkcpdgmjmaaGreatDoor
set_option maxRecDepth 100000
open Go.RowKit Av

variable {w0 w w' : World} {g K N : Nat} {B : SoB} {s : SoV}
theorem opsS_of {ops : List OpV} (h : ops.length ≤ 20 ∧ ∀ k (hk : k < ops.length), ops[k].path.size ≤ 300 ∧ ops[k].data.size ≤ 1100) : OpsS ops := fun o ho => by
  obtain ⟨k, hk, rfl⟩ := List.getElem_of_mem ho
  have := h.2 k hk
  omega
/-- The solo's tree, as the reference's own. -/
theorem ActsG.open {v : Value} {xs : List ActG} (h : ActsG w v xs) : ∃ a c, v = .slice a xs.length c ∧ xs.length ≤ maxLen ∧ (0 < xs.length → ∃ b off, a = some ⟨b, off, none⟩ ∧ b < w.heap.size ∧ ∀ k (hk : k < xs.length), w.cell? ⟨b, off + k * 6 + 3, none⟩ = some xs[k].ov ∧ OpsAt w xs[k].ov xs[k].ops) := by
  obtain ⟨hs, hok⟩ := h
  obtain ⟨a, c, rfl, _, hm, _, hop⟩ := Sl.open hs
  refine ⟨a, c, rfl, hm, fun hn => ?_⟩
  obtain ⟨b, off, rfl, hb, hc⟩ := hop hn
  refine ⟨b, off, rfl, hb, fun k hk => ⟨?_, (hok _ (List.getElem_mem hk)).ops⟩⟩
  have := hc (k * 6 + 3) _ (rows_cell ActG.cells 6 (fun _ => rfl) xs k hk 3 (by decide))
  rwa [← Nat.add_assoc] at this
end Go.Proofs.YtnkhmkcpdgmjmaaGreatDoor
