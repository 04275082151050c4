/- Texts put together: AvRepB, AvMulD. -/
import Derived.Test.YtnlefnhdhigecaaGreatDoorAvG23
import Derived.Test.YtnlefnhdhigecaaGreatDoorAvG20
import Derived.Test.YtnlefnhdhigecaaGreatDoorAvG25
import Derived.Shelf.AbstractIn

/- Walks: are two results, two replies alike: alike, slices.EqualFunc, Alike, Same. -/
namespace Go.Proofs.YtnlefnhdhigecaaGreatDoor
set_option maxRecDepth 100000
open Go.RowKit Av

def rpB (a b : Rp) : Bool := decide (a.err = b.err) && (decide (a.path = b.path) && (decide (a.data = b.data) && (stB a.st b.st && decide (a.names = b.names))))
def rpsB : List Rp → List Rp → Bool
  | [], [] => true
  | a :: l, b :: m => rpB a b && rpsB l m
  | _, _ => false
theorem rpB_refl (a : Rp) : rpB a a = true := by simp [rpB, stB]
theorem rpsB_refl : ∀ l : List Rp, rpsB l l = true
  | [] => rfl
  | a :: l => by unfold rpsB; rw [rpB_refl, rpsB_refl]; rfl
theorem rpsB_len : ∀ {a b : List Rp}, rpsB a b = true → a.length = b.length
  | [], [], _ => rfl
  | [], _ :: _, h => by simp [rpsB] at h
  | _ :: _, [], h => by simp [rpsB] at h
  | a :: l, b :: m, h => by
    unfold rpsB at h
    rw [Bool.and_eq_true] at h
    simp [rpsB_len h.2]
theorem rpsB_iff : ∀ {a b : List Rp}, a.length = b.length → (rpsB a b = true ↔ ∀ k (h1 : k < a.length) (h2 : k < b.length), rpB a[k] b[k] = true)
  | [], [], _ => by simp [rpsB]
  | [], _ :: _, h => by simp at h
  | _ :: _, [], h => by simp at h
  | a :: l, b :: m, h => by
    unfold rpsB
    rw [Bool.and_eq_true, rpsB_iff (by simpa using h)]
    constructor
    · rintro ⟨h1, h2⟩ k hk1 hk2
      cases k with
      | zero => exact h1
      | succ k => exact h2 k (by simpa using hk1) (by simpa using hk2)
    · intro hh
      exact ⟨hh 0 (by simp) (by simp), fun k h1 h2 => hh (k + 1) (by simpa using h1) (by simpa using h2)⟩
def sameRp (a b : RpV) : Bool := decide (a.num = b.num) && (decide (a.zxid = b.zxid) && (decide (a.err = b.err) && (decide (a.at_ = b.at_) && rpsB a.res b.res)))
theorem sameRp_refl (a : RpV) : sameRp a a = true := by simp [sameRp, rpsB_refl]
theorem NmO.nms {w : World} {v : Value} {l : List Bs} (h : NmO w v l) : Sl w 1 v l.length (l.map encStr) := Sl.of_owns h
set_option maxHeartbeats 3200000 in
theorem alike_any (x y : RsE) (w : World) (hx : NmO w x.nv x.r.names) (hy : NmO w y.nv y.r.names) : Calls Tryz.prog 135 #[.agg (rsE x).toArray, .agg (rsE y).toArray] w fun e w' => e = .returned (.bool (rpB x.r y.r)) ∧ Ext w w' := by
  obtain ⟨⟨xe, xp, xd, xn, xs⟩, xv⟩ := x
  obtain ⟨⟨ye, yp, yd, yn, ys⟩, yv⟩ := y
  simp only at hx hy ⊢
  obtain ⟨ax, cx, rfl⟩ := hx.slice
  obtain ⟨ay, cy, rfl⟩ := hy.slice
  unfold rsE
  simp only
  obtain ⟨wA, hWA⟩ : ∃ wA, (w.alloc (.cells #[.int .i64 xe, .string xp, .string xd, .slice ax xn.length cx, .int .i64 xs.made, .int .i64 xs.chg, .int .i64 xs.ver, .int .i64 xs.kids, .int .i64 xs.own, .int .i64 xs.len, .int .i64 xs.cnt] rsuT)).alloc (.cells #[.int .i64 ye, .string yp, .string yd, .slice ay yn.length cy, .int .i64 ys.made, .int .i64 ys.chg, .int .i64 ys.ver, .int .i64 ys.kids, .int .i64 ys.own, .int .i64 ys.len, .int .i64 ys.cnt] rsuT) = wA := ⟨_, rfl⟩
  have hxA : Ext w wA := by rw [← hWA]; exact ((Kp.refl _ _).alloc _).alloc _
  have hA : Blk wA w.heap.size #[.int .i64 xe, .string xp, .string xd, .slice ax xn.length cx, .int .i64 xs.made, .int .i64 xs.chg, .int .i64 xs.ver, .int .i64 xs.kids, .int .i64 xs.own, .int .i64 xs.len, .int .i64 xs.cnt] rsuT := by
    rw [← hWA]
    exact Blk.kp (heap_alloc_new w _) ((Kp.refl (fun _ => False) _).alloc _) (fun f => f)
  have hB : Blk wA (w.heap.size + 1) #[.int .i64 ye, .string yp, .string yd, .slice ay yn.length cy, .int .i64 ys.made, .int .i64 ys.chg, .int .i64 ys.ver, .int .i64 ys.kids, .int .i64 ys.own, .int .i64 ys.len, .int .i64 ys.cnt] rsuT := by
    rw [← hWA]
    have := heap_alloc_new (w.alloc (.cells #[.int .i64 xe, .string xp, .string xd, .slice ax xn.length cx, .int .i64 xs.made, .int .i64 xs.chg, .int .i64 xs.ver, .int .i64 xs.kids, .int .i64 xs.own, .int .i64 xs.len, .int .i64 xs.cnt] rsuT)) (.cells #[.int .i64 ye, .string yp, .string yd, .slice ay yn.length cy, .int .i64 ys.made, .int .i64 ys.chg, .int .i64 ys.ver, .int .i64 ys.kids, .int .i64 ys.own, .int .i64 ys.len, .int .i64 ys.cnt] rsuT)
    rw [World.size_alloc] at this
    exact this
  have g0 := hA.cell 0 _ rfl
  have g1 := hA.cell 1 _ rfl
  have g2 := hA.cell 2 _ rfl
  have g3 := hA.cell 3 _ rfl
  have g4 := hA.cell 4 _ rfl
  have g5 := hA.cell 5 _ rfl
  have g6 := hA.cell 6 _ rfl
  have g7 := hA.cell 7 _ rfl
  have g8 := hA.cell 8 _ rfl
  have g9 := hA.cell 9 _ rfl
  have g10 := hA.cell 10 _ rfl
  have q0 := hB.cell 0 _ rfl
  have q1 := hB.cell 1 _ rfl
  have q2 := hB.cell 2 _ rfl
  have q3 := hB.cell 3 _ rfl
  have q4 := hB.cell 4 _ rfl
  have q5 := hB.cell 5 _ rfl
  have q6 := hB.cell 6 _ rfl
  have q7 := hB.cell 7 _ rfl
  have q8 := hB.cell 8 _ rfl
  have q9 := hB.cell 9 _ rfl
  have q10 := hB.cell 10 _ rfl
  have HS := Lib.hid (equalS_any (.slice ax xn.length cx) (.slice ay yn.length cy) xn yn wA (Sl.ext hx.nms hxA) (Sl.ext hy.nms hxA))
  have hst := stat_eql xs ys
  have hgd := stat_guard
  have e1 := str_eq xp yp
  have e2 := str_eq xd yd
  have HX := Lib.hid hxA
  have HWA := Lib.hid hWA
  have HE : Hid (rpB ⟨xe, xp, xd, xn, xs⟩ ⟨ye, yp, yd, yn, ys⟩ = (decide (xe = ye) && (decide (xp = yp) && (decide (xd = yd) && (stB xs ys && decide (xn = yn)))))) := rfl
  clear hWA hxA hA hB hx hy
  unfold stA at hst
  generalize stB xs ys = b at hst HE
  generalize rpB ⟨xe, xp, xd, xn, xs⟩ ⟨ye, yp, yd, yn, ys⟩ = r at HE ⊢
  generalize decide (xn = yn) = dn at HS HE
  by_cases h0 : xe = ye
  · by_cases h1 : xp = yp
    · by_cases h2 : xd = yd
      · subst h0 h1 h2
        cases b with
        | false =>
          go_enter Tryz.func135, Tryz.ntmps135
          go_upto_region 1 with (fail)
          rw [HWA.out]
          go_wp2_with (fail)
          go_ret
          exact ⟨ret_bool (by rw [HE.out]; simp), HX.out⟩
        | true =>
          go_enter Tryz.func135, Tryz.ntmps135
          go_upto_region 1 with (fail)
          rw [HWA.out]
          go_wp2_with (fail)
          refine HS.out.mono ?_
          rintro e w1 ⟨rfl, hx1⟩
          go_wp2_with (fail)
          go_ret
          exact ⟨ret_bool (by rw [HE.out]; simp), HX.out.trans hx1⟩
      · subst h0 h1
        go_enter Tryz.func135, Tryz.ntmps135
        go_upto_region 1 with (fail)
        rw [HWA.out]
        go_wp2_with (fail)
        go_ret
        exact ⟨ret_bool (by rw [HE.out]; simp [h2]), HX.out⟩
    · subst h0
      go_enter Tryz.func135, Tryz.ntmps135
      go_upto_region 1 with (fail)
      rw [HWA.out]
      go_wp2_with (fail)
      go_ret
      exact ⟨ret_bool (by rw [HE.out]; simp [h1]), HX.out⟩
  · have h0b : (xe == ye) = false := by simpa using h0
    go_enter Tryz.func135, Tryz.ntmps135
    go_upto_region 1 with (fail)
    rw [HWA.out]
    go_wp2_with (fail)
    go_ret
    exact ⟨ret_bool (by rw [HE.out]; simp [h0]), HX.out⟩
def EqfRel (w : World) (xs ys : List RsE) (s17 : Value) (wr : World) : Prop := ∃ k : Nat, k ≤ xs.length ∧ s17 = .int .i64 k ∧ (∀ i (h1 : i < xs.length) (h2 : i < ys.length), i < k → rpB xs[i].r ys[i].r = true) ∧ Ext w wr
set_option maxHeartbeats 3200000 in
theorem equalFuncR_any (b1 b2 : Nat) (v u : Value) (xs ys : List RsE) (w : World) (hv : RsAt w b1 v xs) (hu : RsAt w b2 u ys) : Calls Tryz.prog 134 #[v, u, .func (.func 135) #[] #[]] w fun e w' => e = .returned (.bool (rpsB (xs.map (·.r)) (ys.map (·.r)))) ∧ Ext w w' := by
  have eg : ∀ args w, (callFunc 135 args).run Tryz.prog w = .ok (.enter 135 args) w := enters_of Tryz.func135 (by kernel_rfl) rfl
  have HAL := Lib.hid (fun (x y : RsE) (W : World) (hW : Ext w W) (hx : x ∈ xs) (hy : y ∈ ys) => alike_any x y W ((hv.nm x hx).extO hW) ((hu.nm y hy).extO hW))
  obtain ⟨a1, c1, rfl, hm1, hop1⟩ := hv.open
  obtain ⟨a2, c2, rfl, hm2, hop2⟩ := hu.open
  unfold maxLen at hm1 hm2
  have HOP1 := Lib.hid hop1
  have HOP2 := Lib.hid hop2
  have HN1 := Lib.hid (fun x (hx : x ∈ xs) => (hv.nm x hx).slice)
  have HN2 := Lib.hid (fun x (hx : x ∈ ys) => (hu.nm x hx).slice)
  clear hv hu hop1 hop2
  by_cases hl : xs.length = ys.length
  · have HB : Hid (∀ k (h1 : k < xs.length) (h2 : k < ys.length), rpB xs[k].r ys[k].r = false → rpsB (xs.map (·.r)) (ys.map (·.r)) = false) := fun k h1 h2 hf => by
      rw [Bool.eq_false_iff]
      intro ht
      have := (rpsB_iff (by simpa using hl)).1 ht k (by simpa using h1) (by simpa using h2)
      rw [List.getElem_map, List.getElem_map, hf] at this
      cases this
    have HT : Hid ((∀ i (h1 : i < xs.length) (h2 : i < ys.length), rpB xs[i].r ys[i].r = true) → rpsB (xs.map (·.r)) (ys.map (·.r)) = true) := fun hh => by
      rw [rpsB_iff (by simpa using hl)]
      intro k h1 h2
      rw [List.getElem_map, List.getElem_map]
      exact hh k (by simpa using h1) (by simpa using h2)
    have hlI : (xs.length : Int) = ys.length := by omega
    have HL := Lib.hid hl
    generalize rpsB (xs.map (·.r)) (ys.map (·.r)) = R at HB HT ⊢
    clear hl
    go_enter Tryz.func134, Tryz.ntmps134
    go_wp2_with (fail)
    go_loopw [17] (fun s17 wr => EqfRel w xs ys s17 wr) (fun s17 _ => xs.length - (intOf s17).toNat)
    case atStart => exact ⟨0, Nat.zero_le _, rfl, fun i _ _ h => by omega, Kp.refl _ _⟩
    case round =>
      obtain ⟨k, hk, rfl, hall, hx⟩ := hrel
      have HALL := Lib.hid hall
      have HX := Lib.hid hx
      clear hall hx
      by_cases hlt : k < xs.length
      · have hlt2 : k < ys.length := by have := HL.out; omega
        obtain ⟨b1', o1, rfl, hb1, hc1⟩ := HOP1.out (by omega)
        obtain ⟨b2', o2, rfl, hb2, hc2⟩ := HOP2.out (by omega)
        obtain ⟨an1, cn1, e1⟩ := HN1.out _ (List.getElem_mem hlt)
        obtain ⟨an2, cn2, e2⟩ := HN2.out _ (List.getElem_mem hlt2)
        have HR := Lib.hid (fun hf => HB.out k hlt hlt2 hf)
        have HST : Hid (rpB xs[k].r ys[k].r = true → ∀ i (h1 : i < xs.length) (h2 : i < ys.length), i < k + 1 → rpB xs[i].r ys[i].r = true) := fun ht i h1 h2 h3 => by
          by_cases h4 : i < k
          · exact HALL.out i h1 h2 h4
          · obtain rfl : i = k := by omega
            exact ht
        have HCALL := Lib.hid (fun W (hW : Ext w W) => HAL.out xs[k] ys[k] W hW (List.getElem_mem hlt) (List.getElem_mem hlt2))
        have HC1 : Hid (∀ i u, i < 11 → (rsE xs[k])[i]? = some u → wr.cell? ⟨b1', o1 + k * 11 + i, none⟩ = some u) := fun i u hi hu => HX.out.cell (hc1 k hlt i u hi hu) (fun f => f)
        have HC2 : Hid (∀ W, Ext w W → ∀ i u, i < 11 → (rsE ys[k])[i]? = some u → W.cell? ⟨b2', o2 + k * 11 + i, none⟩ = some u) := fun W hW i u hi hu => hW.cell (hc2 k hlt2 i u hi hu) (fun f => f)
        generalize xs[k] = x at HC1 HCALL HR HST e1
        generalize ys[k] = y at HC2 HCALL HR HST e2
        obtain ⟨⟨xe, xp, xd, xn, xst⟩, xv⟩ := x
        obtain ⟨⟨ye, yp, yd, yn, yst⟩, yv⟩ := y
        simp only at e1 e2
        subst e1 e2
        unfold rsE at HC1 HC2 HCALL
        simp only at HC1 HC2 HCALL HR HST
        have g0 := HC1.out 0 _ (by decide) rfl
        have g1 := HC1.out 1 _ (by decide) rfl
        have g2 := HC1.out 2 _ (by decide) rfl
        have g3 := HC1.out 3 _ (by decide) rfl
        have g4 := HC1.out 4 _ (by decide) rfl
        have g5 := HC1.out 5 _ (by decide) rfl
        have g6 := HC1.out 6 _ (by decide) rfl
        have g7 := HC1.out 7 _ (by decide) rfl
        have g8 := HC1.out 8 _ (by decide) rfl
        have g9 := HC1.out 9 _ (by decide) rfl
        have g10 := HC1.out 10 _ (by decide) rfl
        obtain ⟨w2, hW2⟩ : ∃ w2, wr.alloc (.cells #[.int .i64 xe, .string xp, .string xd, .slice an1 xn.length cn1, .int .i64 xst.made, .int .i64 xst.chg, .int .i64 xst.ver, .int .i64 xst.kids, .int .i64 xst.own, .int .i64 xst.len, .int .i64 xst.cnt] rsuT) = w2 := ⟨_, rfl⟩
        have hx2 : Ext wr w2 := by rw [← hW2]; exact (Kp.refl _ _).alloc _
        have hA2 : Blk w2 wr.heap.size #[.int .i64 xe, .string xp, .string xd, .slice an1 xn.length cn1, .int .i64 xst.made, .int .i64 xst.chg, .int .i64 xst.ver, .int .i64 xst.kids, .int .i64 xst.own, .int .i64 xst.len, .int .i64 xst.cnt] rsuT := by rw [← hW2]; exact heap_alloc_new wr _
        have HX2 := Lib.hid (HX.out.trans hx2)
        have HW2 := Lib.hid hW2
        simp only [Nat.add_zero] at g0
        clear hc1 hc2 hb1 hb2 hW2
        go_upto_region 6 with (fail)
        rw [HW2.out]
        clear g0 g1 g2 g3 g4 g5 g6 g7 g8 g9 g10
        have g0 := HC2.out _ HX2.out 0 _ (by decide) rfl
        have g1 := HC2.out _ HX2.out 1 _ (by decide) rfl
        have g2 := HC2.out _ HX2.out 2 _ (by decide) rfl
        have g3 := HC2.out _ HX2.out 3 _ (by decide) rfl
        have g4 := HC2.out _ HX2.out 4 _ (by decide) rfl
        have g5 := HC2.out _ HX2.out 5 _ (by decide) rfl
        have g6 := HC2.out _ HX2.out 6 _ (by decide) rfl
        have g7 := HC2.out _ HX2.out 7 _ (by decide) rfl
        have g8 := HC2.out _ HX2.out 8 _ (by decide) rfl
        have g9 := HC2.out _ HX2.out 9 _ (by decide) rfl
        have g10 := HC2.out _ HX2.out 10 _ (by decide) rfl
        simp only [Nat.add_zero] at g0
        obtain ⟨w3, hW3⟩ : ∃ w3, w2.alloc (.cells #[.int .i64 ye, .string yp, .string yd, .slice an2 yn.length cn2, .int .i64 yst.made, .int .i64 yst.chg, .int .i64 yst.ver, .int .i64 yst.kids, .int .i64 yst.own, .int .i64 yst.len, .int .i64 yst.cnt] rsuT) = w3 := ⟨_, rfl⟩
        have hx3 : Ext w2 w3 := by rw [← hW3]; exact (Kp.refl _ _).alloc _
        have hA3 := hA2.kp hx3 (fun f => f)
        have hB3 : Blk w3 w2.heap.size #[.int .i64 ye, .string yp, .string yd, .slice an2 yn.length cn2, .int .i64 yst.made, .int .i64 yst.chg, .int .i64 yst.ver, .int .i64 yst.kids, .int .i64 yst.own, .int .i64 yst.len, .int .i64 yst.cnt] rsuT := by rw [← hW3]; exact heap_alloc_new w2 _
        have HX3 := Lib.hid (HX2.out.trans hx3)
        have HW3 := Lib.hid hW3
        clear hW3 hx3 hx2 hA2
        go_upto_region 7 with (fail)
        rw [HW3.out]
        clear g0 g1 g2 g3 g4 g5 g6 g7 g8 g9 g10
        have p0 := hA3.cell 0 _ rfl
        have p1 := hA3.cell 1 _ rfl
        have p2 := hA3.cell 2 _ rfl
        have p3 := hA3.cell 3 _ rfl
        have p4 := hA3.cell 4 _ rfl
        have p5 := hA3.cell 5 _ rfl
        have p6 := hA3.cell 6 _ rfl
        have p7 := hA3.cell 7 _ rfl
        have p8 := hA3.cell 8 _ rfl
        have p9 := hA3.cell 9 _ rfl
        have p10 := hA3.cell 10 _ rfl
        have q0 := hB3.cell 0 _ rfl
        have q1 := hB3.cell 1 _ rfl
        have q2 := hB3.cell 2 _ rfl
        have q3 := hB3.cell 3 _ rfl
        have q4 := hB3.cell 4 _ rfl
        have q5 := hB3.cell 5 _ rfl
        have q6 := hB3.cell 6 _ rfl
        have q7 := hB3.cell 7 _ rfl
        have q8 := hB3.cell 8 _ rfl
        have q9 := hB3.cell 9 _ rfl
        have q10 := hB3.cell 10 _ rfl
        have HC := Lib.hid (HCALL.out w3 HX3.out)
        clear hA3 hB3
        obtain ⟨r, hr⟩ : ∃ r, rpB ⟨xe, xp, xd, xn, xst⟩ ⟨ye, yp, yd, yn, yst⟩ = r := ⟨_, rfl⟩
        rw [hr] at HC HR HST
        clear hr
        cases r with
        | true =>
          go_wp2_with (go_at_fn 135; refine HC.out.mono ?_; rintro e w4 ⟨rfl, hx4⟩; have HX4 := Lib.hid (HX3.out.trans hx4); clear hx4)
          go_light
          refine ⟨⟨k + 1, ?_, ?_, HST.out (by first | rfl | trivial), HX4.out⟩, ?_⟩
          · omega
          · go_num
          · simp [intOf]; omega
        | false =>
          have HRF := Lib.hid (HR.out rfl)
          go_wp2_with (go_at_fn 135; refine HC.out.mono ?_; rintro e w4 ⟨rfl, hx4⟩; have HX4 := Lib.hid (HX3.out.trans hx4); clear hx4)
          go_ret
          rw [HRF.out]
          exact ⟨rfl, HX4.out⟩
      · obtain rfl : k = xs.length := by omega
        have HRT := Lib.hid (HT.out (fun i h1 h2 => HALL.out i h1 h2 h1))
        go_wp2_with (fail)
        go_ret
        rw [HRT.out]
        exact ⟨rfl, HX.out⟩
  · have hlI : ¬ (xs.length : Int) = ys.length := by omega
    have hf : rpsB (xs.map (·.r)) (ys.map (·.r)) = false := by
      rw [Bool.eq_false_iff]
      intro ht
      have := rpsB_len ht
      simp at this
      exact hl this
    rw [hf]
    clear hl hf
    go_enter Tryz.func134, Tryz.ntmps134
    go_wp2_with (fail)
    go_ret
    exact ⟨rfl, Kp.refl _ _⟩
set_option maxHeartbeats 800000 in
theorem repAlike_any (b1 b2 : Nat) (v u : Value) (xs ys : List RsE) (w : World) (hv : RsAt w b1 v xs) (hu : RsAt w b2 u ys) : Calls Tryz.prog 89 #[v, u] w fun e w' => e = .returned (.bool (rpsB (xs.map (·.r)) (ys.map (·.r)))) ∧ Ext w w' := by
  have HC := Lib.hid (equalFuncR_any b1 b2 v u xs ys w hv hu)
  obtain ⟨a1, c1, rfl⟩ := hv.slice
  obtain ⟨a2, c2, rfl⟩ := hu.slice
  clear hv hu
  generalize rpsB (xs.map (·.r)) (ys.map (·.r)) = R at HC ⊢
  go_enter Tryz.func89, Tryz.ntmps89
  go_wp2_with (fail)
  refine HC.out.mono ?_
  rintro e w1 ⟨rfl, hx1⟩
  go_wp2_with (fail)
  go_ret
  exact ⟨rfl, hx1⟩
set_option maxHeartbeats 3200000 in
theorem repSame_any (b1 b2 : Nat) (v u : Value) (r q : RpV) (w : World) (hv : RpAt w b1 v r) (hu : RpAt w b2 u q) : Calls Tryz.prog 41 #[.agg (rplA r v), .agg (rplA q u)] w fun e w' => e = .returned (.bool (sameRp r q)) ∧ Ext w w' := by
  obtain ⟨xs, h1, e1⟩ := hv
  obtain ⟨ys, h2, e2⟩ := hu
  obtain ⟨wA, hWA⟩ : ∃ wA, (w.alloc (.cells (rplA r v) rplT)).alloc (.cells (rplA q u) rplT) = wA := ⟨_, rfl⟩
  have hxA : Ext w wA := by rw [← hWA]; exact ((Kp.refl _ _).alloc _).alloc _
  have hA : Blk wA w.heap.size (rplA r v) rplT := by
    rw [← hWA]
    exact Blk.kp (heap_alloc_new w _) ((Kp.refl (fun _ => False) _).alloc _) (fun f => f)
  have hB : Blk wA (w.heap.size + 1) (rplA q u) rplT := by
    rw [← hWA]
    have := heap_alloc_new (w.alloc (.cells (rplA r v) rplT)) (.cells (rplA q u) rplT)
    rw [World.size_alloc] at this
    exact this
  have hC := repAlike_any b1 b2 v u xs ys wA (h1.ext hxA) (h2.ext hxA)
  rw [e1, e2] at hC
  have HE : Hid (sameRp r q = (decide (r.num = q.num) && (decide (r.zxid = q.zxid) && (decide (r.err = q.err) && (decide (r.at_ = q.at_) && rpsB r.res q.res))))) := rfl
  obtain ⟨rn, rz, re, ra, rr⟩ := r
  obtain ⟨qn, qz, qe, qa, qr⟩ := q
  simp only at hC HE
  generalize rpsB rr qr = R at hC HE
  generalize sameRp ⟨rn, rz, re, ra, rr⟩ ⟨qn, qz, qe, qa, qr⟩ = S at HE ⊢
  obtain ⟨av, cv, rfl⟩ := h1.slice
  obtain ⟨au, cu, rfl⟩ := h2.slice
  generalize xs.length = n1 at *
  generalize ys.length = n2 at *
  unfold rplA at *
  simp only at hA hB hWA ⊢
  have g0 := hA.cell 0 _ rfl
  have g1 := hA.cell 1 _ rfl
  have g2 := hA.cell 2 _ rfl
  have g3 := hA.cell 3 _ rfl
  have g4 := hA.cell 4 _ rfl
  have q0 := hB.cell 0 _ rfl
  have q1 := hB.cell 1 _ rfl
  have q2 := hB.cell 2 _ rfl
  have q3 := hB.cell 3 _ rfl
  have q4 := hB.cell 4 _ rfl
  have HC := Lib.hid hC
  have HX := Lib.hid hxA
  have HWA := Lib.hid hWA
  clear h1 h2 e1 e2 hWA hxA hA hB hC
  by_cases i1 : rn = qn
  · by_cases i2 : rz = qz
    · by_cases i3 : re = qe
      · by_cases i4 : ra = qa
        · subst i1 i2 i3 i4
          go_enter Tryz.func41, Tryz.ntmps41
          go_upto_region 1 with (fail)
          rw [HWA.out]
          go_wp2_with (fail)
          refine HC.out.mono ?_
          rintro e w1 ⟨rfl, hx1⟩
          go_wp2_with (fail)
          go_ret
          exact ⟨ret_bool (by rw [HE.out]; simp), HX.out.trans hx1⟩
        · have i4b : (ra == qa) = false := by simpa using i4
          subst i1 i2 i3
          go_enter Tryz.func41, Tryz.ntmps41
          go_upto_region 1 with (fail)
          rw [HWA.out]
          go_wp2_with (fail)
          go_ret
          exact ⟨ret_bool (by rw [HE.out]; simp [i4]), HX.out⟩
      · have i3b : (re == qe) = false := by simpa using i3
        subst i1 i2
        go_enter Tryz.func41, Tryz.ntmps41
        go_upto_region 1 with (fail)
        rw [HWA.out]
        go_wp2_with (fail)
        go_ret
        exact ⟨ret_bool (by rw [HE.out]; simp [i3]), HX.out⟩
    · have i2b : (rz == qz) = false := by simpa using i2
      subst i1
      go_enter Tryz.func41, Tryz.ntmps41
      go_upto_region 1 with (fail)
      rw [HWA.out]
      go_wp2_with (fail)
      go_ret
      exact ⟨ret_bool (by rw [HE.out]; simp [i2]), HX.out⟩
  · have i1b : (rn == qn) = false := by simpa using i1
    go_enter Tryz.func41, Tryz.ntmps41
    go_upto_region 1 with (fail)
    rw [HWA.out]
    go_wp2_with (fail)
    go_ret
    exact ⟨ret_bool (by rw [HE.out]; simp [i1]), HX.out⟩
end Go.Proofs.YtnlefnhdhigecaaGreatDoor

/- Walks: solo.copied. -/
namespace Go.Proofs.YtnlefnhdhigecaaGreatDoor
set_option maxRecDepth 100000
open Go.RowKit Av

def CpdRel (w : World) (xs : List RsE) (s3 s9 : Value) (wr : World) : Prop :=
  ∃ (k : Nat) (ys : List RsE), k ≤ xs.length ∧ s9 = .int .i64 k ∧ RsAt wr w.heap.size s3 ys ∧ ys.map (·.r) = (xs.take k).map (·.r) ∧ Ext w wr
theorem fresh_owns (w : World) : (w.alloc (.cells #[] strT)).ownsRow w.heap.size strT 1 (.slice (some ⟨w.heap.size, 0, none⟩) 0 0) 0 [] := (Fresh0.new (k := 1) (Nat.le_refl _)).1
set_option maxHeartbeats 6400000 in
theorem copied_any (base : Nat) (v : Value) (r : RpV) (w : World) (h : RpAt w base v r) (hn : r.res.length ≤ 1000) (hm : ∀ x ∈ r.res, x.names.length ≤ 100000) : Calls Tryz.prog 82 #[.agg (rplA r v)] w (RpPost w r) := by
  obtain ⟨xs, hrs, hxe⟩ := h
  obtain ⟨wB, hWB⟩ : ∃ wB, (w.alloc (.cells (rplA r v) rplT)).alloc (.cells rpZ rplT) = wB := ⟨_, rfl⟩
  have hxB : Ext w wB := by rw [← hWB]; exact ((Kp.refl _ _).alloc _).alloc _
  have hA : Blk wB w.heap.size (rplA r v) rplT := by
    rw [← hWB]
    exact Blk.kp (heap_alloc_new w _) ((Kp.refl (fun _ => False) _).alloc _) (fun f => f)
  have hB : Blk wB (w.heap.size + 1) rpZ rplT := by
    rw [← hWB]
    have := heap_alloc_new (w.alloc (.cells (rplA r v) rplT)) (.cells rpZ rplT)
    rw [World.size_alloc] at this
    exact this
  have HN : Hid (∀ x ∈ xs, x.r.names.length ≤ 100000) := fun x hx => hm _ (by rw [← hxe]; exact List.mem_map.2 ⟨x, hx, rfl⟩)
  have hxl : xs.length ≤ 1000 := by
    have := congrArg List.length hxe
    rw [List.length_map] at this
    omega
  obtain ⟨a, c, rfl, hmx, hop⟩ := hrs.open
  have HRS := Lib.hid hrs
  have HXE := Lib.hid hxe
  have HOP := Lib.hid hop
  have HA := Lib.hid hA
  have HB := Lib.hid hB
  have HXB := Lib.hid hxB
  have HWB := Lib.hid hWB
  obtain ⟨rn, rz, re, ra, rr⟩ := r
  unfold rplA at hA HWB ⊢
  simp only at hA HWB HXE ⊢
  have a4 := hA.cell 4 _ rfl
  unfold maxLen at hmx
  clear hrs hxe hop hA hB hxB hWB hn hm
  go_enter Tryz.func82, Tryz.ntmps82
  go_upto_region 1 with (fail)
  rw [HWB.out]
  go_wp2_with (fail)
  go_loopw [3, 9] (fun s3 s9 wr => CpdRel wB xs s3 s9 wr) (fun _ s9 _ => xs.length - (intOf s9).toNat)
  case atStart => exact ⟨0, [], Nat.zero_le _, rfl, RsAt.nil _ _, rfl, Kp.refl _ _⟩
  case round =>
    obtain ⟨k, ys, hk, rfl, hys, hye, hx⟩ := hrel
    obtain ⟨ya, yc, rfl⟩ := hys.slice
    have hyl : ys.length = k := by
      have h1 := congrArg List.length hye
      rw [List.length_map, List.length_map, List.length_take] at h1
      omega
    have HYL := Lib.hid hyl
    have HYS := Lib.hid hys
    have HYE := Lib.hid hye
    have HX := Lib.hid hx
    by_cases hlt : k < xs.length
    · obtain ⟨g, off, rfl, hg, hcl⟩ := HOP.out (by omega)
      have hcells := hcl k hlt
      have hnk := HRS.out.nm _ (List.getElem_mem hlt)
      have hlk := HN.out _ (List.getElem_mem hlt)
      have htk : (xs.take (k + 1)).map (·.r) = (xs.take k).map (·.r) ++ [xs[k].r] := by rw [List.take_succ_eq_append_getElem hlt, List.map_append]; rfl
      generalize xs[k] = x at hcells hnk hlk htk
      obtain ⟨⟨xe, xp, xd, xn, xst⟩, xv⟩ := x
      simp only at hnk hlk htk
      obtain ⟨na, nc, rfl⟩ := hnk.slice
      have hxw : Ext w wr := HXB.out.trans hx
      have e0 := hxw.cell (hcells 0 _ (by decide) rfl) (fun f => f)
      have e1 := hxw.cell (hcells 1 _ (by decide) rfl) (fun f => f)
      have e2 := hxw.cell (hcells 2 _ (by decide) rfl) (fun f => f)
      have e3 := hxw.cell (hcells 3 _ (by decide) rfl) (fun f => f)
      have e4 := hxw.cell (hcells 4 _ (by decide) rfl) (fun f => f)
      have e5 := hxw.cell (hcells 5 _ (by decide) rfl) (fun f => f)
      have e6 := hxw.cell (hcells 6 _ (by decide) rfl) (fun f => f)
      have e7 := hxw.cell (hcells 7 _ (by decide) rfl) (fun f => f)
      have e8 := hxw.cell (hcells 8 _ (by decide) rfl) (fun f => f)
      have e9 := hxw.cell (hcells 9 _ (by decide) rfl) (fun f => f)
      have e10 := hxw.cell (hcells 10 _ (by decide) rfl) (fun f => f)
      simp only [Nat.add_zero] at e0 e1 e2 e3 e4 e5 e6 e7 e8 e9 e10
      obtain ⟨wC, hWC⟩ : ∃ wC, wr.alloc (.cells #[.int .i64 xe, .string xp, .string xd, .slice na xn.length nc, .int .i64 xst.made, .int .i64 xst.chg, .int .i64 xst.ver, .int .i64 xst.kids, .int .i64 xst.own, .int .i64 xst.len, .int .i64 xst.cnt] rsuT) = wC := ⟨_, rfl⟩
      have hxC : Ext wr wC := by rw [← hWC]; exact (Kp.refl _ _).alloc _
      have hC : Blk wC wr.heap.size #[.int .i64 xe, .string xp, .string xd, .slice na xn.length nc, .int .i64 xst.made, .int .i64 xst.chg, .int .i64 xst.ver, .int .i64 xst.kids, .int .i64 xst.own, .int .i64 xst.len, .int .i64 xst.cnt] rsuT := by rw [← hWC]; exact heap_alloc_new wr _
      have HWC := Lib.hid hWC
      have HXC := Lib.hid hxC
      have HC := Lib.hid hC
      have HNK := Lib.hid (hnk.extO (hxw.trans hxC))
      have HTK := Lib.hid htk
      have hI1 : (0 : Int) ≤ (k : Int) := by omega
      have hI2 : (k : Int) < (xs.length : Int) := by omega
      have HSZ : Hid (w.heap.size + 2 ≤ wr.heap.size) := by have h1 := HB.out.lt; have h2 := HX.out.size; show _ ≤ _; omega
      clear hcl hcells hnk htk hWC hxC hC hys hye hx hyl hxw hg
      go_upto_region 5 with (fail)
      rw [HWC.out]
      clear e0 e1 e2 e3 e4 e5 e6 e7 e8 e9 e10
      have c3 := HC.out.cell 3 _ rfl
      have hcX : ∀ o : Obj, (wC.alloc o).cell? ⟨wr.heap.size, 3, none⟩ = some (.slice na xn.length nc) := fun o => Lib.cell?_alloc_some o c3
      have HNA : Hid (NmO (wC.alloc (.cells #[] strT)) (.slice na xn.length nc) xn) := HNK.out.extO ((Kp.refl _ _).alloc _)
      have HONS : Hid (∀ y ∈ xn.map encStr, y.oneCell' = true) := fun y hy => by
        obtain ⟨q, _, rfl⟩ := List.mem_map.1 hy
        rfl
      go_wp2_with (at_builtin; refine wpList_appK 36 strT 1 (by decide) str_factsR rfl _ _ rfl wC.heap.size _ 0 [] rfl (fresh_owns wC) _ xn.length (xn.map encStr) rfl HNA.out.nms (shp_owns HNA.out) HONS.out ?c1 ?c2 ?_)
      case c1 => omega
      intro v' w' h1 k2
      obtain ⟨a4, c4, hv4⟩ := owns_slice h1
      subst hv4
      have hxD : Ext wC w' := (Kp.alloc (Kp.refl _ _) _).next k2 (fun i hi h => by simp [Value.ownBlock] at h; omega)
      have hD := HC.out.kp hxD (fun f => f)
      obtain ⟨wD, hWD⟩ : ∃ wD, w'.setCell ⟨wr.heap.size, 3, none⟩ (.slice a4 xn.length c4) = wD := ⟨_, rfl⟩
      have hkD : Kp (fun i => i = wr.heap.size) w' wD := by rw [← hWD]; exact Kp.set1 (S := fun i => i = wr.heap.size) (Kp.refl _ _) _ 3 _ rfl
      have hE : Blk wD wr.heap.size (rsE ⟨⟨xe, xp, xd, xn, xst⟩, .slice a4 xn.length c4⟩).toArray rsuT := by rw [← hWD]; exact hD.set 3 _
      have hnE : NmO wD (.slice a4 xn.length c4) xn := NmO.kpT (own_less h1 (Nat.zero_le _)) hkD (noT_blk hD (by decide))
      have hxE : Ext wr wD := (HXC.out.trans hxD).next hkD (fun i hi e => by omega)
      have f3 := hD.free 3
      have d3 := hD.cell 3 _ rfl
      have HE := Lib.hid hE
      have HNE := Lib.hid hnE
      have HXE2 := Lib.hid hxE
      have HYD := Lib.hid (HYS.out.ext hxE)
      have HWD := Lib.hid hWD
      have HONE := Lib.hid (rsE_one (w := wD) (x := ⟨⟨xe, xp, xd, xn, xst⟩, .slice a4 xn.length c4⟩) hnE)
      clear h1 k2 hxD hD hkD hE hnE hxE hWD c3 hcX HNA HONS HNK
      go_upto_region 6 with (fail)
      rw [HWD.out]
      clear f3 d3
      have hE := HE.out
      unfold rsE at hE
      have x0 := hE.cell 0 _ rfl
      have x1 := hE.cell 1 _ rfl
      have x2 := hE.cell 2 _ rfl
      have x3 := hE.cell 3 _ rfl
      have x4 := hE.cell 4 _ rfl
      have x5 := hE.cell 5 _ rfl
      have x6 := hE.cell 6 _ rfl
      have x7 := hE.cell 7 _ rfl
      have x8 := hE.cell 8 _ rfl
      have x9 := hE.cell 9 _ rfl
      have x10 := hE.cell 10 _ rfl
      clear hE
      go_wp2_with (at_builtin; refine wpList_appK rssT rsuT 11 (by decide) rss_facts rfl _ _ rfl (wB.heap.size) _ _ _ rfl (ownsRow.ext HYD.out.row ((Kp.refl _ _).alloc _)) _ 1 (rsE ⟨⟨xe, xp, xd, xn, xst⟩, .slice a4 xn.length c4⟩) rfl (Sl.of_block (heap_alloc_new wD _) rfl (by decide) (Nat.le_refl _)) Shp.some HONE.out ?d1 ?d2 ?_)
      case d1 => have := HYL.out; omega
      case d2 => have h1 := HX.out.size; have h2 := HXE2.out.size; simp; omega
      intro v' w' h1 k2
      obtain ⟨a5, l5, c5, hv5⟩ : ∃ a4 l4 c4, v' = .slice a4 l4 c4 := by obtain ⟨a4, c4, e, _⟩ := Sl.open (Sl.of_owns h1); exact ⟨_, _, _, e⟩
      subst hv5
      have hlow : ∀ i, (Value.slice ya ys.length yc).ownBlock = some i → wB.heap.size ≤ i := fun i hi => (own_in HYD.out.row hi).1
      have hxF : Ext wB w' := (((HX.out.trans HXE2.out).alloc _)).next k2 (fun i hi h => by have := hlow _ h; omega)
      have hrF : RsAt w' (wB.heap.size) (.slice a5 l5 c5) (ys ++ [⟨⟨xe, xp, xd, xn, xst⟩, .slice a4 xn.length c4⟩]) := (HYD.out.ext ((Kp.refl _ _).alloc _)).snoc (HNE.out.extO ((Kp.refl _ _).alloc _)) h1 k2 (HYD.out.ext ((Kp.refl _ _).alloc _)).noStr
      have HXF := Lib.hid hxF
      have HRF := Lib.hid hrF
      clear h1 k2 hlow hxF hrF x0 x1 x2 x3 x4 x5 x6 x7 x8 x9 x10 HE HWD
      go_wp2_with (fail)
      go_light
      refine ⟨⟨k + 1, ys ++ [⟨⟨xe, xp, xd, xn, xst⟩, .slice a4 xn.length c4⟩], ?_, ?_, HRF.out, ?_, HXF.out⟩, ?_⟩
      · omega
      · go_num
      · rw [HTK.out, List.map_append, HYE.out]; rfl
      · simp [intOf]; omega
    · obtain rfl : k = xs.length := by omega
      rw [List.take_length] at hye
      have hA2 := HA.out.kp hx (fun f => f)
      have hB2 := HB.out.kp hx (fun f => f)
      have HYE2 := Lib.hid hye
      unfold rplA at hA2
      have HA2 := Lib.hid hA2
      have HB2 := Lib.hid hB2
      obtain ⟨w3, hW3⟩ : ∃ w3, wr.setCell ⟨w.heap.size, 4, none⟩ (.slice ya ys.length yc) = w3 := ⟨_, rfl⟩
      have hk3 : Kp (fun i => i = w.heap.size) wr w3 := by rw [← hW3]; exact Kp.set1 (S := fun i => i = w.heap.size) (Kp.refl _ _) _ 4 _ rfl
      have hA3 : Blk w3 w.heap.size #[.int .i64 rn, .int .i64 rz, .int .i64 re, .int .i64 ra, .slice ya ys.length yc] rplT := by rw [← hW3]; exact hA2.set 4 _
      have hB3 := hB2.kp hk3 (by omega)
      have HB3 := Lib.hid hB3
      have HYS3 := Lib.hid (hys.kpT hk3 (noT_blk hA2 (by decide)) (noT_blk hA2 (by decide)))
      have HX3 : Hid (Ext w w3) := (HXB.out.trans hx).next hk3 (fun i hi e => by omega)
      have f4 := hA2.free 4
      have g4 := hA2.cell 4 _ rfl
      have HW3 := Lib.hid hW3
      clear hA2 hB2 hys hye hx hyl hW3 hk3
      go_upto_region 9 with (fail)
      rw [HW3.out]
      clear f4 g4
      unfold rpZ at hB3
      have x0 := hA3.cell 0 _ rfl
      have x1 := hA3.cell 1 _ rfl
      have x2 := hA3.cell 2 _ rfl
      have x3 := hA3.cell 3 _ rfl
      have x4 := hA3.cell 4 _ rfl
      have c0 := hB3.cell 0 _ rfl
      have c1 := hB3.cell 1 _ rfl
      have c2 := hB3.cell 2 _ rfl
      have c3 := hB3.cell 3 _ rfl
      have c4 := hB3.cell 4 _ rfl
      have fc0 := hB3.free 0
      have fc1 := hB3.free 1
      have fc2 := hB3.free 2
      have fc3 := hB3.free 3
      have fc4 := hB3.free 4
      clear hA3 hB3
      go_wp2_with (fail)
      go_light
      refine bodyPost_ret (v := .agg #[.int .i64 rn, .int .i64 rz, .int .i64 re, .int .i64 ra, .slice ya ys.length yc]) (by simp [results, Tryz.results82, go_sem, c0, c1, c2, c3, c4]) rfl ?_
      have k5 := kp_set5 w3 (w.heap.size + 1) (.int .i64 rn) (.int .i64 rz) (.int .i64 re) (.int .i64 ra) (.slice ya ys.length yc)
      exact ⟨.slice ya ys.length yc, rfl, ⟨ys, (HYS3.out.kpT k5 (noT_blk HB3.out (by decide)) (noT_blk HB3.out (by decide))).less (by have := HXB.out.size; omega), HYE2.out.trans HXE.out⟩, HX3.out.next k5 (fun i hi e => by omega)⟩
end Go.Proofs.YtnlefnhdhigecaaGreatDoor
