/- Texts put together: AvMulC, AvWEqS, AvRepB. -/
import Derived.Test.YtnkhmkcpdgmjmaaGreatDoorAvG23
import Derived.Test.YtnkhmkcpdgmjmaaGreatDoorAvG20
import Derived.Test.YtnkhmkcpdgmjmaaGreatDoorAvG3
import Derived.Test.YtnkhmkcpdgmjmaaGreatDoorShelfE
import Derived.Shelf.Slices.Equal
import Derived.Shelf.Slices.Empties2
import Derived.Test.YtnkhmkcpdgmjmaaGreatDoorAvG22
import Derived.Test.YtnkhmkcpdgmjmaaGreatDoorAvG19
import Derived.Shelf.AbstractIn

/- Walks: multi.Request; solo.copied. -/
namespace Go.Proofs.YtnkhmkcpdgmjmaaGreatDoor
set_option maxRecDepth 100000
open Go.RowKit Av

def ReqPost (w0 w : World) (b m : Nat) (room : Int) (K : Nat) (t : Tr) (X : RL × RpV) (e : Ending) (w' : World) : Prop :=
  (∀ x ∈ X.2.res, RpB 100000 x) ∧ ∃ u m' t', e = .returned (.agg (rplA X.2 u)) ∧ RpAt w' w.heap.size u X.2 ∧ TrA w0 w' b m' room (K + 16) t' X.1 ∧ Kp (fun i => i = b) w w' ∧ (m' = m ∨ w.heap.size ≤ m') ∧ ∀ i, TOwn b m' t' i → TOwn b m t i ∨ w.heap.size ≤ i
theorem OpsS.sz {ops : List OpV} (h : OpsS ops) : OpsSz ops := fun o ho => by
  have := h o ho
  unfold maxLen
  omega
set_option maxHeartbeats 3200000 in
theorem request_any {w0 w : World} {b m : Nat} {room : Int} {K : Nat} {t : Tr} {L : RL} (h : TrA w0 w b m room K t L) (hG : GT w0) (hK : K ≤ 90000) (v : Value) (ops : List OpV) (sess num z : Int) (ho : OpsAt w v ops) (hsz : OpsS ops) :
    Calls Tryz.prog 81 #[.pointer (some ⟨b, 0, none⟩), .agg #[.int .i64 sess, .int .i64 num, v], .int .i64 z] w (ReqPost w0 w b m room K t (requestL room L sess num z ops)) := by
  obtain ⟨wB, hWB⟩ : ∃ wB, (w.alloc (.cells #[.int .i64 sess, .int .i64 num, v] 70)).alloc (.cells rpZ rplT) = wB := ⟨_, rfl⟩
  have hxB : Ext w wB := by rw [← hWB]; exact ((Kp.refl _ _).alloc _).alloc _
  have hA : Blk wB w.heap.size #[.int .i64 sess, .int .i64 num, v] 70 := by
    rw [← hWB]
    exact Blk.kp (heap_alloc_new w _) ((Kp.refl (fun _ => False) _).alloc _) (fun f => f)
  have hB : Blk wB (w.heap.size + 1) rpZ rplT := by
    rw [← hWB]
    have := heap_alloc_new (w.alloc (.cells #[.int .i64 sess, .int .i64 num, v] 70)) (.cells rpZ rplT)
    rw [World.size_alloc] at this
    exact this
  have HMAY := Lib.hid (may_any sess num v ops wB ((hG.ext h.ts.ex).ext hxB) (ho.ext hxB) hsz.sz)
  have HDO := Lib.hid (fun W (hW : Ext wB W) => multiDo_any (h.ext (hxB.trans hW)) hG hK v ops sess z (ho.ext (hxB.trans hW)) hsz)
  have HA := Lib.hid hA
  have HB := Lib.hid hB
  have HXB := Lib.hid hxB
  have HWB := Lib.hid hWB
  have HH := Lib.hid h
  obtain ⟨va, vc, rfl, _, _, _⟩ := OpsAt.open ho
  have a0 := hA.cell 0 _ rfl
  have a1 := hA.cell 1 _ rfl
  have a2 := hA.cell 2 _ rfl
  obtain ⟨z0, hz0⟩ : ∃ z0, mayR sess num ops = z0 := ⟨_, rfl⟩
  rw [hz0] at HMAY
  by_cases hz : z0 = 0
  · have HE : Hid (requestL room L sess num z ops = ((multiL room L sess z ops).1, { (multiL room L sess z ops).2.1 with num := num, zxid := z })) := by show _ = _; unfold requestL; rw [if_neg (by rw [hz0, hz]; simp)]
    subst hz
    generalize hX : multiL room L sess z ops = X at HDO HE
    clear h ho hWB hxB hA hB hz0 hX
    go_enter Tryz.func81, Tryz.ntmps81
    go_upto_region 1 with (fail)
    rw [HWB.out]
    go_wp2_with (fail)
    refine HMAY.out.mono ?_
    rintro e w1 ⟨rfl, hx1⟩
    have hA1 := HA.out.kp hx1 (fun f => f)
    have HX1 := Lib.hid hx1
    clear hx1 a0 a1 a2
    have a0 := hA1.cell 0 _ rfl
    have a1 := hA1.cell 1 _ rfl
    have a2 := hA1.cell 2 _ rfl
    have HA1 := Lib.hid hA1
    clear hA1
    go_wp2_with (fail)
    refine (HDO.out w1 HX1.out).mono ?_
    rintro e w2 ⟨hbd, u, m', t', rfl, hu, ht, hk, hmm, hown⟩
    have HBD := Lib.hid hbd
    clear hbd
    obtain ⟨XL, ⟨xn, xz, xe, xa, xr⟩, xb⟩ := X
    simp only at hu ht HE ⊢
    have hA2 := HA1.out.kp hk (by have := HH.out.ts.tr.blk.lt; omega)
    have hB2 := (HB.out.kp HX1.out (fun f => f)).kp hk (by have := HH.out.ts.tr.blk.lt; omega)
    obtain ⟨us, hus, hue⟩ := hu
    obtain ⟨ua, uc, rfl⟩ := hus.slice
    have HUS := Lib.hid hus
    have HUE := Lib.hid hue
    have HT := Lib.hid ht
    have HK := Lib.hid hk
    have HOW := Lib.hid hown
    have HB2 := Lib.hid hB2
    generalize us.length = un at *
    clear a0 a1 a2 hus hue ht hk hown
    have a0 := hA2.cell 0 _ rfl
    have a1 := hA2.cell 1 _ rfl
    have a2 := hA2.cell 2 _ rfl
    unfold rpZ at hB2
    have HA2 := Lib.hid hA2
    clear hA2 hB2
    unfold rplA
    simp only
    go_upto_region 5 with (fail)
    obtain ⟨wD, hWD⟩ : ∃ wD, w2.alloc (.cells #[.int .i64 xn, .int .i64 xz, .int .i64 xe, .int .i64 xa, .slice ua un uc] rplT) = wD := ⟨_, rfl⟩
    rw [hWD]
    have hxD : Ext w2 wD := by rw [← hWD]; exact (Kp.refl _ _).alloc _
    have hCD : Blk wD w2.heap.size #[.int .i64 xn, .int .i64 xz, .int .i64 xe, .int .i64 xa, .slice ua un uc] rplT := by rw [← hWD]; exact heap_alloc_new w2 _
    clear a0 a1 a2 hWD
    have hAD := HA2.out.kp hxD (fun f => f)
    have a0 := hAD.cell 0 _ rfl
    have a1 := hAD.cell 1 _ rfl
    have a2 := hAD.cell 2 _ rfl
    obtain ⟨w3, hW3⟩ : ∃ w3, (wD.setCell ⟨w2.heap.size, 0, none⟩ (.int .i64 num)).setCell ⟨w2.heap.size, 1, none⟩ (.int .i64 z) = w3 := ⟨_, rfl⟩
    have hC3 : Blk w3 w2.heap.size #[.int .i64 num, .int .i64 z, .int .i64 xe, .int .i64 xa, .slice ua un uc] rplT := by rw [← hW3]; exact (hCD.set 0 _).set 1 _
    have hx3 : Ext w2 w3 := by rw [← hW3]; exact hxD.next (((Kp.refl (fun i => i = w2.heap.size) _).set1 _ 0 _ rfl).set1 _ 1 _ rfl) (fun i hi e => by omega)
    have f0 := hCD.free 0
    have f1 := hCD.free 1
    have g0 := hCD.cell 0 _ rfl
    have g1 := hCD.cell 1 _ rfl
    have HW3 := Lib.hid hW3
    clear hCD hAD hxD hW3
    go_upto_region 6 with (fail)
    rw [HW3.out]
    clear f0 f1 g0 g1
    have hB3 := HB2.out.kp hx3 (fun f => f)
    have HX3 := Lib.hid hx3
    have HB3 := Lib.hid hB3
    unfold rpZ at hB3
    clear a0 a1 a2
    have x0 := hC3.cell 0 _ rfl
    have x1 := hC3.cell 1 _ rfl
    have x2 := hC3.cell 2 _ rfl
    have x3 := hC3.cell 3 _ rfl
    have x4 := hC3.cell 4 _ rfl
    have c0 := hB3.cell 0 _ rfl
    have c1 := hB3.cell 1 _ rfl
    have c2 := hB3.cell 2 _ rfl
    have c3 := hB3.cell 3 _ rfl
    have c4 := hB3.cell 4 _ rfl
    have fc0 := hB3.free 0
    have fc1 := hB3.free 1
    have fc2 := hB3.free 2
    have fc3 := hB3.free 3
    have fc4 := hB3.free 4
    clear hC3 hB3 hx3
    go_wp2_with (fail)
    go_light
    refine bodyPost_ret (v := .agg #[.int .i64 num, .int .i64 z, .int .i64 xe, .int .i64 xa, .slice ua un uc]) (by simp [results, Tryz.results81, go_sem, c0, c1, c2, c3, c4]) rfl ?_
    rw [HE.out]
    have k5 := kp_set5 w3 (w.heap.size + 1) (.int .i64 num) (.int .i64 z) (.int .i64 xe) (.int .i64 xa) (.slice ua un uc)
    have hsz := HXB.out.size
    have hsz1 := HX1.out.size
    have h0s := HH.out.ts.ex.size
    refine ⟨HBD.out, .slice ua un uc, m', t', rfl, ⟨us, ((HUS.out.ext HX3.out).kpT k5 (noT_blk HB3.out (by decide)) (noT_blk HB3.out (by decide))).less (by omega), HUE.out⟩, (HT.out.ext HX3.out).aside k5 (fun i hi => by have e : i = w.heap.size + 1 := hi; omega) (Other.blk HB3.out (by decide) (by decide) (by decide)), ?_, hmm.imp id (fun h => by omega), fun i hi => ?_⟩
    · exact ((((Ext.kp HXB.out).next HX1.out (fun i _ f => f.elim)).trans HK.out).next HX3.out (fun i _ f => f.elim)).next k5 (fun i hi e => by omega)
    · rcases HOW.out i hi with h | h
      · exact .inl h
      · exact .inr (by omega)
  · have HE : Hid (requestL room L sess num z ops = (L, failRp num z0 (-1) 0)) := by show _ = _; unfold requestL; rw [if_pos (by rw [hz0]; exact hz), hz0]
    clear h ho hWB hxB hA hB hz0 HDO
    go_enter Tryz.func81, Tryz.ntmps81
    go_upto_region 1 with (fail)
    rw [HWB.out]
    go_wp2_with (fail)
    refine HMAY.out.mono ?_
    rintro e w1 ⟨rfl, hx1⟩
    have hA1 := HA.out.kp hx1 (fun f => f)
    have HX1 := Lib.hid (HXB.out.trans hx1)
    have HB1 := Lib.hid (HB.out.kp hx1 (fun f => f))
    clear hx1 a0 a1 a2
    have a0 := hA1.cell 0 _ rfl
    have a1 := hA1.cell 1 _ rfl
    have a2 := hA1.cell 2 _ rfl
    clear hA1
    go_wp2_with (fail)
    refine (repFail_any num z0 (-1) 0 _).mono ?_
    rintro e w2 ⟨u, rfl, hu, hx2⟩
    have hB2 := HB1.out.kp hx2 (fun f => f)
    have HU := Lib.hid hu
    have HB2 := Lib.hid hB2
    have HX2 := Lib.hid (HX1.out.trans hx2)
    obtain ⟨us, hus, _⟩ := hu
    obtain ⟨ua, uc, rfl⟩ := hus.slice
    generalize us.length = un at *
    unfold rpZ at hB2
    have c0 := hB2.cell 0 _ rfl
    have c1 := hB2.cell 1 _ rfl
    have c2 := hB2.cell 2 _ rfl
    have c3 := hB2.cell 3 _ rfl
    have c4 := hB2.cell 4 _ rfl
    have fc0 := hB2.free 0
    have fc1 := hB2.free 1
    have fc2 := hB2.free 2
    have fc3 := hB2.free 3
    have fc4 := hB2.free 4
    clear hB2 hx2 hus a0 a1 a2
    unfold rplA failRp
    simp only
    go_wp2_with (fail)
    go_light
    refine bodyPost_ret (v := .agg #[.int .i64 num, .int .i64 0, .int .i64 z0, .int .i64 (-1), .slice ua un uc]) (by simp [results, Tryz.results81, go_sem, c0, c1, c2, c3, c4]) rfl ?_
    rw [HE.out]
    have k5 := kp_set5 w2 (w.heap.size + 1) (.int .i64 num) (.int .i64 0) (.int .i64 z0) (.int .i64 (-1)) (.slice ua un uc)
    have hx5 : Ext w _ := HX2.out.next k5 (fun i hi e => by omega)
    exact ⟨failB _ _ _ _, .slice ua un uc, m, t, rfl, (HU.out.kpT k5 (noT_blk HB2.out (by decide)) (noT_blk HB2.out (by decide))).less (by have := HX1.out.size; omega), (HH.out.ext hx5).mono (by omega), Ext.kp hx5, .inl rfl, fun i hi => .inl hi⟩
end Go.Proofs.YtnkhmkcpdgmjmaaGreatDoor

/- slices.Equal at []string, at rows that can be read. -/
namespace Go.Proofs.YtnkhmkcpdgmjmaaGreatDoor
set_option maxRecDepth 100000
open Go.RowKit Av

theorem enc_inj : ∀ {xs ys : List Bs}, (xs.map fun b => (⟨b.toArray⟩ : ByteArray)) = (ys.map fun b => (⟨b.toArray⟩ : ByteArray)) → xs = ys
  | [], [], _ => rfl
  | [], _ :: _, h => by simp at h
  | _ :: _, [], h => by simp at h
  | x :: xs, y :: ys, h => by
    simp only [List.map_cons, List.cons.injEq] at h
    rw [enc_inj h.2]
    congr 1
    have h1 := congrArg (fun b : ByteArray => b.data.toList) h.1
    simpa using h1
theorem enc_cells {w : World} {b off : Nat} {xs : List Bs} (h : ∀ i x, (xs.map encStr)[i]? = some x → w.cell? ⟨b, off + i, none⟩ = some x) : ∀ j, j < (xs.map fun b => (⟨b.toArray⟩ : ByteArray)).length → w.cell? ⟨b, off + j, none⟩ = some (.string ((xs.map fun b => (⟨b.toArray⟩ : ByteArray)).getD j ByteArray.empty)) := fun j hj => by
  have hj' : j < xs.length := by simpa using hj
  refine h j _ ?_
  rw [List.getElem?_map, List.getElem?_eq_getElem hj']
  simp only [List.getD, List.getElem?_map, List.getElem?_eq_getElem hj', Option.map_some, Option.getD_some]
theorem equalS_any (va vb : Value) (xs ys : List Bs) (w : World) (ha : Sl w 1 va xs.length (xs.map encStr)) (hb : Sl w 1 vb ys.length (ys.map encStr)) :
    Calls Tryz.prog 207 #[va, vb] w fun e w' => e = .returned (.bool (decide (xs = ys))) ∧ Ext w w' := by
  obtain ⟨a1, c, rfl, _, hm1, _, hop1⟩ := Sl.open ha
  obtain ⟨a2, d, rfl, _, hm2, _, hop2⟩ := Sl.open hb
  unfold maxLen at hm1 hm2
  by_cases hl : xs.length = ys.length
  · by_cases h0 : xs.length = 0
    · have hx0 : xs = [] := List.length_eq_zero_iff.1 h0
      have hy0 : ys = [] := List.length_eq_zero_iff.1 (by omega)
      subst hx0 hy0
      refine (Any.slices_Equal_string_empty Tryz.laysE193 a1 a2 c 0 d w (by omega)).mono ?_
      rintro e w' ⟨rfl, rfl⟩
      exact ⟨by simp, Kp.refl _ _⟩
    · obtain ⟨b1, o1, rfl, _, h1⟩ := hop1 (by omega)
      obtain ⟨b2, o2, rfl, _, h2⟩ := hop2 (by omega)
      refine (Any.slices_Equal_string Tryz.laysE193 b1 o1 xs.length c b2 o2 ys.length d (xs.map fun b => (⟨b.toArray⟩ : ByteArray)) (ys.map fun b => (⟨b.toArray⟩ : ByteArray)) w (by simp) (by simp) (by omega) (by omega) (enc_cells h1) (enc_cells h2)).mono ?_
      rintro e w' ⟨rfl, q, rfl⟩
      refine ⟨?_, (Kp.refl _ _).drewN _⟩
      have e1 : decide (((xs.map fun b => (⟨b.toArray⟩ : ByteArray)).take xs.length) = ((ys.map fun b => (⟨b.toArray⟩ : ByteArray)).take ys.length)) = decide (xs = ys) := by
        rw [List.take_of_length_le (by simp), List.take_of_length_le (by simp), Bool.eq_iff_iff, decide_eq_true_iff, decide_eq_true_iff]
        exact ⟨enc_inj, fun h => by rw [h]⟩
      rw [e1]
  · refine (Any.slices_Equal_string_lens Tryz.laysE193 a1 a2 xs.length c ys.length d w hl).mono ?_
    rintro e w' ⟨rfl, rfl⟩
    exact ⟨by rw [decide_eq_false (fun h => hl (by rw [h]))], Kp.refl _ _⟩
end Go.Proofs.YtnkhmkcpdgmjmaaGreatDoor

/- Walks: are two results, two replies alike: alike, slices.EqualFunc, Alike, Same. -/
namespace Go.Proofs.YtnkhmkcpdgmjmaaGreatDoor
set_option maxRecDepth 100000
open Go.RowKit Av

def rpB (a b : Rp) : Bool := decide (a.err = b.err) && (decide (a.path = b.path) && (decide (a.data = b.data) && (stB a.st b.st && decide (a.names = b.names))))
def rpsB : List Rp → List Rp → Bool
  | [], [] => true
  | a :: l, b :: m => rpB a b && rpsB l m
  | _, _ => false
theorem rpsB_len : ∀ {a b : List Rp}, rpsB a b = true → a.length = b.length
  | [], [], _ => rfl
  | [], _ :: _, h => by simp [rpsB] at h
  | _ :: _, [], h => by simp [rpsB] at h
  | a :: l, b :: m, h => by
    unfold rpsB at h
    rw [Bool.and_eq_true] at h
    simp [rpsB_len h.2]
theorem rpsB_iff : ∀ {a b : List Rp}, a.length = b.length → (rpsB a b = true ↔ ∀ k (h1 : k < a.length) (h2 : k < b.length), rpB a[k] b[k] = true)
  | [], [], _ => by simp [rpsB]
  | [], _ :: _, h => by simp at h
  | _ :: _, [], h => by simp at h
  | a :: l, b :: m, h => by
    unfold rpsB
    rw [Bool.and_eq_true, rpsB_iff (by simpa using h)]
    constructor
    · rintro ⟨h1, h2⟩ k hk1 hk2
      cases k with
      | zero => exact h1
      | succ k => exact h2 k (by simpa using hk1) (by simpa using hk2)
    · intro hh
      exact ⟨hh 0 (by simp) (by simp), fun k h1 h2 => hh (k + 1) (by simpa using h1) (by simpa using h2)⟩
def sameRp (a b : RpV) : Bool := decide (a.num = b.num) && (decide (a.zxid = b.zxid) && (decide (a.err = b.err) && (decide (a.at_ = b.at_) && rpsB a.res b.res)))
theorem NmO.nms {w : World} {v : Value} {l : List Bs} (h : NmO w v l) : Sl w 1 v l.length (l.map encStr) := Sl.of_owns h
set_option maxHeartbeats 3200000 in
theorem alike_any (x y : RsE) (w : World) (hx : NmO w x.nv x.r.names) (hy : NmO w y.nv y.r.names) : Calls Tryz.prog 164 #[.agg (rsE x).toArray, .agg (rsE y).toArray] w fun e w' => e = .returned (.bool (rpB x.r y.r)) ∧ Ext w w' := by
  obtain ⟨⟨xe, xp, xd, xn, xs⟩, xv⟩ := x
  obtain ⟨⟨ye, yp, yd, yn, ys⟩, yv⟩ := y
  simp only at hx hy ⊢
  obtain ⟨ax, cx, rfl⟩ := hx.slice
  obtain ⟨ay, cy, rfl⟩ := hy.slice
  unfold rsE
  simp only
  obtain ⟨wA, hWA⟩ : ∃ wA, (w.alloc (.cells #[.int .i64 xe, .string xp, .string xd, .slice ax xn.length cx, .int .i64 xs.made, .int .i64 xs.chg, .int .i64 xs.ver, .int .i64 xs.kids, .int .i64 xs.own, .int .i64 xs.len, .int .i64 xs.cnt] rsuT)).alloc (.cells #[.int .i64 ye, .string yp, .string yd, .slice ay yn.length cy, .int .i64 ys.made, .int .i64 ys.chg, .int .i64 ys.ver, .int .i64 ys.kids, .int .i64 ys.own, .int .i64 ys.len, .int .i64 ys.cnt] rsuT) = wA := ⟨_, rfl⟩
  have hxA : Ext w wA := by rw [← hWA]; exact ((Kp.refl _ _).alloc _).alloc _
  have hA : Blk wA w.heap.size #[.int .i64 xe, .string xp, .string xd, .slice ax xn.length cx, .int .i64 xs.made, .int .i64 xs.chg, .int .i64 xs.ver, .int .i64 xs.kids, .int .i64 xs.own, .int .i64 xs.len, .int .i64 xs.cnt] rsuT := by
    rw [← hWA]
    exact Blk.kp (heap_alloc_new w _) ((Kp.refl (fun _ => False) _).alloc _) (fun f => f)
  have hB : Blk wA (w.heap.size + 1) #[.int .i64 ye, .string yp, .string yd, .slice ay yn.length cy, .int .i64 ys.made, .int .i64 ys.chg, .int .i64 ys.ver, .int .i64 ys.kids, .int .i64 ys.own, .int .i64 ys.len, .int .i64 ys.cnt] rsuT := by
    rw [← hWA]
    have := heap_alloc_new (w.alloc (.cells #[.int .i64 xe, .string xp, .string xd, .slice ax xn.length cx, .int .i64 xs.made, .int .i64 xs.chg, .int .i64 xs.ver, .int .i64 xs.kids, .int .i64 xs.own, .int .i64 xs.len, .int .i64 xs.cnt] rsuT)) (.cells #[.int .i64 ye, .string yp, .string yd, .slice ay yn.length cy, .int .i64 ys.made, .int .i64 ys.chg, .int .i64 ys.ver, .int .i64 ys.kids, .int .i64 ys.own, .int .i64 ys.len, .int .i64 ys.cnt] rsuT)
    rw [World.size_alloc] at this
    exact this
  have g0 := hA.cell 0 _ rfl
  have g1 := hA.cell 1 _ rfl
  have g2 := hA.cell 2 _ rfl
  have g3 := hA.cell 3 _ rfl
  have g4 := hA.cell 4 _ rfl
  have g5 := hA.cell 5 _ rfl
  have g6 := hA.cell 6 _ rfl
  have g7 := hA.cell 7 _ rfl
  have g8 := hA.cell 8 _ rfl
  have g9 := hA.cell 9 _ rfl
  have g10 := hA.cell 10 _ rfl
  have q0 := hB.cell 0 _ rfl
  have q1 := hB.cell 1 _ rfl
  have q2 := hB.cell 2 _ rfl
  have q3 := hB.cell 3 _ rfl
  have q4 := hB.cell 4 _ rfl
  have q5 := hB.cell 5 _ rfl
  have q6 := hB.cell 6 _ rfl
  have q7 := hB.cell 7 _ rfl
  have q8 := hB.cell 8 _ rfl
  have q9 := hB.cell 9 _ rfl
  have q10 := hB.cell 10 _ rfl
  have HS := Lib.hid (equalS_any (.slice ax xn.length cx) (.slice ay yn.length cy) xn yn wA (Sl.ext hx.nms hxA) (Sl.ext hy.nms hxA))
  have hst := stat_eql xs ys
  have hgd := stat_guard
  have e1 := str_eq xp yp
  have e2 := str_eq xd yd
  have HX := Lib.hid hxA
  have HWA := Lib.hid hWA
  have HE : Hid (rpB ⟨xe, xp, xd, xn, xs⟩ ⟨ye, yp, yd, yn, ys⟩ = (decide (xe = ye) && (decide (xp = yp) && (decide (xd = yd) && (stB xs ys && decide (xn = yn)))))) := rfl
  clear hWA hxA hA hB hx hy
  unfold stA at hst
  generalize stB xs ys = b at hst HE
  generalize rpB ⟨xe, xp, xd, xn, xs⟩ ⟨ye, yp, yd, yn, ys⟩ = r at HE ⊢
  generalize decide (xn = yn) = dn at HS HE
  by_cases h0 : xe = ye
  · by_cases h1 : xp = yp
    · by_cases h2 : xd = yd
      · subst h0 h1 h2
        cases b with
        | false =>
          go_enter Tryz.func164, Tryz.ntmps164
          go_upto_region 1 with (fail)
          rw [HWA.out]
          go_wp2_with (fail)
          go_ret
          exact ⟨ret_bool (by rw [HE.out]; simp), HX.out⟩
        | true =>
          go_enter Tryz.func164, Tryz.ntmps164
          go_upto_region 1 with (fail)
          rw [HWA.out]
          go_wp2_with (fail)
          refine HS.out.mono ?_
          rintro e w1 ⟨rfl, hx1⟩
          go_wp2_with (fail)
          go_ret
          exact ⟨ret_bool (by rw [HE.out]; simp), HX.out.trans hx1⟩
      · subst h0 h1
        go_enter Tryz.func164, Tryz.ntmps164
        go_upto_region 1 with (fail)
        rw [HWA.out]
        go_wp2_with (fail)
        go_ret
        exact ⟨ret_bool (by rw [HE.out]; simp [h2]), HX.out⟩
    · subst h0
      go_enter Tryz.func164, Tryz.ntmps164
      go_upto_region 1 with (fail)
      rw [HWA.out]
      go_wp2_with (fail)
      go_ret
      exact ⟨ret_bool (by rw [HE.out]; simp [h1]), HX.out⟩
  · have h0b : (xe == ye) = false := by simpa using h0
    go_enter Tryz.func164, Tryz.ntmps164
    go_upto_region 1 with (fail)
    rw [HWA.out]
    go_wp2_with (fail)
    go_ret
    exact ⟨ret_bool (by rw [HE.out]; simp [h0]), HX.out⟩
def EqfRel (w : World) (xs ys : List RsE) (s17 : Value) (wr : World) : Prop := ∃ k : Nat, k ≤ xs.length ∧ s17 = .int .i64 k ∧ (∀ i (h1 : i < xs.length) (h2 : i < ys.length), i < k → rpB xs[i].r ys[i].r = true) ∧ Ext w wr
set_option maxHeartbeats 3200000 in
theorem equalFuncR_any (b1 b2 : Nat) (v u : Value) (xs ys : List RsE) (w : World) (hv : RsAt w b1 v xs) (hu : RsAt w b2 u ys) : Calls Tryz.prog 163 #[v, u, .func (.func 164) #[] #[]] w fun e w' => e = .returned (.bool (rpsB (xs.map (·.r)) (ys.map (·.r)))) ∧ Ext w w' := by
  have eg : ∀ args w, (callFunc 164 args).run Tryz.prog w = .ok (.enter 164 args) w := enters_of Tryz.func164 (by kernel_rfl) rfl
  have HAL := Lib.hid (fun (x y : RsE) (W : World) (hW : Ext w W) (hx : x ∈ xs) (hy : y ∈ ys) => alike_any x y W ((hv.nm x hx).extO hW) ((hu.nm y hy).extO hW))
  obtain ⟨a1, c1, rfl, hm1, hop1⟩ := hv.open
  obtain ⟨a2, c2, rfl, hm2, hop2⟩ := hu.open
  unfold maxLen at hm1 hm2
  have HOP1 := Lib.hid hop1
  have HOP2 := Lib.hid hop2
  have HN1 := Lib.hid (fun x (hx : x ∈ xs) => (hv.nm x hx).slice)
  have HN2 := Lib.hid (fun x (hx : x ∈ ys) => (hu.nm x hx).slice)
  clear hv hu hop1 hop2
  by_cases hl : xs.length = ys.length
  · have HB : Hid (∀ k (h1 : k < xs.length) (h2 : k < ys.length), rpB xs[k].r ys[k].r = false → rpsB (xs.map (·.r)) (ys.map (·.r)) = false) := fun k h1 h2 hf => by
      rw [Bool.eq_false_iff]
      intro ht
      have := (rpsB_iff (by simpa using hl)).1 ht k (by simpa using h1) (by simpa using h2)
      rw [List.getElem_map, List.getElem_map, hf] at this
      cases this
    have HT : Hid ((∀ i (h1 : i < xs.length) (h2 : i < ys.length), rpB xs[i].r ys[i].r = true) → rpsB (xs.map (·.r)) (ys.map (·.r)) = true) := fun hh => by
      rw [rpsB_iff (by simpa using hl)]
      intro k h1 h2
      rw [List.getElem_map, List.getElem_map]
      exact hh k (by simpa using h1) (by simpa using h2)
    have hlI : (xs.length : Int) = ys.length := by omega
    have HL := Lib.hid hl
    generalize rpsB (xs.map (·.r)) (ys.map (·.r)) = R at HB HT ⊢
    clear hl
    go_enter Tryz.func163, Tryz.ntmps163
    go_wp2_with (fail)
    go_loopw [17] (fun s17 wr => EqfRel w xs ys s17 wr) (fun s17 _ => xs.length - (intOf s17).toNat)
    case atStart => exact ⟨0, Nat.zero_le _, rfl, fun i _ _ h => by omega, Kp.refl _ _⟩
    case round =>
      obtain ⟨k, hk, rfl, hall, hx⟩ := hrel
      have HALL := Lib.hid hall
      have HX := Lib.hid hx
      clear hall hx
      by_cases hlt : k < xs.length
      · have hlt2 : k < ys.length := by have := HL.out; omega
        obtain ⟨b1', o1, rfl, hb1, hc1⟩ := HOP1.out (by omega)
        obtain ⟨b2', o2, rfl, hb2, hc2⟩ := HOP2.out (by omega)
        obtain ⟨an1, cn1, e1⟩ := HN1.out _ (List.getElem_mem hlt)
        obtain ⟨an2, cn2, e2⟩ := HN2.out _ (List.getElem_mem hlt2)
        have HR := Lib.hid (fun hf => HB.out k hlt hlt2 hf)
        have HST : Hid (rpB xs[k].r ys[k].r = true → ∀ i (h1 : i < xs.length) (h2 : i < ys.length), i < k + 1 → rpB xs[i].r ys[i].r = true) := fun ht i h1 h2 h3 => by
          by_cases h4 : i < k
          · exact HALL.out i h1 h2 h4
          · obtain rfl : i = k := by omega
            exact ht
        have HCALL := Lib.hid (fun W (hW : Ext w W) => HAL.out xs[k] ys[k] W hW (List.getElem_mem hlt) (List.getElem_mem hlt2))
        have HC1 : Hid (∀ i u, i < 11 → (rsE xs[k])[i]? = some u → wr.cell? ⟨b1', o1 + k * 11 + i, none⟩ = some u) := fun i u hi hu => HX.out.cell (hc1 k hlt i u hi hu) (fun f => f)
        have HC2 : Hid (∀ W, Ext w W → ∀ i u, i < 11 → (rsE ys[k])[i]? = some u → W.cell? ⟨b2', o2 + k * 11 + i, none⟩ = some u) := fun W hW i u hi hu => hW.cell (hc2 k hlt2 i u hi hu) (fun f => f)
        generalize xs[k] = x at HC1 HCALL HR HST e1
        generalize ys[k] = y at HC2 HCALL HR HST e2
        obtain ⟨⟨xe, xp, xd, xn, xst⟩, xv⟩ := x
        obtain ⟨⟨ye, yp, yd, yn, yst⟩, yv⟩ := y
        simp only at e1 e2
        subst e1 e2
        unfold rsE at HC1 HC2 HCALL
        simp only at HC1 HC2 HCALL HR HST
        have g0 := HC1.out 0 _ (by decide) rfl
        have g1 := HC1.out 1 _ (by decide) rfl
        have g2 := HC1.out 2 _ (by decide) rfl
        have g3 := HC1.out 3 _ (by decide) rfl
        have g4 := HC1.out 4 _ (by decide) rfl
        have g5 := HC1.out 5 _ (by decide) rfl
        have g6 := HC1.out 6 _ (by decide) rfl
        have g7 := HC1.out 7 _ (by decide) rfl
        have g8 := HC1.out 8 _ (by decide) rfl
        have g9 := HC1.out 9 _ (by decide) rfl
        have g10 := HC1.out 10 _ (by decide) rfl
        obtain ⟨w2, hW2⟩ : ∃ w2, wr.alloc (.cells #[.int .i64 xe, .string xp, .string xd, .slice an1 xn.length cn1, .int .i64 xst.made, .int .i64 xst.chg, .int .i64 xst.ver, .int .i64 xst.kids, .int .i64 xst.own, .int .i64 xst.len, .int .i64 xst.cnt] rsuT) = w2 := ⟨_, rfl⟩
        have hx2 : Ext wr w2 := by rw [← hW2]; exact (Kp.refl _ _).alloc _
        have hA2 : Blk w2 wr.heap.size #[.int .i64 xe, .string xp, .string xd, .slice an1 xn.length cn1, .int .i64 xst.made, .int .i64 xst.chg, .int .i64 xst.ver, .int .i64 xst.kids, .int .i64 xst.own, .int .i64 xst.len, .int .i64 xst.cnt] rsuT := by rw [← hW2]; exact heap_alloc_new wr _
        have HX2 := Lib.hid (HX.out.trans hx2)
        have HW2 := Lib.hid hW2
        simp only [Nat.add_zero] at g0
        clear hc1 hc2 hb1 hb2 hW2
        go_upto_region 6 with (fail)
        rw [HW2.out]
        clear g0 g1 g2 g3 g4 g5 g6 g7 g8 g9 g10
        have g0 := HC2.out _ HX2.out 0 _ (by decide) rfl
        have g1 := HC2.out _ HX2.out 1 _ (by decide) rfl
        have g2 := HC2.out _ HX2.out 2 _ (by decide) rfl
        have g3 := HC2.out _ HX2.out 3 _ (by decide) rfl
        have g4 := HC2.out _ HX2.out 4 _ (by decide) rfl
        have g5 := HC2.out _ HX2.out 5 _ (by decide) rfl
        have g6 := HC2.out _ HX2.out 6 _ (by decide) rfl
        have g7 := HC2.out _ HX2.out 7 _ (by decide) rfl
        have g8 := HC2.out _ HX2.out 8 _ (by decide) rfl
        have g9 := HC2.out _ HX2.out 9 _ (by decide) rfl
        have g10 := HC2.out _ HX2.out 10 _ (by decide) rfl
        simp only [Nat.add_zero] at g0
        obtain ⟨w3, hW3⟩ : ∃ w3, w2.alloc (.cells #[.int .i64 ye, .string yp, .string yd, .slice an2 yn.length cn2, .int .i64 yst.made, .int .i64 yst.chg, .int .i64 yst.ver, .int .i64 yst.kids, .int .i64 yst.own, .int .i64 yst.len, .int .i64 yst.cnt] rsuT) = w3 := ⟨_, rfl⟩
        have hx3 : Ext w2 w3 := by rw [← hW3]; exact (Kp.refl _ _).alloc _
        have hA3 := hA2.kp hx3 (fun f => f)
        have hB3 : Blk w3 w2.heap.size #[.int .i64 ye, .string yp, .string yd, .slice an2 yn.length cn2, .int .i64 yst.made, .int .i64 yst.chg, .int .i64 yst.ver, .int .i64 yst.kids, .int .i64 yst.own, .int .i64 yst.len, .int .i64 yst.cnt] rsuT := by rw [← hW3]; exact heap_alloc_new w2 _
        have HX3 := Lib.hid (HX2.out.trans hx3)
        have HW3 := Lib.hid hW3
        clear hW3 hx3 hx2 hA2
        go_upto_region 7 with (fail)
        rw [HW3.out]
        clear g0 g1 g2 g3 g4 g5 g6 g7 g8 g9 g10
        have p0 := hA3.cell 0 _ rfl
        have p1 := hA3.cell 1 _ rfl
        have p2 := hA3.cell 2 _ rfl
        have p3 := hA3.cell 3 _ rfl
        have p4 := hA3.cell 4 _ rfl
        have p5 := hA3.cell 5 _ rfl
        have p6 := hA3.cell 6 _ rfl
        have p7 := hA3.cell 7 _ rfl
        have p8 := hA3.cell 8 _ rfl
        have p9 := hA3.cell 9 _ rfl
        have p10 := hA3.cell 10 _ rfl
        have q0 := hB3.cell 0 _ rfl
        have q1 := hB3.cell 1 _ rfl
        have q2 := hB3.cell 2 _ rfl
        have q3 := hB3.cell 3 _ rfl
        have q4 := hB3.cell 4 _ rfl
        have q5 := hB3.cell 5 _ rfl
        have q6 := hB3.cell 6 _ rfl
        have q7 := hB3.cell 7 _ rfl
        have q8 := hB3.cell 8 _ rfl
        have q9 := hB3.cell 9 _ rfl
        have q10 := hB3.cell 10 _ rfl
        have HC := Lib.hid (HCALL.out w3 HX3.out)
        clear hA3 hB3
        obtain ⟨r, hr⟩ : ∃ r, rpB ⟨xe, xp, xd, xn, xst⟩ ⟨ye, yp, yd, yn, yst⟩ = r := ⟨_, rfl⟩
        rw [hr] at HC HR HST
        clear hr
        cases r with
        | true =>
          go_wp2_with (go_at_fn 164; refine HC.out.mono ?_; rintro e w4 ⟨rfl, hx4⟩; have HX4 := Lib.hid (HX3.out.trans hx4); clear hx4)
          go_light
          refine ⟨⟨k + 1, ?_, ?_, HST.out (by first | rfl | trivial), HX4.out⟩, ?_⟩
          · omega
          · go_num
          · simp [intOf]; omega
        | false =>
          have HRF := Lib.hid (HR.out rfl)
          go_wp2_with (go_at_fn 164; refine HC.out.mono ?_; rintro e w4 ⟨rfl, hx4⟩; have HX4 := Lib.hid (HX3.out.trans hx4); clear hx4)
          go_ret
          rw [HRF.out]
          exact ⟨rfl, HX4.out⟩
      · obtain rfl : k = xs.length := by omega
        have HRT := Lib.hid (HT.out (fun i h1 h2 => HALL.out i h1 h2 h1))
        go_wp2_with (fail)
        go_ret
        rw [HRT.out]
        exact ⟨rfl, HX.out⟩
  · have hlI : ¬ (xs.length : Int) = ys.length := by omega
    have hf : rpsB (xs.map (·.r)) (ys.map (·.r)) = false := by
      rw [Bool.eq_false_iff]
      intro ht
      have := rpsB_len ht
      simp at this
      exact hl this
    rw [hf]
    clear hl hf
    go_enter Tryz.func163, Tryz.ntmps163
    go_wp2_with (fail)
    go_ret
    exact ⟨rfl, Kp.refl _ _⟩
set_option maxHeartbeats 800000 in
theorem repAlike_any (b1 b2 : Nat) (v u : Value) (xs ys : List RsE) (w : World) (hv : RsAt w b1 v xs) (hu : RsAt w b2 u ys) : Calls Tryz.prog 124 #[v, u] w fun e w' => e = .returned (.bool (rpsB (xs.map (·.r)) (ys.map (·.r)))) ∧ Ext w w' := by
  have HC := Lib.hid (equalFuncR_any b1 b2 v u xs ys w hv hu)
  obtain ⟨a1, c1, rfl⟩ := hv.slice
  obtain ⟨a2, c2, rfl⟩ := hu.slice
  clear hv hu
  generalize rpsB (xs.map (·.r)) (ys.map (·.r)) = R at HC ⊢
  go_enter Tryz.func124, Tryz.ntmps124
  go_wp2_with (fail)
  refine HC.out.mono ?_
  rintro e w1 ⟨rfl, hx1⟩
  go_wp2_with (fail)
  go_ret
  exact ⟨rfl, hx1⟩
set_option maxHeartbeats 3200000 in
theorem repSame_any (b1 b2 : Nat) (v u : Value) (r q : RpV) (w : World) (hv : RpAt w b1 v r) (hu : RpAt w b2 u q) : Calls Tryz.prog 73 #[.agg (rplA r v), .agg (rplA q u)] w fun e w' => e = .returned (.bool (sameRp r q)) ∧ Ext w w' := by
  obtain ⟨xs, h1, e1⟩ := hv
  obtain ⟨ys, h2, e2⟩ := hu
  obtain ⟨wA, hWA⟩ : ∃ wA, (w.alloc (.cells (rplA r v) rplT)).alloc (.cells (rplA q u) rplT) = wA := ⟨_, rfl⟩
  have hxA : Ext w wA := by rw [← hWA]; exact ((Kp.refl _ _).alloc _).alloc _
  have hA : Blk wA w.heap.size (rplA r v) rplT := by
    rw [← hWA]
    exact Blk.kp (heap_alloc_new w _) ((Kp.refl (fun _ => False) _).alloc _) (fun f => f)
  have hB : Blk wA (w.heap.size + 1) (rplA q u) rplT := by
    rw [← hWA]
    have := heap_alloc_new (w.alloc (.cells (rplA r v) rplT)) (.cells (rplA q u) rplT)
    rw [World.size_alloc] at this
    exact this
  have hC := repAlike_any b1 b2 v u xs ys wA (h1.ext hxA) (h2.ext hxA)
  rw [e1, e2] at hC
  have HE : Hid (sameRp r q = (decide (r.num = q.num) && (decide (r.zxid = q.zxid) && (decide (r.err = q.err) && (decide (r.at_ = q.at_) && rpsB r.res q.res))))) := rfl
  obtain ⟨rn, rz, re, ra, rr⟩ := r
  obtain ⟨qn, qz, qe, qa, qr⟩ := q
  simp only at hC HE
  generalize rpsB rr qr = R at hC HE
  generalize sameRp ⟨rn, rz, re, ra, rr⟩ ⟨qn, qz, qe, qa, qr⟩ = S at HE ⊢
  obtain ⟨av, cv, rfl⟩ := h1.slice
  obtain ⟨au, cu, rfl⟩ := h2.slice
  generalize xs.length = n1 at *
  generalize ys.length = n2 at *
  unfold rplA at *
  simp only at hA hB hWA ⊢
  have g0 := hA.cell 0 _ rfl
  have g1 := hA.cell 1 _ rfl
  have g2 := hA.cell 2 _ rfl
  have g3 := hA.cell 3 _ rfl
  have g4 := hA.cell 4 _ rfl
  have q0 := hB.cell 0 _ rfl
  have q1 := hB.cell 1 _ rfl
  have q2 := hB.cell 2 _ rfl
  have q3 := hB.cell 3 _ rfl
  have q4 := hB.cell 4 _ rfl
  have HC := Lib.hid hC
  have HX := Lib.hid hxA
  have HWA := Lib.hid hWA
  clear h1 h2 e1 e2 hWA hxA hA hB hC
  by_cases i1 : rn = qn
  · by_cases i2 : rz = qz
    · by_cases i3 : re = qe
      · by_cases i4 : ra = qa
        · subst i1 i2 i3 i4
          go_enter Tryz.func73, Tryz.ntmps73
          go_upto_region 1 with (fail)
          rw [HWA.out]
          go_wp2_with (fail)
          refine HC.out.mono ?_
          rintro e w1 ⟨rfl, hx1⟩
          go_wp2_with (fail)
          go_ret
          exact ⟨ret_bool (by rw [HE.out]; simp), HX.out.trans hx1⟩
        · have i4b : (ra == qa) = false := by simpa using i4
          subst i1 i2 i3
          go_enter Tryz.func73, Tryz.ntmps73
          go_upto_region 1 with (fail)
          rw [HWA.out]
          go_wp2_with (fail)
          go_ret
          exact ⟨ret_bool (by rw [HE.out]; simp [i4]), HX.out⟩
      · have i3b : (re == qe) = false := by simpa using i3
        subst i1 i2
        go_enter Tryz.func73, Tryz.ntmps73
        go_upto_region 1 with (fail)
        rw [HWA.out]
        go_wp2_with (fail)
        go_ret
        exact ⟨ret_bool (by rw [HE.out]; simp [i3]), HX.out⟩
    · have i2b : (rz == qz) = false := by simpa using i2
      subst i1
      go_enter Tryz.func73, Tryz.ntmps73
      go_upto_region 1 with (fail)
      rw [HWA.out]
      go_wp2_with (fail)
      go_ret
      exact ⟨ret_bool (by rw [HE.out]; simp [i2]), HX.out⟩
  · have i1b : (rn == qn) = false := by simpa using i1
    go_enter Tryz.func73, Tryz.ntmps73
    go_upto_region 1 with (fail)
    rw [HWA.out]
    go_wp2_with (fail)
    go_ret
    exact ⟨ret_bool (by rw [HE.out]; simp [i1]), HX.out⟩
end Go.Proofs.YtnkhmkcpdgmjmaaGreatDoor
