/- Walks of the reference's watches: Fire. -/
import Derived.Test.YtiplmahjmkmddaaDoorAvWWatR
import Derived.Test.YtiplmahjmkmddaaDoorAvDagRow
namespace Go.Proofs.YtiplmahjmkmddaaDoor
set_option maxRecDepth 100000
open Go.RowKit Av Go.Shelf Go.Lib

theorem take_told {f : Wt → Int} {m : List Wt} {k : Nat} (hk : k < m.length) : toldW f (m.take (k + 1)) = (if f m[k] = 0 then toldW f (m.take k) else toldW f (m.take k) ++ [{ m[k] with kind := f m[k] }]) ∧ restW f (m.take (k + 1)) = (if f m[k] = 0 then restW f (m.take k) ++ [m[k]] else restW f (m.take k)) := by
  rw [List.take_succ_eq_append_getElem hk, toldW_snoc, restW_snoc]; exact ⟨rfl, rfl⟩
def RFireRel (w : World) (base : Nat) (m : List Wt) (f : Wt → Int) (v9 v10 i : Value) (wr : World) : Prop :=
  ∃ k : Nat, k ≤ m.length ∧ i = .int .i64 k ∧ (wr.ownsRow base reT 3 v9 (toldW f (m.take k)).length ((toldW f (m.take k)).flatMap wcell) ∧ wr.ownsRow base reT 3 v10 (restW f (m.take k)).length ((restW f (m.take k)).flatMap wcell)) ∧ (∀ q, v9.ownBlock = some q → ¬ v10.ownBlock = some q) ∧ Ext w wr
theorem evW_cases (p up : ByteArray) (un : Bool) (ch : Int) (x : Wt) (hc : 1 ≤ ch) : ((x.path = p ∧ (x.kind = 1 ∨ ch = 2)) ∧ evW p up un ch x = ch ∧ ¬ evW p up un ch x = 0) ∨ (¬ (x.path = p ∧ (x.kind = 1 ∨ ch = 2)) ∧ (((un = true ∧ ch < 3) ∧ x.kind = 2) ∧ x.path = up) ∧ evW p up un ch x = 4 ∧ ¬ evW p up un ch x = 0) ∨ (¬ (x.path = p ∧ (x.kind = 1 ∨ ch = 2)) ∧ ¬ (((un = true ∧ ch < 3) ∧ x.kind = 2) ∧ x.path = up) ∧ evW p up un ch x = 0) := by
  unfold evW
  by_cases h1 : x.path = p ∧ (x.kind = 1 ∨ ch = 2)
  · left; rw [if_pos h1]; exact ⟨h1, rfl, by omega⟩
  · right
    by_cases h2 : ((un = true ∧ ch < 3) ∧ x.kind = 2) ∧ x.path = up
    · left; rw [if_neg h1, if_pos h2]; exact ⟨h1, h2, rfl, by decide⟩
    · right; rw [if_neg h1, if_neg h2]; exact ⟨h1, h2, rfl⟩
/-- What the reference's Fire makes. -/
def RFirePost (b room : Nat) (sv : Value) (p : ByteArray) (ch : Int) (m : List Wt) (w : World) (e : Ending) (w' : World) : Prop :=
  ∃ v, e = .returned v ∧ w'.ownsRow w.heap.size reT 3 v (fireRT p ch m).length ((fireRT p ch m).flatMap wcell) ∧ (∃ sv', RW w' b room sv' (fireR p ch m) ∧ AftV w sv sv' ∧ ∀ q, v.ownBlock = some q → ¬ sv'.ownBlock = some q) ∧ Kp (fun i => i = b) w w'
set_option maxHeartbeats 6400000 in
theorem refFire_yes (b room : Nat) (sv : Value) (m : List Wt) (p : ByteArray) (ch : Int) (w : World) (h : RW w b room sv m) (hp : p.size ≤ maxLen) (hn : m.length ≤ 100000) (hok : fireOk p ch = true) :
    Calls Tryd.prog 16 #[.pointer (some ⟨b, 0, none⟩), .string p, .int .i64 ch] w fun e w' => RFirePost b room sv p ch m w e w' := by
  obtain ⟨hgd, hc1, hc3⟩ := (fireOk_iff p ch).1 hok
  have a1 : ¬ ch < 1 := by omega
  have a2 : ¬ 3 < ch := by omega
  have hr1 : fireRT p ch m = toldW (evW p (optS (parentL p.data.toList)) (parentL p.data.toList).isSome ch) m := by unfold fireRT; rw [hok]; rfl
  have hr2 : fireR p ch m = restW (evW p (optS (parentL p.data.toList)) (parentL p.data.toList).isSome ch) m := by unfold fireR; rw [hok]; rfl
  have HGd := Lib.hid (refGood_any p w hp)
  rw [hgd] at HGd
  have HPar := Lib.hid (fun W => refParent_any p W hp)
  obtain ⟨up, hup⟩ : ∃ up, optS (parentL p.data.toList) = up := ⟨_, rfl⟩
  obtain ⟨un, hun⟩ : ∃ un, (parentL p.data.toList).isSome = un := ⟨_, rfl⟩
  rw [hup, hun] at HPar hr1 hr2
  obtain ⟨f, hf⟩ : ∃ f, evW p up un ch = f := ⟨_, rfl⟩
  have HC := Lib.hid (fun x => evW_cases p up un ch x hc1)
  rw [hf] at hr1 hr2
  simp only [hf] at HC
  have HR1 := Lib.hid hr1
  have HR2 := Lib.hid hr2
  have HL := Lib.hid h
  have hbl : b < w.heap.size := h.1.lt
  clear h hok hgd hc1 hc3 hup hun hf hr1 hr2
  go_enter Tryd.func16, Tryd.ntmps16
  go_wp2_with (fail)
  refine HGd.out.mono ?_
  rintro e w1 ⟨rfl, hx1⟩
  have HX1 := Lib.hid hx1
  clear hx1 HGd
  go_wp2_with (fail)
  refine (HPar.out w1).mono ?_
  rintro e w2 ⟨rfl, hx2⟩
  have HX2 := Lib.hid (HX1.out.trans hx2)
  clear hx2 HX1 HPar
  go_wp2_with (fail)
  go_loopw [9, 10, 11] (fun v9 v10 i wr => RFireRel w w.heap.size m f v9 v10 i wr) (fun _ _ i _ => m.length - (intOf i).toNat)
  case atStart => exact ⟨0, Nat.zero_le _, rfl, ⟨⟨rfl, .inl ⟨rfl, rfl⟩⟩, ⟨rfl, .inl ⟨rfl, rfl⟩⟩⟩, by simp [Value.ownBlock], HX2.out⟩
  case round =>
    clear HX2
    obtain ⟨k, hk, rfl, ⟨ho9, ho10⟩, hdj, hxr⟩ := hrel
    have hrw := HL.out.ext hxr
    obtain ⟨a, c, rfl, hc, hm, hop⟩ := hrw.open
    unfold maxLen at hm
    have c1 := hrw.1.cell 1 _ rfl
    have f1 := hrw.1.free 1
    have HB := Lib.hid hrw.1
    have HXR := Lib.hid hxr
    have HOP := Lib.hid hop
    have HO9 := Lib.hid ho9
    have HO10 := Lib.hid ho10
    have HDJ := Lib.hid hdj
    have hsz := hxr.size
    obtain ⟨a9, l9, c9, hv9⟩ : ∃ a3 l3 c3, u9 = .slice a3 l3 c3 := by obtain ⟨a3, c3, e, _⟩ := Sl.open (Sl.of_owns ho9); exact ⟨_, _, _, e⟩
    obtain ⟨a10, l10, c10, hv10⟩ : ∃ a3 l3 c3, u10 = .slice a3 l3 c3 := by obtain ⟨a3, c3, e, _⟩ := Sl.open (Sl.of_owns ho10); exact ⟨_, _, _, e⟩
    subst hv9 hv10
    clear hrw hxr hop ho9 ho10 hdj
    by_cases hlt : k < m.length
    · obtain ⟨g, off, rfl, hgl, hcl⟩ := HOP.out (by omega)
      obtain ⟨s0, s1, s2⟩ := hcl k hlt
      obtain ⟨hsn1, hsn2⟩ := take_told (f := f) hlt
      have hcs := HC.out m[k]
      have hl1 : (toldW f (m.take k)).length ≤ 100000 := by
        have h1 : (toldW f (m.take k)).length ≤ (m.take k).length := List.length_filterMap_le _ _
        rw [List.length_take] at h1; omega
      have hl2 : (restW f (m.take k)).length ≤ 100000 := by
        have h1 : (restW f (m.take k)).length ≤ (m.take k).length := List.length_filter_le _ _
        rw [List.length_take] at h1; omega
      have HL1 := Lib.hid hl1
      have HL2 := Lib.hid hl2
      obtain ⟨⟨xs, xp, xk⟩, hq⟩ : ∃ e, m[k] = e := ⟨_, rfl⟩
      rw [hq] at s0 s1 s2 hsn1 hsn2 hcs
      simp only at s0 s1 s2 hcs
      have HSN1 := Lib.hid hsn1
      have HSN2 := Lib.hid hsn2
      clear hq hcl hsn1 hsn2 hl1 hl2
      obtain ⟨W1, hW1⟩ : ∃ W1, wr.alloc (.cells #[.int .i64 xs, .string xp, .int .i64 xk] reT) = W1 := ⟨_, rfl⟩
      have hx1 : Ext wr W1 := by rw [← hW1]; exact (Kp.refl _ _).alloc _
      have hb1 : Blk W1 wr.heap.size #[.int .i64 xs, .string xp, .int .i64 xk] reT := by rw [← hW1]; exact heap_alloc_new wr _
      have hs1 : W1.heap.size = wr.heap.size + 1 := by rw [← hW1]; simp
      have HX1 := Lib.hid hx1
      have d0 := hb1.cell 0 _ rfl
      have d1 := hb1.cell 1 _ rfl
      have d2 := hb1.cell 2 _ rfl
      have t1 := str_eq xp p
      have t2 := str_eq xp up
      have HS1 := Lib.hid hs1
      clear hx1 hb1 hs1
      rcases hcs with ⟨hA, hv, hv0⟩ | ⟨hA, hB, hv, hv0⟩ | ⟨hA, hB, hv⟩
      · obtain ⟨rfl, hk12⟩ := hA
        have HN1 : Hid (toldW f (m.take (k + 1)) = toldW f (m.take k) ++ [⟨xs, xp, ch⟩]) := by show _ = _; rw [HSN1.out, if_neg hv0, hv]
        have HN2 : Hid (restW f (m.take (k + 1)) = restW f (m.take k)) := by show _ = _; rw [HSN2.out, if_neg hv0]
        have hone := wt_one [(⟨xs, xp, ch⟩ : Wt)]
        rw [decide_eq_true rfl] at t1
        clear HSN1 HSN2 HC hv hv0 t2
        have hkk : (xk == 1) = true ∨ ((xk == 1) = false ∧ (ch == 2) = true) := by
          by_cases h : xk = 1
          · left; simp [h]
          · right; refine ⟨by simp [h], ?_⟩; have : ch = 2 := by omega
            simp [this]
        clear hk12
        rcases hkk with k1 | ⟨k1, k2⟩
        all_goals
          go_wp2_with (at_builtin; refine wpList_appAt resT reT 3 (by decide) re_facts rfl _ _ rfl w.heap.size _ _ _ rfl (ownsRow.ext HO9.out (HX1.out.alloc _)) W1.heap.size 1 ([(⟨xs, xp, ch⟩ : Wt)].flatMap wcell) rfl (heap_alloc_new W1 _) rfl hone ?c1 ?c2 ?_)
          case c1 => have := HL1.out; omega
          case c2 => have := HS1.out; simp; omega
          intro v' w' h1 k2 h3
          have hsz1 := HS1.out
          have hdj : ∀ q, v'.ownBlock = some q → ¬ (Value.slice a10 l10 c10).ownBlock = some q := by
            intro q hq e
            rcases h3 with h3 | h3
            · exact HDJ.out q (by rw [← h3]; exact hq) e
            · rw [h3] at hq
              simp only [Option.some.injEq] at hq
              have := (own_at HO10.out e).2
              omega
          have hx' : Ext w w' := ((HXR.out.trans HX1.out).alloc (.cells #[.int .i64 xs, .string xp, .int .i64 ch] reT)).next k2 (fun i hi e => by have := (own_at HO9.out e).1; omega)
          have ho10 : w'.ownsRow w.heap.size reT 3 (.slice a10 l10 c10) (restW f (m.take k)).length ((restW f (m.take k)).flatMap wcell) := ownsRow.kp (ownsRow.ext HO10.out (HX1.out.alloc (.cells #[.int .i64 xs, .string xp, .int .i64 ch] reT))) k2 (fun q hq e => HDJ.out q e hq)
          have HX' := Lib.hid hx'
          have HO' := Lib.hid h1
          have HO10' := Lib.hid ho10
          have HDJ' := Lib.hid hdj
          clear h1 k2 h3 hx' ho10 hdj hsz1
          go_wp2_with (fail)
          go_light
          refine ⟨⟨k + 1, by omega, by go_num, ⟨?_, by rw [HN2.out]; exact HO10'.out⟩, HDJ'.out, HX'.out⟩, by simp [intOf]; omega⟩
          rw [HN1.out, List.length_append, flatMap_snoc]
          exact HO'.out
      · obtain ⟨⟨⟨rfl, hc3⟩, rfl⟩, rfl⟩ := hB
        have HN1 : Hid (toldW f (m.take (k + 1)) = toldW f (m.take k) ++ [⟨xs, xp, 4⟩]) := by show _ = _; rw [HSN1.out, if_neg hv0, hv]
        have HN2 : Hid (restW f (m.take (k + 1)) = restW f (m.take k)) := by show _ = _; rw [HSN2.out, if_neg hv0]
        have hone := wt_one [(⟨xs, xp, 4⟩ : Wt)]
        rw [decide_eq_true rfl] at t2
        have hkk : (decide (xp = p) = false) ∨ (decide (xp = p) = true ∧ (ch == 2) = false) := by
          by_cases h : xp = p
          · right; refine ⟨by simp [h], ?_⟩
            have : ¬ ch = 2 := fun e => hA ⟨h, .inr e⟩
            simp [this]
          · left; simp [h]
        clear HSN1 HSN2 HC hv hv0 hA
        rcases hkk with k1 | ⟨k1, k2⟩
        all_goals
          rw [k1] at t1
          clear k1
          go_wp2_with (at_builtin; refine wpList_appAt resT reT 3 (by decide) re_facts rfl _ _ rfl w.heap.size _ _ _ rfl (ownsRow.ext HO9.out (HX1.out.alloc _)) W1.heap.size 1 ([(⟨xs, xp, 4⟩ : Wt)].flatMap wcell) rfl (heap_alloc_new W1 _) rfl hone ?c1 ?c2 ?_)
          case c1 => have := HL1.out; omega
          case c2 => have := HS1.out; simp; omega
          intro v' w' h1 k2 h3
          have hsz1 := HS1.out
          have hdj : ∀ q, v'.ownBlock = some q → ¬ (Value.slice a10 l10 c10).ownBlock = some q := by
            intro q hq e
            rcases h3 with h3 | h3
            · exact HDJ.out q (by rw [← h3]; exact hq) e
            · rw [h3] at hq
              simp only [Option.some.injEq] at hq
              have := (own_at HO10.out e).2
              omega
          have hx' : Ext w w' := ((HXR.out.trans HX1.out).alloc (.cells #[.int .i64 xs, .string xp, .int .i64 4] reT)).next k2 (fun i hi e => by have := (own_at HO9.out e).1; omega)
          have ho10 : w'.ownsRow w.heap.size reT 3 (.slice a10 l10 c10) (restW f (m.take k)).length ((restW f (m.take k)).flatMap wcell) := ownsRow.kp (ownsRow.ext HO10.out (HX1.out.alloc (.cells #[.int .i64 xs, .string xp, .int .i64 4] reT))) k2 (fun q hq e => HDJ.out q e hq)
          have HX' := Lib.hid hx'
          have HO' := Lib.hid h1
          have HO10' := Lib.hid ho10
          have HDJ' := Lib.hid hdj
          clear h1 k2 h3 hx' ho10 hdj hsz1
          go_wp2_with (fail)
          go_light
          refine ⟨⟨k + 1, by omega, by go_num, ⟨?_, by rw [HN2.out]; exact HO10'.out⟩, HDJ'.out, HX'.out⟩, by simp [intOf]; omega⟩
          rw [HN1.out, List.length_append, flatMap_snoc]
          exact HO'.out
      · have HN1 : Hid (toldW f (m.take (k + 1)) = toldW f (m.take k)) := by show _ = _; rw [HSN1.out, if_pos hv]
        have HN2 : Hid (restW f (m.take (k + 1)) = restW f (m.take k) ++ [⟨xs, xp, xk⟩]) := by show _ = _; rw [HSN2.out, if_pos hv]
        have hone := wt_one [(⟨xs, xp, xk⟩ : Wt)]
        have hq1 : (decide (xp = p) = false) ∨ (decide (xp = p) = true ∧ (xk == 1) = false ∧ (ch == 2) = false) := by
          by_cases h : xp = p
          · right
            refine ⟨by simp [h], ?_, ?_⟩
            · have : ¬ xk = 1 := fun e => hA ⟨h, .inl e⟩
              simp [this]
            · have : ¬ ch = 2 := fun e => hA ⟨h, .inr e⟩
              simp [this]
          · left; simp [h]
        have hq2 : un = false ∨ (un = true ∧ ¬ ch < 3) ∨ (un = true ∧ ch < 3 ∧ (xk == 2) = false) ∨ (un = true ∧ ch < 3 ∧ (xk == 2) = true ∧ decide (xp = up) = false) := by
          cases un with
          | false => exact .inl rfl
          | true =>
            right
            by_cases h3 : ch < 3
            · right
              by_cases h4 : xk = 2
              · right
                refine ⟨rfl, h3, by simp [h4], ?_⟩
                have : ¬ xp = up := fun e => hB ⟨⟨⟨rfl, h3⟩, h4⟩, e⟩
                simp [this]
              · left; exact ⟨rfl, h3, by simp [h4]⟩
            · left; exact ⟨rfl, h3⟩
        have HQ2 := Lib.hid hq2
        clear HSN1 HSN2 HC hv hA hB hq2
        rcases hq1 with k1 | ⟨k1, k2, k3⟩
        all_goals
          rw [k1] at t1
          clear k1
          rcases HQ2.out with rfl | ⟨rfl, n1⟩ | ⟨rfl, n1, n2⟩ | ⟨rfl, n1, n2, n3⟩
        all_goals
          clear HQ2
          try rw [n3] at t2
          go_wp2_with (at_builtin; refine wpList_appAt resT reT 3 (by decide) re_facts rfl _ _ rfl w.heap.size _ _ _ rfl (ownsRow.ext HO10.out (HX1.out.alloc _)) W1.heap.size 1 ([(⟨xs, xp, xk⟩ : Wt)].flatMap wcell) rfl (heap_alloc_new W1 _) rfl hone ?c1 ?c2 ?_)
          case c1 => have := HL2.out; omega
          case c2 => have := HS1.out; simp; omega
          intro v' w' h1 kk h3
          have hsz1 := HS1.out
          have hdj : ∀ q, (Value.slice a9 l9 c9).ownBlock = some q → ¬ v'.ownBlock = some q := by
            intro q e hq
            rcases h3 with h3 | h3
            · exact HDJ.out q e (by rw [← h3]; exact hq)
            · rw [h3] at hq
              simp only [Option.some.injEq] at hq
              have := (own_at HO9.out e).2
              omega
          have hx' : Ext w w' := ((HXR.out.trans HX1.out).alloc (.cells #[.int .i64 xs, .string xp, .int .i64 xk] reT)).next kk (fun i hi e => by have := (own_at HO10.out e).1; omega)
          have ho9 : w'.ownsRow w.heap.size reT 3 (.slice a9 l9 c9) (toldW f (m.take k)).length ((toldW f (m.take k)).flatMap wcell) := ownsRow.kp (ownsRow.ext HO9.out (HX1.out.alloc (.cells #[.int .i64 xs, .string xp, .int .i64 xk] reT))) kk (fun q hq e => HDJ.out q hq e)
          have HX' := Lib.hid hx'
          have HO' := Lib.hid h1
          have HO9' := Lib.hid ho9
          have HDJ' := Lib.hid hdj
          clear h1 kk h3 hx' ho9 hdj hsz1
          go_wp2_with (fail)
          go_light
          refine ⟨⟨k + 1, by omega, by go_num, ⟨by rw [HN1.out]; exact HO9'.out, ?_⟩, HDJ'.out, HX'.out⟩, by simp [intOf]; omega⟩
          rw [HN2.out, List.length_append, flatMap_snoc]
          exact HO'.out
    · obtain rfl : k = m.length := by omega
      rw [List.take_length] at HO9 HO10
      have hst : Kp (fun i => i = b) wr (wr.setCell ⟨b, 1, none⟩ (.slice a10 l10 c10)) := Kp.set1 (S := fun i => i = b) (Kp.refl _ wr) b 1 _ rfl
      have hset := RW.set (m' := restW f m) HB.out (Sl.of_owns HO10.out) (shp_owns HO10.out) (fun i hi => by have := own_at HO10.out hi; exact ⟨by omega, this.2⟩)
      have HS := Lib.hid hset
      have HST := Lib.hid hst
      clear hset hst
      go_wp2_with (fail)
      go_ret
      go_light
      refine ⟨_, rfl, ?_, ⟨_, by rw [HR2.out]; exact HS.out, fun q hq => .inr (own_at HO10.out hq).1, HDJ.out⟩, (Ext.kp HXR.out).trans HST.out⟩
      rw [HR1.out]
      exact ownsRow.kp HO9.out HST.out (fun q hq e => by have := (own_at HO9.out hq).1; omega)
theorem fireR_no {p : ByteArray} {ch : Int} {l : List Wt} (h : fireOk p ch = false) : fireRT p ch l = [] ∧ fireR p ch l = l := by unfold fireRT fireR; simp [h]
set_option maxHeartbeats 1600000 in
theorem refFire_any (b room : Nat) (sv : Value) (m : List Wt) (p : ByteArray) (ch : Int) (w : World) (h : RW w b room sv m) (hp : p.size ≤ maxLen) (hn : m.length ≤ 100000) :
    Calls Tryd.prog 16 #[.pointer (some ⟨b, 0, none⟩), .string p, .int .i64 ch] w fun e w' => RFirePost b room sv p ch m w e w' := by
  cases hok : fireOk p ch with
  | true => exact refFire_yes b room sv m p ch w h hp hn hok
  | false =>
    obtain ⟨e1, e2⟩ := fireR_no (l := m) hok
    have HH := Lib.hid (show ∀ w', Ext w w' → RFirePost b room sv p ch m w (.returned (.slice none 0 0)) w' from fun w' hx => by
      refine ⟨_, rfl, ?_, ⟨sv, ?_, fun q hq => .inl hq, by simp [Value.ownBlock]⟩, Ext.kp hx⟩
      · rw [e1]; exact ⟨rfl, .inl ⟨rfl, rfl⟩⟩
      · rw [e2]; exact h.ext hx)
    have HGd := Lib.hid (refGood_any p w hp)
    cases hgd : goodL p.data.toList with
    | false =>
      rw [hgd] at HGd
      clear h hok e1 e2 hgd
      go_enter Tryd.func16, Tryd.ntmps16
      go_wp2_with (fail)
      refine HGd.out.mono ?_
      rintro e w1 ⟨rfl, hx1⟩
      go_wp2_with (fail)
      go_ret
      exact HH.out _ hx1
    | true =>
      rw [hgd] at HGd
      have hch : ch < 1 ∨ (¬ ch < 1 ∧ 3 < ch) := by
        by_cases h1 : ch < 1
        · exact .inl h1
        · by_cases h2 : 3 < ch
          · exact .inr ⟨h1, h2⟩
          · have := (fireOk_iff p ch).2 ⟨hgd, by omega, by omega⟩
            rw [hok] at this; cases this
      clear h hok e1 e2 hgd
      rcases hch with c1 | ⟨c1, c2⟩
      all_goals
        go_enter Tryd.func16, Tryd.ntmps16
        go_wp2_with (fail)
        refine HGd.out.mono ?_
        rintro e w1 ⟨rfl, hx1⟩
        go_wp2_with (fail)
        go_ret
        exact HH.out _ hx1
end Go.Proofs.YtiplmahjmkmddaaDoor
