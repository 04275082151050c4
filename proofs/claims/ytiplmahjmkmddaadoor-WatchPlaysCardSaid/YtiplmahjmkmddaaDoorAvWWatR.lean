/- Walks of the reference's watches: before, Drop. -/
import Derived.Test.YtiplmahjmkmddaaDoorAvLaw13A
import Derived.Test.YtiplmahjmkmddaaDoorAvWRefC
namespace Go.Proofs.YtiplmahjmkmddaaDoor
set_option maxRecDepth 100000
open Go.RowKit Av Go.Shelf Go.Lib

abbrev rwT : TypeId := 42
abbrev reT : TypeId := 61
abbrev resT : TypeId := 40
theorem re_facts : ElemOk Tryd.prog resT reT 3 := ⟨by kernel_rfl, by kernel_rfl⟩
/-- The reference's watches at block b, its slice's value sv. -/
def RW (w : World) (b room : Nat) (sv : Value) (m : List Wt) : Prop :=
  Blk w b #[.int .i64 room, sv] rwT ∧ Sl w 3 sv m.length (m.flatMap wcell) ∧ Shp sv ∧ ∀ k, sv.ownBlock = some k → k ≠ b ∧ k < w.heap.size
theorem RW.kp {S : Nat → Prop} {w w' : World} {b room : Nat} {sv : Value} {m : List Wt} (h : RW w b room sv m) (k : Kp S w w') (hb : ¬ S b) (hs : ∀ i, sv.ownBlock = some i → ¬ S i) : RW w' b room sv m :=
  ⟨h.1.kp k hb, Sl.kp h.2.1 k (fun i hi _ => hs i hi), h.2.2.1, fun i hi => ⟨(h.2.2.2 i hi).1, Nat.lt_of_lt_of_le (h.2.2.2 i hi).2 k.size⟩⟩
theorem RW.ext {w w' : World} {b room : Nat} {sv : Value} {m : List Wt} (h : RW w b room sv m) (k : Ext w w') : RW w' b room sv m := h.kp k (fun f => f) (fun _ _ f => f)
theorem RW.open {w : World} {b room : Nat} {sv : Value} {m : List Wt} (h : RW w b room sv m) : ∃ a c, sv = .slice a m.length c ∧ m.length ≤ c ∧ m.length ≤ maxLen ∧
    (0 < m.length → ∃ g off, a = some ⟨g, off, none⟩ ∧ g < w.heap.size ∧ ∀ i (hi : i < m.length), w.cell? ⟨g, off + i * 3, none⟩ = some (.int .i64 m[i].sess) ∧ w.cell? ⟨g, off + i * 3 + 1, none⟩ = some (.string m[i].path) ∧ w.cell? ⟨g, off + i * 3 + 2, none⟩ = some (.int .i64 m[i].kind)) := by
  obtain ⟨a, c, rfl, hc, hm, hop⟩ := Sl.rows (f := wcell) (K := 3) (fun _ => rfl) h.2.1
  refine ⟨a, c, rfl, hc, hm, fun h0 => ?_⟩
  obtain ⟨g, off, rfl, hg, hcl⟩ := hop h0
  exact ⟨g, off, rfl, hg, fun i hi => ⟨hcl i hi 0 _ (by decide) rfl, hcl i hi 1 _ (by decide) rfl, hcl i hi 2 _ (by decide) rfl⟩⟩
theorem RW.set {w : World} {b room : Nat} {sv v : Value} {m' : List Wt} (hb : Blk w b #[.int .i64 room, sv] rwT) (h2 : Sl w 3 v m'.length (m'.flatMap wcell)) (h3 : Shp v) (h4 : ∀ k, v.ownBlock = some k → k ≠ b ∧ k < w.heap.size) : RW (w.setCell ⟨b, 1, none⟩ v) b room v m' := by
  have k : Kp (fun i => i = b) w (w.setCell ⟨b, 1, none⟩ v) := Kp.set1 (S := fun i => i = b) (Kp.refl _ w) b 1 v rfl
  exact ⟨hb.set 1 v, Sl.kp h2 k (fun i hi _ e => (h4 i hi).1 e), h3, fun i hi => ⟨(h4 i hi).1, Nat.lt_of_lt_of_le (h4 i hi).2 k.size⟩⟩
/-- How the slice may have turned. -/
def AftV (w : World) (sv sv' : Value) : Prop := ∀ k, sv'.ownBlock = some k → sv.ownBlock = some k ∨ w.heap.size ≤ k
theorem ltW_cases (xs ys xk yk : Int) (xp yp : ByteArray) : (¬ xs = ys ∧ ltW ⟨xs, xp, xk⟩ ⟨ys, yp, yk⟩ = decide (xs < ys)) ∨ (xs = ys ∧ ¬ xk = yk ∧ ltW ⟨xs, xp, xk⟩ ⟨ys, yp, yk⟩ = decide (xk < yk)) ∨ (xs = ys ∧ xk = yk ∧ ltW ⟨xs, xp, xk⟩ ⟨ys, yp, yk⟩ = Op.bytesLess xp.toList yp.toList) := by
  by_cases h1 : xs = ys
  · right
    by_cases h2 : xk = yk
    · right
      refine ⟨h1, h2, ?_⟩
      rw [Lib.toList_data, Lib.toList_data, lessB_eq]
      simp [ltW, h1, h2]
    · left
      exact ⟨h1, h2, by simp [ltW, h1, h2]⟩
  · left
    exact ⟨h1, by simp [ltW, h1]⟩
set_option maxHeartbeats 800000 in
theorem before_any (x y : Wt) (w : World) : Calls Tryd.prog 28 #[.agg (wcell x).toArray, .agg (wcell y).toArray] w fun e w' => e = .returned (.bool (ltW x y)) ∧ Ext w w' := by
  obtain ⟨xs, xp, xk⟩ := x
  obtain ⟨ys, yp, yk⟩ := y
  have hxx : Ext w ((w.alloc (.cells #[.int .i64 xs, .string xp, .int .i64 xk] reT)).alloc (.cells #[.int .i64 ys, .string yp, .int .i64 yk] reT)) := ((Kp.refl _ _).alloc _).alloc _
  have HXX := Lib.hid hxx
  clear hxx
  rcases ltW_cases xs ys xk yk xp yp with ⟨h1, hr⟩ | ⟨rfl, h2, hr⟩ | ⟨rfl, rfl, hr⟩
  all_goals
    rw [hr]
    clear hr
    go_enter Tryd.func28, Tryd.ntmps28
    go_wp2_with (fail)
    go_ret
    exact ⟨rfl, HXX.out⟩
theorem drop_snoc {m : List Wt} {s : Int} {k : Nat} (hk : k < m.length) : dropW s (m.take (k + 1)) = dropW s (m.take k) ++ (if m[k].sess ≠ s then [m[k]] else []) := by
  unfold dropW
  rw [List.take_succ_eq_append_getElem hk, List.filter_append]
  by_cases h : m[k].sess ≠ s <;> simp [h]
def RDropRel (w : World) (base : Nat) (m : List Wt) (s : Int) (v i : Value) (wr : World) : Prop :=
  ∃ k : Nat, k ≤ m.length ∧ i = .int .i64 k ∧ wr.ownsRow base reT 3 v (dropW s (m.take k)).length ((dropW s (m.take k)).flatMap wcell) ∧ Ext w wr
set_option maxHeartbeats 1600000 in
theorem refDrop_any (b room : Nat) (sv : Value) (m : List Wt) (s : Int) (w : World) (h : RW w b room sv m) (hn : m.length ≤ 100000) :
    Calls Tryd.prog 17 #[.pointer (some ⟨b, 0, none⟩), .int .i64 s] w fun e w' => e = .returned (.int .i64 ((m.length - (dropW s m).length : Nat) : Int)) ∧ (∃ sv', RW w' b room sv' (dropW s m) ∧ AftV w sv sv') ∧ Kp (fun i => i = b) w w' := by
  have HL := Lib.hid h
  have hbl : b < w.heap.size := h.1.lt
  have hfl : (dropW s m).length ≤ m.length := List.length_filter_le _ _
  have HFL := Lib.hid hfl
  have e3 : (m.length : Int) - ((dropW s m).length : Int) = ((m.length - (dropW s m).length : Nat) : Int) := by omega
  have HE3 := Lib.hid e3
  clear h hfl e3
  go_enter Tryd.func17, Tryd.ntmps17
  go_wp2_with (fail)
  go_loopw [5, 6] (fun v i wr => RDropRel w w.heap.size m s v i wr) (fun _ i _ => m.length - (intOf i).toNat)
  case atStart => exact ⟨0, Nat.zero_le _, rfl, ⟨rfl, .inl ⟨rfl, rfl⟩⟩, Kp.refl _ _⟩
  case round =>
    obtain ⟨k, hk, rfl, hown, hxr⟩ := hrel
    have hrw := HL.out.ext hxr
    obtain ⟨a, c, rfl, hc, hm, hop⟩ := hrw.open
    unfold maxLen at hm
    have c1 := hrw.1.cell 1 _ rfl
    have f1 := hrw.1.free 1
    have HB := Lib.hid hrw.1
    have HXR := Lib.hid hxr
    have HOP := Lib.hid hop
    have HOW := Lib.hid hown
    have hsz := hxr.size
    obtain ⟨a3, l3, c3, hv3⟩ : ∃ a3 l3 c3, u5 = .slice a3 l3 c3 := by obtain ⟨a3, c3, e, _⟩ := Sl.open (Sl.of_owns hown); exact ⟨_, _, _, e⟩
    subst hv3
    clear hrw hxr hop hown
    by_cases hlt : k < m.length
    · obtain ⟨g, off, rfl, hgl, hcl⟩ := HOP.out (by omega)
      obtain ⟨s0, s1, s2⟩ := hcl k hlt
      have HSN := Lib.hid (drop_snoc (s := s) hlt)
      obtain ⟨⟨xs, xp, xk⟩, hq⟩ : ∃ e, m[k] = e := ⟨_, rfl⟩
      rw [hq] at s0 s1 s2 HSN
      simp only at s0 s1 s2
      clear hq hcl
      by_cases hx : xs = s
      · have HN : Hid (dropW s (m.take (k + 1)) = dropW s (m.take k)) := by show _ = _; rw [HSN.out]; simp [hx]
        subst hx
        clear HSN
        go_wp2_with (fail)
        go_light
        exact ⟨⟨k + 1, by omega, by go_num, by rw [HN.out]; exact HOW.out, HXR.out⟩, by simp [intOf]; omega⟩
      · have HN : Hid (dropW s (m.take (k + 1)) = dropW s (m.take k) ++ [⟨xs, xp, xk⟩]) := by show _ = _; rw [HSN.out]; simp [hx]
        have HLE : Hid ((dropW s (m.take k)).length ≤ 1000000) := by
          show _ ≤ _
          have h1 : (dropW s (m.take k)).length ≤ (m.take k).length := List.length_filter_le _ _
          rw [List.length_take] at h1
          omega
        have hone := wt_one [(⟨xs, xp, xk⟩ : Wt)]
        clear HSN
        go_wp2_with (at_builtin; refine wpList_appK resT reT 3 (by decide) re_facts rfl _ _ rfl w.heap.size _ _ _ rfl (ownsRow.ext HOW.out ((Kp.refl _ wr).alloc _)) _ 1 ([(⟨xs, xp, xk⟩ : Wt)].flatMap wcell) rfl (Sl.of_block (heap_alloc_new wr _) rfl (by decide) (Nat.le_refl _)) Shp.some hone ?c1 ?c2 ?_)
        case c1 => have := HLE.out; omega
        case c2 => first | omega | (simp; omega)
        intro v' w' h1 k2
        have hx' : Ext w w' := (HXR.out.ext ((Kp.refl _ wr).alloc (.cells #[.int .i64 xs, .string xp, .int .i64 xk] reT))).next k2 (fun i hi e => by have := (own_at HOW.out e).1; omega)
        have HX' := Lib.hid hx'
        have HO' := Lib.hid h1
        clear h1 k2 hx'
        go_wp2_with (fail)
        go_light
        refine ⟨⟨k + 1, by omega, by go_num, ?_, HX'.out⟩, by simp [intOf]; omega⟩
        rw [HN.out, List.length_append, flatMap_snoc]
        exact HO'.out
    · obtain rfl : k = m.length := by omega
      rw [List.take_length] at HOW
      have hl3 : l3 = (dropW s m).length := by
        obtain ⟨a', c', e, _⟩ := Sl.open (Sl.of_owns HOW.out)
        simp only [Value.slice.injEq] at e
        exact e.2.1
      subst hl3
      have hfl := HFL.out
      have hset := RW.set (m' := dropW s m) HB.out (Sl.of_owns HOW.out) (shp_owns HOW.out) (fun i hi => by have := own_at HOW.out hi; exact ⟨by omega, this.2⟩)
      have HS := Lib.hid hset
      have HAF : Hid (AftV w (.slice a m.length c) (.slice a3 (dropW s m).length c3)) := fun i hi => .inr (own_at HOW.out hi).1
      clear hset
      go_wp2_with (fail)
      go_ret
      go_light
      exact ⟨by rw [← HE3.out]; rfl, ⟨_, HS.out, HAF.out⟩, (Ext.kp HXR.out).trans (Kp.set1 (S := fun i => i = b) (Kp.refl _ wr) b 1 _ rfl)⟩
end Go.Proofs.YtiplmahjmkmddaaDoor
