/- Walks of the reference's watches: Arm. -/
import Derived.Test.YtiplmahjmkmddaaDoorAvWWatT
import Derived.Test.YtiplmahjmkmddaaDoorAvCut
namespace Go.Proofs.YtiplmahjmkmddaaDoor
set_option maxRecDepth 100000
open Go.RowKit Av Go.Shelf Go.Lib

theorem eqRe : EqlAt Tryd.prog reT (fun x : Wt => .agg (wcell x).toArray) (fun x y => decide (x = y)) := by
  refine ⟨fun x y w => ?_, GuardAt.agg _ (by kernel_rfl)⟩
  have u2 := Tryd.underlying2
  have a2 := Tryd.isAgg2
  have z2 := Tryd.sizeOf2
  have u3 := Tryd.underlying3
  have a3 := Tryd.isAgg3
  have z3 := Tryd.sizeOf3
  have u9 := Tryd.underlying9
  have a9 := Tryd.isAgg9
  have z9 := Tryd.sizeOf9
  have hS : Tryd.prog.underlying reT = some (.struct (Tryd.prog.fieldsOf reT)) := by kernel_rfl
  have hp : Tryd.prog.stoodInHeld reT = false := by kernel_rfl
  obtain ⟨xs, xp, xk⟩ := x
  obtain ⟨ys, yp, yk⟩ := y
  have hq := str_eq xp yp
  rw [run_eql_struct, show (10000 : Nat) = 9999 + 1 from rfl, run_equalIn_agg w 9999 reT _ _ hS hp]
  simp only [reT, Program.fieldsOf, Tryd.underlying61]
  go_simp
  by_cases h1 : xs = ys <;> by_cases h2 : xp = yp <;> by_cases h3 : xk = yk <;> simp [h1, h2, h3] at hq ⊢
  all_goals simp [hq]
theorem eqRe_run (xs ys xk yk : Int) (xp yp : ByteArray) (w : World) : Sem.run Tryd.prog (binOp .eql reT (.agg #[.int .i64 xs, .string xp, .int .i64 xk]) (.agg #[.int .i64 ys, .string yp, .int .i64 yk])) w = .ok (.bool (decide ((⟨xs, xp, xk⟩ : Wt) = ⟨ys, yp, yk⟩))) w := eqRe.1 ⟨xs, xp, xk⟩ ⟨ys, yp, yk⟩ w
theorem eqRe_gd (op : BinOp) (a b : Operand) (xs ys xk yk : Int) (xp yp : ByteArray) (w : World) : Sem.run Tryd.prog (eqGuard op reT a b (.agg #[.int .i64 xs, .string xp, .int .i64 xk]) (.agg #[.int .i64 ys, .string yp, .int .i64 yk])) w = .ok () w := eqRe.2 op a b ⟨xs, xp, xk⟩ ⟨ys, yp, yk⟩ w
def armRE (room : Nat) (m : List Wt) (x : Wt) : Int := if wtOk x = false then 1 else if m[befN x m]? = some x then 0 else if room ≤ m.length then 9 else 0
/-- What the reference's Arm makes. -/
def RArmPost (b room : Nat) (sv : Value) (m : List Wt) (x : Wt) (w : World) (e : Ending) (w' : World) : Prop :=
  e = .returned (.int .i64 (armRE room m x)) ∧ (∃ sv', RW w' b room sv' (armR room m x) ∧ AftV w sv sv') ∧ Kp (fun i => i = b) w w'
theorem RArmPost.no {b room : Nat} {sv : Value} {m : List Wt} {x : Wt} {w w' : World} {r : Int} (h : RW w b room sv m) (he : armRE room m x = r) (hg : armR room m x = m) (hx : Ext w w') : RArmPost b room sv m x w (.returned (.int .i64 r)) w' :=
  ⟨by rw [he], ⟨sv, by rw [hg]; exact h.ext hx, fun i hi => .inl hi⟩, Ext.kp hx⟩
theorem rarm_bad {room : Nat} {m : List Wt} {x : Wt} (h : wtOk x = false) : armRE room m x = 1 ∧ armR room m x = m := by unfold armRE armR; simp [h]
theorem rarm_there {room : Nat} {m : List Wt} {x : Wt} (h : wtOk x = true) (hm : m[befN x m]? = some x) : armRE room m x = 0 ∧ armR room m x = m := by unfold armRE armR; simp [h, hm]
theorem rarm_full {room : Nat} {m : List Wt} {x : Wt} (h : wtOk x = true) (hm : ¬ m[befN x m]? = some x) (hf : room ≤ m.length) : armRE room m x = 9 ∧ armR room m x = m := by
  have h2 : ¬ m.length < room := by omega
  unfold armRE armR; simp [h, hm, hf, h2]
theorem rarm_yes {room : Nat} {m : List Wt} {x : Wt} (h : wtOk x = true) (hm : ¬ m[befN x m]? = some x) (hf : m.length < room) : armRE room m x = 0 ∧ armR room m x = insW m x := by
  have : ¬ room ≤ m.length := by omega
  unfold armRE armR; simp [h, hm, hf, this]
/-- Rows that can be read, whole. -/
def SlS (w : World) (v : Value) (xs : List Wt) : Prop := Sl w 3 v xs.length (xs.flatMap wcell) ∧ Shp v
theorem flat_drop : ∀ (xs : List Wt) (k : Nat), (xs.flatMap wcell).drop (k * 3) = (xs.drop k).flatMap wcell
  | [], k => by simp
  | x :: r, 0 => by simp
  | x :: r, k + 1 => by
    rw [List.flatMap_cons, List.drop_succ_cons, ← flat_drop r k, List.drop_append]
    have : (wcell x).length = 3 := rfl
    rw [this, show (k + 1) * 3 - 3 = k * 3 by omega, List.drop_of_length_le (by rw [this]; omega)]
    rfl
theorem SlS.take {w : World} {a : Option Addr} {c : Nat} {xs : List Wt} (h : SlS w (.slice a xs.length c) xs) {k : Nat} (hk : k ≤ xs.length) : SlS w (.slice a k c) (xs.take k) := by
  have h1 := h.1.cut 0 k 0 (by omega) (Nat.zero_le _) hk
  have h2 := Shp.cut (m := 0) h.2 (Nat.zero_le k) hk
  have e : cutAd a c 0 0 = a := by
    unfold cutAd
    split
    · rfl
    · cases a with
      | none => rfl
      | some ad => simp [Addr.add]
  rw [e] at h1 h2
  simp only [Nat.sub_zero, List.drop_zero] at h1 h2
  rw [flat_take wcell 3 (fun _ => rfl)] at h1
  exact ⟨by rw [List.length_take, Nat.min_eq_left hk]; exact h1, h2⟩
theorem SlS.drop {w : World} {a : Option Addr} {c : Nat} {xs : List Wt} (h : SlS w (.slice a xs.length c) xs) {k : Nat} (hk : k ≤ xs.length) : SlS w (.slice (cutAd a c k (k * 3)) (xs.length - k) (c - k)) (xs.drop k) := by
  have h1 := h.1.cut k xs.length (k * 3) rfl hk (Nat.le_refl _)
  have h2 := Shp.cut (m := k * 3) h.2 hk (Nat.le_refl _)
  rw [flat_drop, List.take_of_length_le (by rw [flat_len wcell 3 (fun _ => rfl), List.length_drop]; exact Nat.le_refl _)] at h1
  exact ⟨by rw [List.length_drop]; exact h1, h2⟩
def BefRel (w1 : World) (m : List Wt) (x : Wt) (s : Value) (wr : World) : Prop := ∃ k : Nat, k ≤ m.length ∧ s = .int .i64 k ∧ (∀ y ∈ m.take k, ltW y x = true) ∧ Ext w1 wr
set_option maxHeartbeats 6400000 in
theorem refArm_any (b room : Nat) (sv : Value) (m : List Wt) (x : Wt) (w : World) (h : RW w b room sv m) (hp : x.path.size ≤ maxLen) (hn : m.length ≤ 100000) :
    Calls Tryd.prog 14 #[.pointer (some ⟨b, 0, none⟩), .int .i64 x.sess, .string x.path, .int .i64 x.kind] w fun e w' => RArmPost b room sv m x w e w' := by
  have hq := eqRe_run
  have hgd2 := eqRe_gd
  obtain ⟨xs, p, xk⟩ := x
  simp only at hp ⊢
  have HGd := Lib.hid (refGood_any p w hp)
  have HNO := Lib.hid (fun (r : Int) (w' : World) (he : armRE room m ⟨xs, p, xk⟩ = r) (hg : armR room m ⟨xs, p, xk⟩ = m) (hx : Ext w w') => RArmPost.no h he hg hx)
  have HOK : Hid (wtOk ⟨xs, p, xk⟩ = true ↔ 1 ≤ xs ∧ goodL p.data.toList = true ∧ (xk = 1 ∨ xk = 2)) := wtOk_iff _
  have HBAD := Lib.hid (fun hb => rarm_bad (room := room) (m := m) (x := ⟨xs, p, xk⟩) hb)
  have HW := Lib.hid h
  clear h
  by_cases c1 : xs < 1
  · have HF : Hid (wtOk ⟨xs, p, xk⟩ = false) := by
      show _ = _
      rw [Bool.eq_false_iff, ne_eq, HOK.out]; intro f; omega
    go_enter Tryd.func14, Tryd.ntmps14
    go_wp2_with (fail)
    go_ret
    exact HNO.out 1 _ (HBAD.out HF.out).1 (HBAD.out HF.out).2 (Kp.refl _ _)
  · cases hgd : goodL p.data.toList with
    | false =>
      rw [hgd] at HGd
      have HF : Hid (wtOk ⟨xs, p, xk⟩ = false) := by
        show _ = _
        rw [Bool.eq_false_iff, ne_eq, HOK.out, hgd]; simp
      clear hgd
      go_enter Tryd.func14, Tryd.ntmps14
      go_wp2_with (fail)
      refine HGd.out.mono ?_
      rintro e W2 ⟨rfl, hx2⟩
      go_wp2_with (fail)
      go_ret
      exact HNO.out 1 _ (HBAD.out HF.out).1 (HBAD.out HF.out).2 hx2
    | true =>
      rw [hgd] at HGd
      by_cases hk : ¬ xk = 1 ∧ ¬ xk = 2
      · have HF : Hid (wtOk ⟨xs, p, xk⟩ = false) := by
          show _ = _
          rw [Bool.eq_false_iff, ne_eq, HOK.out]; intro f; omega
        obtain ⟨k1, k2⟩ := hk
        have n1 : (xk != 1) = true := by simp [k1]
        have n2 : (xk != 2) = true := by simp [k2]
        clear hgd
        go_enter Tryd.func14, Tryd.ntmps14
        go_wp2_with (fail)
        refine HGd.out.mono ?_
        rintro e W2 ⟨rfl, hx2⟩
        go_wp2_with (fail)
        go_ret
        exact HNO.out 1 _ (HBAD.out HF.out).1 (HBAD.out HF.out).2 hx2
      · have hkk : xk = 1 ∨ xk = 2 := by omega
        have HT : Hid (wtOk ⟨xs, p, xk⟩ = true) := by show _ = _; exact HOK.out.2 ⟨by omega, hgd, hkk⟩
        obtain ⟨X, hX⟩ : ∃ X : Wt, (⟨xs, p, xk⟩ : Wt) = X := ⟨_, rfl⟩
        have HCB := Lib.hid (show ∀ (ms mk : Int) (mp : ByteArray) W, Calls Tryd.prog 28 #[.agg #[.int .i64 ms, .string mp, .int .i64 mk], .agg #[.int .i64 xs, .string p, .int .i64 xk]] W fun e w' => e = .returned (.bool (ltW ⟨ms, mp, mk⟩ ⟨xs, p, xk⟩)) ∧ Ext W w' from fun ms mk mp W => before_any ⟨ms, mp, mk⟩ ⟨xs, p, xk⟩ W)
        rw [hX] at HT HNO HCB ⊢
        have hqX : ∀ ms mk mp, decide ((⟨ms, mp, mk⟩ : Wt) = ⟨xs, p, xk⟩) = decide ((⟨ms, mp, mk⟩ : Wt) = X) := fun ms mk mp => by rw [hX]
        have HXE := Lib.hid hX
        have HQX := Lib.hid hqX
        have hnn : (xk != 1) = false ∨ ((xk != 1) = true ∧ (xk != 2) = false) := by rcases hkk with rfl | rfl <;> simp
        clear hk hgd hX hqX HBAD HOK hkk
        rcases hnn with n1 | ⟨n1, n2⟩
        all_goals
          go_enter Tryd.func14, Tryd.ntmps14
          go_wp2_with (fail)
          refine HGd.out.mono ?_
          rintro e W2 ⟨rfl, hx2⟩
          obtain ⟨W3, hW3⟩ : ∃ W3, W2.alloc (.cells #[.int .i64 xs, .string p, .int .i64 xk] reT) = W3 := ⟨_, rfl⟩
          have hx3 : Ext W2 W3 := by rw [← hW3]; exact (Kp.refl _ _).alloc _
          have hb3 : Blk W3 W2.heap.size #[.int .i64 xs, .string p, .int .i64 xk] reT := by rw [← hW3]; exact heap_alloc_new W2 _
          have HX3 := Lib.hid (hx2.trans hx3)
          have HB3 := Lib.hid hb3
          clear hx2 hx3 hb3 HGd
          go_wp2_with (fail)
          go_loopw [10] (fun i wr => BefRel W3 m X i wr) (fun i _ => m.length - (intOf i).toNat)
          case atStart => exact ⟨0, Nat.zero_le _, rfl, by simp, Kp.refl _ _⟩
          case round =>
            obtain ⟨k, hk, rfl, hall, hxr⟩ := hrel
            have hrw := HW.out.ext (HX3.out.trans hxr)
            obtain ⟨a, c, rfl, hc, hm, hop⟩ := hrw.open
            unfold maxLen at hm
            have HALL := Lib.hid hall
            have HRW := Lib.hid hrw
            have HXR := Lib.hid (HX3.out.trans hxr)
            have HXQ := Lib.hid hxr
            have HBX := Lib.hid (HB3.out.kp hxr (fun f => f))
            have HOP := Lib.hid hop
            clear hall hrw hxr hop
            by_cases hlt : k < m.length
            · obtain ⟨g, off, rfl, hg, hcl⟩ := HOP.out (by omega)
              obtain ⟨s0, s1, s2⟩ := hcl k hlt
              have hat := befN_at X m k hlt HALL.out
              have hge : m[k]? = some m[k] := List.getElem?_eq_getElem hlt
              have hsn : ltW m[k] X = true → ∀ y ∈ m.take (k + 1), ltW y X = true := fun h y hy => by
                rw [List.take_succ_eq_append_getElem hlt] at hy
                rcases List.mem_append.1 hy with hy | hy
                · exact HALL.out y hy
                · simp only [List.mem_singleton] at hy; subst hy; exact h
              obtain ⟨⟨ms, mp, mk⟩, hqq⟩ : ∃ e, m[k] = e := ⟨_, rfl⟩
              rw [hqq] at s0 s1 s2 hat hge hsn
              simp only at s0 s1 s2
              obtain ⟨dx, hdx⟩ : ∃ dx, decide ((⟨ms, mp, mk⟩ : Wt) = X) = dx := ⟨_, rfl⟩
              have hqk : ∀ w, Sem.run Tryd.prog (binOp .eql reT (.agg #[.int .i64 ms, .string mp, .int .i64 mk]) (.agg #[.int .i64 xs, .string p, .int .i64 xk])) w = .ok (.bool dx) w := fun w => by rw [hq, HQX.out, hdx]
              have HDX := Lib.hid hdx
              clear hdx
              obtain ⟨d, hd⟩ : ∃ d, ltW ⟨ms, mp, mk⟩ X = d := ⟨_, rfl⟩
              have HCBK := Lib.hid (HCB.out ms mk mp)
              rw [hd] at HCBK hat hsn
              have HAT := Lib.hid hat
              have HGE := Lib.hid hge
              have HSN := Lib.hid hsn
              have HS0 := Lib.hid s0
              have HS1 := Lib.hid s1
              have HS2 := Lib.hid s2
              clear hcl hqq s0 s1 s2 hd hat hge hsn
              go_upto_region 5 with (fail)
              refine' wp_region_dag0 ((30, .val _) :: (31, .val _) :: (32, .val _) :: (33, .val _) :: (34, .val _) :: (35, .val _) :: (36, .val _) :: (37, .val _) :: (38, .val _) :: (39, .val _) :: (40, .val _) :: (41, .val _) :: (42, .val _) :: (43, .val _) :: (44, .val _) :: (45, .val _) :: (46, .val _) :: (47, .val _) :: []) (by exact ⟨fun _ _ _ _ _ => trivial, ⟨fun _ _ _ _ _ => trivial, ⟨fun _ _ _ _ _ => trivial, ⟨fun _ _ _ _ _ => trivial, ⟨fun _ _ _ _ _ => trivial, ⟨fun _ _ _ _ _ => trivial, ⟨fun _ _ _ _ _ => trivial, ⟨fun _ _ _ _ _ => trivial, ⟨fun _ _ _ _ _ => trivial, ⟨fun _ _ _ _ _ => trivial, ⟨fun _ _ _ _ _ => trivial, ⟨fun _ _ _ _ _ => trivial, ⟨fun _ _ _ _ _ => trivial, ⟨fun _ _ _ _ _ => trivial, ⟨fun _ _ _ _ _ => trivial, ⟨fun _ _ _ _ _ => trivial, ⟨fun _ _ _ _ _ => trivial, ⟨fun _ _ _ _ _ => trivial, trivial⟩⟩⟩⟩⟩⟩⟩⟩⟩⟩⟩⟩⟩⟩⟩⟩⟩⟩) (by kernel_rfl) (by kernel_rfl) (by kernel_rfl) ?_
              rotate_left 18
              repeat (first
                | (refine wpD_skipv ?_ ?_ ?_
                   focus rfl
                   focus rfl
                   simp only [Act.put, List.setIfInBounds_toArray, List.set_cons_succ, List.set_cons_zero])
                | (refine' wpD_val (c := _) ?_ (fun w => Kp.refl _ w) ?_ (fun wq hwq hfq => ?_) ?_
                   rotate_left
                   focus rfl
                   focus rfl
                   focus (have s0 := hwq.cell HS0.out (fun f => f); have s1 := hwq.cell HS1.out (fun f => f); have s2 := hwq.cell HS2.out (fun f => f); have d1 := (HRW.out.1.kp hwq (fun f => f)).cell 1 _ rfl; have e0 := (HBX.out.kp hwq (fun f => f)).cell 0 _ rfl; have e1 := (HBX.out.kp hwq (fun f => f)).cell 1 _ rfl; have e2 := (HBX.out.kp hwq (fun f => f)).cell 2 _ rfl; go_simp; first | done | rfl)
                   simp only [Act.put, List.setIfInBounds_toArray, List.set_cons_succ, List.set_cons_zero])
                | (refine' wpD_con (c := _) ?_ ?_ (fun wq hwq hfq => ?_) ?_
                   rotate_left
                   focus rfl
                   focus rfl
                   focus (have s0 := hwq.cell HS0.out (fun f => f); have s1 := hwq.cell HS1.out (fun f => f); have s2 := hwq.cell HS2.out (fun f => f); have d1 := (HRW.out.1.kp hwq (fun f => f)).cell 1 _ rfl; have e0 := (HBX.out.kp hwq (fun f => f)).cell 0 _ rfl; have e1 := (HBX.out.kp hwq (fun f => f)).cell 1 _ rfl; have e2 := (HBX.out.kp hwq (fun f => f)).cell 2 _ rfl; go_simp; (try (rw [dUpon_enter])); ((have hc := HCBK.out wq); (with_reducible refine hc.mono ?_); rintro e w' ⟨rfl, hx⟩; exact DEnd.con hx))
                   simp only [Act.put, List.setIfInBounds_toArray, List.set_cons_succ, List.set_cons_zero])
                | fail)
              refine wpD_nil ?_
              intro W6 hx6 hend
              clear hend
              have HX6 := Lib.hid (HXR.out.trans hx6)
              have HXQ6 := Lib.hid (HXQ.out.trans hx6)
              have HRW6 := Lib.hid (HRW.out.ext hx6)
              have HBX6 := Lib.hid (HBX.out.kp hx6 (fun f => f))
              have HS0 := Lib.hid (hx6.cell HS0.out (fun f => f))
              have HS1 := Lib.hid (hx6.cell HS1.out (fun f => f))
              have HS2 := Lib.hid (hx6.cell HS2.out (fun f => f))
              clear hx6 HCBK HRW HXR HXQ HBX
              cases d with
              | true =>
                go_wp2_with (fail)
                go_light
                exact ⟨⟨k + 1, by omega, by go_num, HSN.out rfl, HXQ6.out⟩, by simp [intOf]; omega⟩
              | false =>
                have hbn : befN X m = k := HAT.out rfl
                clear hq
                cases dx with
                | true =>
                  have hmx := of_decide_eq_true HDX.out
                  have HTH := Lib.hid (rarm_there (room := room) HT.out (by rw [hbn, HGE.out, hmx]))
                  clear hmx hbn HSN HAT
                  go_upto_region 7 with (fail)
                  refine' wp_region_dag0 ((50, .val _) :: (51, .val _) :: (52, .val _) :: (53, .val _) :: (54, .val _) :: (55, .val _) :: (56, .val _) :: (57, .val _) :: (58, .val _) :: (59, .val _) :: (60, .val _) :: (61, .val _) :: (62, .val _) :: (63, .val _) :: (64, .val _) :: (65, .val _) :: (66, .val _) :: (67, .val _) :: []) (by exact ⟨fun _ _ _ _ _ => trivial, ⟨fun _ _ _ _ _ => trivial, ⟨fun _ _ _ _ _ => trivial, ⟨fun _ _ _ _ _ => trivial, ⟨fun _ _ _ _ _ => trivial, ⟨fun _ _ _ _ _ => trivial, ⟨fun _ _ _ _ _ => trivial, ⟨fun _ _ _ _ _ => trivial, ⟨fun _ _ _ _ _ => trivial, ⟨fun _ _ _ _ _ => trivial, ⟨fun _ _ _ _ _ => trivial, ⟨fun _ _ _ _ _ => trivial, ⟨fun _ _ _ _ _ => trivial, ⟨fun _ _ _ _ _ => trivial, ⟨fun _ _ _ _ _ => trivial, ⟨fun _ _ _ _ _ => trivial, ⟨fun _ _ _ _ _ => trivial, ⟨fun _ _ _ _ _ => trivial, trivial⟩⟩⟩⟩⟩⟩⟩⟩⟩⟩⟩⟩⟩⟩⟩⟩⟩⟩) (by kernel_rfl) (by kernel_rfl) (by kernel_rfl) ?_
                  rotate_left 18
                  repeat (first
                    | (refine wpD_skipv ?_ ?_ ?_
                       focus rfl
                       focus rfl
                       simp only [Act.put, List.setIfInBounds_toArray, List.set_cons_succ, List.set_cons_zero])
                    | (refine' wpD_val (c := _) ?_ (fun w => Kp.refl _ w) ?_ (fun wq hwq hfq => ?_) ?_
                       rotate_left
                       focus rfl
                       focus rfl
                       focus (have s0 := hwq.cell HS0.out (fun f => f); have s1 := hwq.cell HS1.out (fun f => f); have s2 := hwq.cell HS2.out (fun f => f); have d1 := (HRW6.out.1.kp hwq (fun f => f)).cell 1 _ rfl; have e0 := (HBX6.out.kp hwq (fun f => f)).cell 0 _ rfl; have e1 := (HBX6.out.kp hwq (fun f => f)).cell 1 _ rfl; have e2 := (HBX6.out.kp hwq (fun f => f)).cell 2 _ rfl; go_simp; first | done | rfl)
                       simp only [Act.put, List.setIfInBounds_toArray, List.set_cons_succ, List.set_cons_zero])
                    | (refine' wpD_con (c := _) ?_ ?_ (fun wq hwq hfq => ?_) ?_
                       rotate_left
                       focus rfl
                       focus rfl
                       focus (have s0 := hwq.cell HS0.out (fun f => f); have s1 := hwq.cell HS1.out (fun f => f); have s2 := hwq.cell HS2.out (fun f => f); have d1 := (HRW6.out.1.kp hwq (fun f => f)).cell 1 _ rfl; have e0 := (HBX6.out.kp hwq (fun f => f)).cell 0 _ rfl; have e1 := (HBX6.out.kp hwq (fun f => f)).cell 1 _ rfl; have e2 := (HBX6.out.kp hwq (fun f => f)).cell 2 _ rfl; go_simp; (try (rw [dUpon_enter])); fail)
                       simp only [Act.put, List.setIfInBounds_toArray, List.set_cons_succ, List.set_cons_zero])
                    | fail)
                  refine wpD_nil ?_
                  intro W7 hx7 hend
                  clear hend
                  have HX7 := Lib.hid (HX6.out.trans hx7)
                  clear hx7
                  go_wp2_with (fail)
                  go_ret
                  go_light
                  exact HNO.out 0 _ HTH.out.1 HTH.out.2 HX7.out
                | false =>
                have hmx := of_decide_eq_false HDX.out
                have hnm : ¬ m[befN X m]? = some X := by
                  rw [hbn, HGE.out]
                  intro e
                  exact hmx (Option.some.inj e)
                clear hmx HSN HAT
                go_upto_region 7 with (fail)
                refine' wp_region_dag0 ((50, .val _) :: (51, .val _) :: (52, .val _) :: (53, .val _) :: (54, .val _) :: (55, .val _) :: (56, .val _) :: (57, .val _) :: (58, .val _) :: (59, .val _) :: (60, .val _) :: (61, .val _) :: (62, .val _) :: (63, .val _) :: (64, .val _) :: (65, .val _) :: (66, .val _) :: (67, .val _) :: []) (by exact ⟨fun _ _ _ _ _ => trivial, ⟨fun _ _ _ _ _ => trivial, ⟨fun _ _ _ _ _ => trivial, ⟨fun _ _ _ _ _ => trivial, ⟨fun _ _ _ _ _ => trivial, ⟨fun _ _ _ _ _ => trivial, ⟨fun _ _ _ _ _ => trivial, ⟨fun _ _ _ _ _ => trivial, ⟨fun _ _ _ _ _ => trivial, ⟨fun _ _ _ _ _ => trivial, ⟨fun _ _ _ _ _ => trivial, ⟨fun _ _ _ _ _ => trivial, ⟨fun _ _ _ _ _ => trivial, ⟨fun _ _ _ _ _ => trivial, ⟨fun _ _ _ _ _ => trivial, ⟨fun _ _ _ _ _ => trivial, ⟨fun _ _ _ _ _ => trivial, ⟨fun _ _ _ _ _ => trivial, trivial⟩⟩⟩⟩⟩⟩⟩⟩⟩⟩⟩⟩⟩⟩⟩⟩⟩⟩) (by kernel_rfl) (by kernel_rfl) (by kernel_rfl) ?_
                rotate_left 18
                repeat (first
                  | (refine wpD_skipv ?_ ?_ ?_
                     focus rfl
                     focus rfl
                     simp only [Act.put, List.setIfInBounds_toArray, List.set_cons_succ, List.set_cons_zero])
                  | (refine' wpD_val (c := _) ?_ (fun w => Kp.refl _ w) ?_ (fun wq hwq hfq => ?_) ?_
                     rotate_left
                     focus rfl
                     focus rfl
                     focus (have s0 := hwq.cell HS0.out (fun f => f); have s1 := hwq.cell HS1.out (fun f => f); have s2 := hwq.cell HS2.out (fun f => f); have d1 := (HRW6.out.1.kp hwq (fun f => f)).cell 1 _ rfl; have e0 := (HBX6.out.kp hwq (fun f => f)).cell 0 _ rfl; have e1 := (HBX6.out.kp hwq (fun f => f)).cell 1 _ rfl; have e2 := (HBX6.out.kp hwq (fun f => f)).cell 2 _ rfl; go_simp; first | done | rfl)
                     simp only [Act.put, List.setIfInBounds_toArray, List.set_cons_succ, List.set_cons_zero])
                  | (refine' wpD_con (c := _) ?_ ?_ (fun wq hwq hfq => ?_) ?_
                     rotate_left
                     focus rfl
                     focus rfl
                     focus (have s0 := hwq.cell HS0.out (fun f => f); have s1 := hwq.cell HS1.out (fun f => f); have s2 := hwq.cell HS2.out (fun f => f); have d1 := (HRW6.out.1.kp hwq (fun f => f)).cell 1 _ rfl; have e0 := (HBX6.out.kp hwq (fun f => f)).cell 0 _ rfl; have e1 := (HBX6.out.kp hwq (fun f => f)).cell 1 _ rfl; have e2 := (HBX6.out.kp hwq (fun f => f)).cell 2 _ rfl; go_simp; (try (rw [dUpon_enter])); fail)
                     simp only [Act.put, List.setIfInBounds_toArray, List.set_cons_succ, List.set_cons_zero])
                  | fail)
                refine wpD_nil ?_
                intro W7 hx7 hend
                clear hend hqk
                have HX7 := Lib.hid (HX6.out.trans hx7)
                have HRW7 := Lib.hid (HRW6.out.ext hx7)
                have HBX7 := Lib.hid (HBX6.out.kp hx7 (fun f => f))
                clear hx7 HRW6 HBX6 HX6 HXQ6 HS0 HS1 HS2
                have HBN := Lib.hid hbn
                have HNM := Lib.hid hnm
                clear hbn hnm
                go_upto_region 9 with (fail)
                refine' wp_region_dag0 ((68, .val _) :: (69, .val _) :: (70, .val _) :: (71, .val _) :: (72, .val _) :: (73, .val _) :: (74, .val _) :: (75, .val _) :: (76, .val _) :: (77, .val _) :: []) (by exact ⟨fun _ _ _ _ _ => trivial, ⟨fun _ _ _ _ _ => trivial, ⟨fun _ _ _ _ _ => trivial, ⟨fun _ _ _ _ _ => trivial, ⟨fun _ _ _ _ _ => trivial, ⟨fun _ _ _ _ _ => trivial, ⟨fun _ _ _ _ _ => trivial, ⟨fun _ _ _ _ _ => trivial, ⟨fun _ _ _ _ _ => trivial, ⟨fun _ _ _ _ _ => trivial, trivial⟩⟩⟩⟩⟩⟩⟩⟩⟩⟩) (by kernel_rfl) (by kernel_rfl) (by kernel_rfl) ?_
                rotate_left 10
                repeat (first
                  | (refine wpD_skipv ?_ ?_ ?_
                     focus rfl
                     focus rfl
                     simp only [Act.put, List.setIfInBounds_toArray, List.set_cons_succ, List.set_cons_zero])
                  | (refine' wpD_val (c := _) ?_ (fun w => Kp.refl _ w) ?_ (fun wq hwq hfq => ?_) ?_
                     rotate_left
                     focus rfl
                     focus rfl
                     focus (have d0 := (HRW7.out.1.kp hwq (fun f => f)).cell 0 _ rfl; have d1 := (HRW7.out.1.kp hwq (fun f => f)).cell 1 _ rfl; go_simp; first | done | rfl)
                     simp only [Act.put, List.setIfInBounds_toArray, List.set_cons_succ, List.set_cons_zero])
                  | (refine' wpD_con (c := _) ?_ ?_ (fun wq hwq hfq => ?_) ?_
                     rotate_left
                     focus rfl
                     focus rfl
                     focus (have d0 := (HRW7.out.1.kp hwq (fun f => f)).cell 0 _ rfl; have d1 := (HRW7.out.1.kp hwq (fun f => f)).cell 1 _ rfl; go_simp; (try (rw [dUpon_enter])); fail)
                     simp only [Act.put, List.setIfInBounds_toArray, List.set_cons_succ, List.set_cons_zero])
                  | fail)
                refine wpD_nil ?_
                intro W8 hx8 hend
                clear hend
                have HRW8 := Lib.hid (HRW7.out.ext hx8)
                have HBX8 := Lib.hid (HBX7.out.kp hx8 (fun f => f))
                have HX8 := Lib.hid (HX7.out.trans hx8)
                clear hx8 HRW7 HBX7 HX7
                by_cases hf : room ≤ m.length
                · have hfz : (room : Int) ≤ (m.length : Int) := by omega
                  have HF := Lib.hid (rarm_full HT.out HNM.out hf)
                  clear hf
                  go_wp2_with (fail)
                  go_ret
                  go_light
                  exact HNO.out 9 _ HF.out.1 HF.out.2 HX8.out
                · have hfz : ¬ (room : Int) ≤ (m.length : Int) := by omega
                  have HY := Lib.hid (rarm_yes (room := room) HT.out HNM.out (by omega))
                  have hsl : SlS W8 (.slice (some ⟨g, off, none⟩) m.length c) m := ⟨HRW8.out.2.1, HRW8.out.2.2.1⟩
                  have HT1 := Lib.hid (hsl.take hk)
                  have hT2 := hsl.drop hk
                  have e : cutAd (some ⟨g, off, none⟩) c k (k * 3) = some ⟨g, off + k * 3, none⟩ := by
                    unfold cutAd
                    rw [if_neg (by omega)]
                    by_cases h0 : k * 3 = 0 <;> simp [Addr.add, h0]
                  rw [e] at hT2
                  have HP4 : Hid (¬ c = k) := by show ¬ _; omega
                  have HT2 := Lib.hid hT2
                  have hbw : b < W8.heap.size := HRW8.out.1.lt
                  have hxw : W2.heap.size < W8.heap.size := HBX8.out.lt
                  have HLN : Hid ((m.take k).length ≤ 1000000 ∧ (m.drop k).length ≤ 1000000) := by show _ ∧ _; simp only [List.length_take, List.length_drop]; omega
                  have HO1 := Lib.hid (wt_one [(⟨xs, p, xk⟩ : Wt)])
                  have HP1 : Hid ((0 : Int) ≤ k ∧ (k : Int) ≤ c) := ⟨by omega, by omega⟩
                  have HP2 : Hid ((0 : Int) ≤ (m.length : Int) ∧ (m.length : Int) ≤ c) := ⟨by omega, by omega⟩
                  have HP3 : Hid (k ≤ m.length) := hk
                  clear hsl hT2 hf
                  go_upto_region 11 with (fail)
                  refine' wp_region_dagK 21 [(86, [79], [89]), (89, [86, 88], [79, 96]), (96, [89], [86, 88])] ((78, .val _) :: (79, ⟨fun _ => True, fun v w => Fresh0 W8.heap.size reT 3 v w⟩) :: (80, .val _) :: (81, .val _) :: (82, .val _) :: (83, .val _) :: (84, .val _) :: (85, .val _) :: (86, ⟨fun _ => True, fun v w => w.ownsRow W8.heap.size reT 3 v (m.take k).length ((m.take k).flatMap wcell)⟩) :: (87, .val _) :: (88, ⟨fun _ => True, fun v w => BoxL W8.heap.size reT 1 [.int .i64 xs, .string p, .int .i64 xk] v w⟩) :: (89, ⟨fun _ => True, fun v w => w.ownsRow W8.heap.size reT 3 v ((m.take k).length + 1) ((m.take k).flatMap wcell ++ [.int .i64 xs, .string p, .int .i64 xk])⟩) :: (90, .val _) :: (91, .val _) :: (92, .val _) :: (93, .val _) :: (94, .val _) :: (95, .val _) :: (96, ⟨fun v => ∃ a l c, v = .slice a l c, fun v w => w.ownsRow W8.heap.size reT 3 v (m.take k ++ X :: m.drop k).length ((m.take k ++ X :: m.drop k).flatMap wcell)⟩) :: (97, .val _) :: (98, .val _) :: []) (by exact ⟨fun _ _ _ _ _ => trivial, ⟨fun _ _ _ hr hv => hv.ext hr, ⟨fun _ _ _ _ _ => trivial, ⟨fun _ _ _ _ _ => trivial, ⟨fun _ _ _ _ _ => trivial, ⟨fun _ _ _ _ _ => trivial, ⟨fun _ _ _ _ _ => trivial, ⟨fun _ _ _ _ _ => trivial, ⟨fun _ _ _ hr hv => ownsRow.ext hv hr, ⟨fun _ _ _ _ _ => trivial, ⟨fun _ _ _ hr hv => hv.ext hr, ⟨fun _ _ _ hr hv => ownsRow.ext hv hr, ⟨fun _ _ _ _ _ => trivial, ⟨fun _ _ _ _ _ => trivial, ⟨fun _ _ _ _ _ => trivial, ⟨fun _ _ _ _ _ => trivial, ⟨fun _ _ _ _ _ => trivial, ⟨fun _ _ _ _ _ => trivial, ⟨fun _ _ _ hr hv => ownsRow.ext hv hr, ⟨fun _ _ _ _ _ => trivial, ⟨fun _ _ _ _ _ => trivial, trivial⟩⟩⟩⟩⟩⟩⟩⟩⟩⟩⟩⟩⟩⟩⟩⟩⟩⟩⟩⟩⟩) (by kernel_rfl) (by kernel_rfl) (by kernel_rfl) ?_
                  rotate_left 16
                  simp only [List.take_succ_cons, List.take_zero]
                  repeat (first
                    | (refine wpD_skipv ?_ ?_ ?_
                       focus rfl
                       focus rfl
                       simp only [Act.put, List.setIfInBounds_toArray, List.set_cons_succ, List.set_cons_zero])
                    | (refine' wpD_val (c := _) ?_ (fun w => Kp.refl _ w) ?_ (fun wq hwq hfq => ?_) ?_
                       rotate_left
                       focus rfl
                       focus rfl
                       focus (have d1 := (HRW8.out.1.kp hwq (Nat.not_le.2 hbw)).cell 1 _ rfl; have e0 := (HBX8.out.kp hwq (Nat.not_le.2 hxw)).cell 0 _ rfl; have e1 := (HBX8.out.kp hwq (Nat.not_le.2 hxw)).cell 1 _ rfl; have e2 := (HBX8.out.kp hwq (Nat.not_le.2 hxw)).cell 2 _ rfl; have p1 := HP1.out; have p2 := HP2.out; have p3 := HP3.out; have p4 := HP4.out; go_simp; first | done | rfl)
                       simp only [Act.put, List.setIfInBounds_toArray, List.set_cons_succ, List.set_cons_zero])
                    | (refine' wpD_con (c := _) ?_ ?_ (fun wq hwq hfq => ?_) ?_
                       rotate_left
                       focus rfl
                       focus rfl
                       focus (have d1 := (HRW8.out.1.kp hwq (Nat.not_le.2 hbw)).cell 1 _ rfl; have e0 := (HBX8.out.kp hwq (Nat.not_le.2 hxw)).cell 0 _ rfl; have e1 := (HBX8.out.kp hwq (Nat.not_le.2 hxw)).cell 1 _ rfl; have e2 := (HBX8.out.kp hwq (Nat.not_le.2 hxw)).cell 2 _ rfl; have p1 := HP1.out; have p2 := HP2.out; have p3 := HP3.out; have p4 := HP4.out; go_simp; (try (rw [dUpon_enter])); fail)
                       simp only [Act.put, List.setIfInBounds_toArray, List.set_cons_succ, List.set_cons_zero])
                    | (refine wpD_made (A := fun _ => True) (V := fun v w => Fresh0 W8.heap.size reT 3 v w) 79 ?_ ?_ ?_ ?_ (fun wq hwq hfq => ?_) (fun v79 h79 => ?_)
                       focus rfl
                       focus rfl
                       focus (exact ⟨undef, trivial⟩)
                       focus rfl
                       focus (have d1 := (HRW8.out.1.kp hwq (Nat.not_le.2 hbw)).cell 1 _ rfl; have e0 := (HBX8.out.kp hwq (Nat.not_le.2 hxw)).cell 0 _ rfl; have e1 := (HBX8.out.kp hwq (Nat.not_le.2 hxw)).cell 1 _ rfl; have e2 := (HBX8.out.kp hwq (Nat.not_le.2 hxw)).cell 2 _ rfl; have p1 := HP1.out; have p2 := HP2.out; have p3 := HP3.out; have p4 := HP4.out; go_simp; (try (rw [dUpon_enter])); rw [dUpon_value]; exact mPost trivial (Fresh0.new hwq.size) ((Kp.refl _ _).alloc _))
                       clear h79
                       simp only [Act.put, List.setIfInBounds_toArray, List.set_cons_succ, List.set_cons_zero])
                    | (refine wpD_used (A := fun _ => True) (V := fun v w => w.ownsRow W8.heap.size reT 3 v (m.take k).length ((m.take k).flatMap wcell)) 86 ?_ ?_ ?_ ?_ (fun wq hwq hfq => ?_) (fun v86 h86 => ?_)
                       focus rfl
                       focus rfl
                       focus (exact ⟨undef, trivial⟩)
                       focus rfl
                       focus (have d1 := (HRW8.out.1.kp hwq (Nat.not_le.2 hbw)).cell 1 _ rfl; have e0 := (HBX8.out.kp hwq (Nat.not_le.2 hxw)).cell 0 _ rfl; have e1 := (HBX8.out.kp hwq (Nat.not_le.2 hxw)).cell 1 _ rfl; have e2 := (HBX8.out.kp hwq (Nat.not_le.2 hxw)).cell 2 _ rfl; have p1 := HP1.out; have p2 := HP2.out; have p3 := HP3.out; have p4 := HP4.out; refine dUpon_app (d := 86) rfl (by kernel_rfl) resT reT 3 (by decide) re_facts rfl _ _ rfl W8.heap.size v79 0 [] rfl (hfq 79 rfl).1 _ (m.take k).length ((m.take k).flatMap wcell) rfl (Sl.kp HT1.out.1 hwq (fun i _ hi hge => absurd hi (Nat.not_lt.2 hge))) HT1.out.2 (wt_one _) (by have := HLN.out; omega) hwq.size (fun v' w' h1 h2 => ⟨trivial, by simpa using h1, h2.over (owns_base (hfq 79 rfl).1), ?_⟩); repeat (first | exact PresL.nil | (with_reducible refine PresL.val ?_) | (refine PresL.out rfl ?_) | (refine PresL.keep (fun u hu => BoxL.kp0 hu (by simp) (hfq 79 rfl) h2) ?_) | (refine PresL.keep (fun u hu => owns_kp0 hu (by simp; omega) (by decide) (hfq 79 rfl) h2) ?_)))
                       clear h86
                       simp only [Act.put, List.setIfInBounds_toArray, List.set_cons_succ, List.set_cons_zero])
                    | (refine wpD_made (A := fun _ => True) (V := fun v w => BoxL W8.heap.size reT 1 [.int .i64 xs, .string p, .int .i64 xk] v w) 88 ?_ ?_ ?_ ?_ (fun wq hwq hfq => ?_) (fun v88 h88 => ?_)
                       focus rfl
                       focus rfl
                       focus (exact ⟨undef, trivial⟩)
                       focus rfl
                       focus (have d1 := (HRW8.out.1.kp hwq (Nat.not_le.2 hbw)).cell 1 _ rfl; have e0 := (HBX8.out.kp hwq (Nat.not_le.2 hxw)).cell 0 _ rfl; have e1 := (HBX8.out.kp hwq (Nat.not_le.2 hxw)).cell 1 _ rfl; have e2 := (HBX8.out.kp hwq (Nat.not_le.2 hxw)).cell 2 _ rfl; have p1 := HP1.out; have p2 := HP2.out; have p3 := HP3.out; have p4 := HP4.out; go_simp; (try (rw [dUpon_enter])); rw [dUpon_value]; exact mPost trivial (BoxL.new hwq.size) ((Kp.refl _ _).alloc _))
                       clear h88
                       simp only [Act.put, List.setIfInBounds_toArray, List.set_cons_succ, List.set_cons_zero])
                    | (refine wpD_used (A := fun _ => True) (V := fun v w => w.ownsRow W8.heap.size reT 3 v ((m.take k).length + 1) ((m.take k).flatMap wcell ++ [.int .i64 xs, .string p, .int .i64 xk])) 89 ?_ ?_ ?_ ?_ (fun wq hwq hfq => ?_) (fun v89 h89 => ?_)
                       focus rfl
                       focus rfl
                       focus (exact ⟨undef, trivial⟩)
                       focus rfl
                       focus (have d1 := (HRW8.out.1.kp hwq (Nat.not_le.2 hbw)).cell 1 _ rfl; have e0 := (HBX8.out.kp hwq (Nat.not_le.2 hxw)).cell 0 _ rfl; have e1 := (HBX8.out.kp hwq (Nat.not_le.2 hxw)).cell 1 _ rfl; have e2 := (HBX8.out.kp hwq (Nat.not_le.2 hxw)).cell 2 _ rfl; have p1 := HP1.out; have p2 := HP2.out; have p3 := HP3.out; have p4 := HP4.out; refine dUpon_app (d := 89) rfl (by kernel_rfl) resT reT 3 (by decide) re_facts rfl _ _ rfl W8.heap.size v86 _ _ rfl (hfq 86 rfl) v88 1 [.int .i64 xs, .string p, .int .i64 xk] rfl (BoxL.sl (k := 3) (hfq 88 rfl) rfl (by decide)).1 (BoxL.sl (k := 3) (hfq 88 rfl) rfl (by decide)).2 HO1.out (by have := HLN.out; omega) hwq.size (fun v' w' h1 h2 => ⟨trivial, h1, h2.over (owns_base (hfq 86 rfl)), ?_⟩); repeat (first | exact PresL.nil | (with_reducible refine PresL.val ?_) | (refine PresL.out rfl ?_) | (refine PresL.keep (fun u hu => hu) ?_)))
                       clear h89
                       simp only [Act.put, List.setIfInBounds_toArray, List.set_cons_succ, List.set_cons_zero])
                    | (refine wpD_used (A := fun v => ∃ a l c, v = .slice a l c) (V := fun v w => w.ownsRow W8.heap.size reT 3 v (m.take k ++ X :: m.drop k).length ((m.take k ++ X :: m.drop k).flatMap wcell)) 96 ?_ ?_ ?_ ?_ (fun wq hwq hfq => ?_) (fun v96 h96 => ?_)
                       focus rfl
                       focus rfl
                       focus (exact ⟨.slice none 0 0, _, _, _, rfl⟩)
                       focus rfl
                       focus (have d1 := (HRW8.out.1.kp hwq (Nat.not_le.2 hbw)).cell 1 _ rfl; have e0 := (HBX8.out.kp hwq (Nat.not_le.2 hxw)).cell 0 _ rfl; have e1 := (HBX8.out.kp hwq (Nat.not_le.2 hxw)).cell 1 _ rfl; have e2 := (HBX8.out.kp hwq (Nat.not_le.2 hxw)).cell 2 _ rfl; have p1 := HP1.out; have p2 := HP2.out; have p3 := HP3.out; have p4 := HP4.out; refine dUpon_app (d := 96) rfl (by kernel_rfl) resT reT 3 (by decide) re_facts rfl _ _ rfl W8.heap.size v89 _ _ rfl (hfq 89 rfl) _ (m.drop k).length ((m.drop k).flatMap wcell) rfl (Sl.kp HT2.out.1 hwq (fun i _ hi hge => absurd hi (Nat.not_lt.2 hge))) HT2.out.2 (wt_one _) (by have := HLN.out; omega) hwq.size (fun v' w' h1 h2 => ⟨by obtain ⟨a, c, e, _⟩ := Sl.open (Sl.of_owns h1); exact ⟨_, _, _, e⟩, by rw [← HXE.out]; have := h1; simpa [Nat.add_assoc, Nat.add_comm 1] using this, h2.over (owns_base (hfq 89 rfl)), ?_⟩); repeat (first | exact PresL.nil | (with_reducible refine PresL.val ?_) | (refine PresL.out rfl ?_) | (refine PresL.keep (fun u hu => Fresh0.keep hu (hfq 89 rfl) (by omega) (by decide) h2) ?_)))
                       obtain ⟨a96, l96, c96, rfl⟩ := h96
                       simp only [Act.put, List.setIfInBounds_toArray, List.set_cons_succ, List.set_cons_zero])
                    | fail)
                  refine wpD_nil ?_
                  intro W9 hx9 hend
                  have ho : W9.ownsRow W8.heap.size reT 3 (.slice a96 l96 c96) (m.take k ++ X :: m.drop k).length ((m.take k ++ X :: m.drop k).flatMap wcell) := hend 96 (by kernel_rfl)
                  have hb9 := HRW8.out.1.kp hx9 (Nat.not_le.2 hbw)
                  have d1 := hb9.cell 1 _ rfl
                  have f1 := hb9.free 1
                  have HX9 : Hid (Ext w W9) := HX8.out.next hx9 (fun i hi hge => by have := HX8.out.size; omega)
                  have hset := RW.set (m' := m.take k ++ X :: m.drop k) hb9 (Sl.of_owns ho) (shp_owns ho) (fun i hi => by have := own_at ho hi; exact ⟨by omega, this.2⟩)
                  have HS := Lib.hid hset
                  have HAF : Hid (∀ nn cc, AftV w (.slice (some ⟨g, off, none⟩) nn cc) (.slice a96 l96 c96)) := fun _ _ i hi => .inr (by have := (own_at ho hi).1; have := HX8.out.size; omega)
                  clear hend ho hx9 hb9 hset
                  go_wp2_with (fail)
                  all_goals
                    go_ret
                    go_light
                    refine ⟨by rw [HY.out.1]; rfl, ⟨_, ?_, HAF.out _ _⟩, (Ext.kp HX9.out).trans (Kp.set1 (S := fun i => i = b) (Kp.refl _ _) b 1 _ rfl)⟩
                    rw [HY.out.2, insW, HBN.out]
                    exact HS.out
            · have hkl : k = m.length := by omega
              have hbn : befN X m = k := by
                have hall := HALL.out
                rw [hkl, List.take_length] at hall
                rw [befN_all X m hall, hkl]
              have hnm : ¬ m[befN X m]? = some X := by rw [hbn, hkl]; simp
              clear hkl hq
              go_upto_region 5 with (fail)
              refine' wp_region_dag0 ((30, .val _) :: (31, .val _) :: (32, .val _) :: (33, .val _) :: (34, .val _) :: (35, .val _) :: (36, .val _) :: (37, .val _) :: (38, .val _) :: (39, .val _) :: (40, .val _) :: (41, .val _) :: (42, .val _) :: (43, .val _) :: (44, .val _) :: (45, .val _) :: (46, .val _) :: (47, .val _) :: []) (by exact ⟨fun _ _ _ _ _ => trivial, ⟨fun _ _ _ _ _ => trivial, ⟨fun _ _ _ _ _ => trivial, ⟨fun _ _ _ _ _ => trivial, ⟨fun _ _ _ _ _ => trivial, ⟨fun _ _ _ _ _ => trivial, ⟨fun _ _ _ _ _ => trivial, ⟨fun _ _ _ _ _ => trivial, ⟨fun _ _ _ _ _ => trivial, ⟨fun _ _ _ _ _ => trivial, ⟨fun _ _ _ _ _ => trivial, ⟨fun _ _ _ _ _ => trivial, ⟨fun _ _ _ _ _ => trivial, ⟨fun _ _ _ _ _ => trivial, ⟨fun _ _ _ _ _ => trivial, ⟨fun _ _ _ _ _ => trivial, ⟨fun _ _ _ _ _ => trivial, ⟨fun _ _ _ _ _ => trivial, trivial⟩⟩⟩⟩⟩⟩⟩⟩⟩⟩⟩⟩⟩⟩⟩⟩⟩⟩) (by kernel_rfl) (by kernel_rfl) (by kernel_rfl) ?_
              rotate_left 18
              repeat (first
                | (refine wpD_skipv ?_ ?_ ?_
                   focus rfl
                   focus rfl
                   simp only [Act.put, List.setIfInBounds_toArray, List.set_cons_succ, List.set_cons_zero])
                | (refine' wpD_val (c := _) ?_ (fun w => Kp.refl _ w) ?_ (fun wq hwq hfq => ?_) ?_
                   rotate_left
                   focus rfl
                   focus rfl
                   focus (have d1 := (HRW.out.1.kp hwq (fun f => f)).cell 1 _ rfl; go_simp; first | done | rfl)
                   simp only [Act.put, List.setIfInBounds_toArray, List.set_cons_succ, List.set_cons_zero])
                | (refine' wpD_con (c := _) ?_ ?_ (fun wq hwq hfq => ?_) ?_
                   rotate_left
                   focus rfl
                   focus rfl
                   focus (have d1 := (HRW.out.1.kp hwq (fun f => f)).cell 1 _ rfl; go_simp; (try (rw [dUpon_enter])); fail)
                   simp only [Act.put, List.setIfInBounds_toArray, List.set_cons_succ, List.set_cons_zero])
                | fail)
              refine wpD_nil ?_
              intro W6 hx6 hend
              clear hend
              have HX6 := Lib.hid (HXR.out.trans hx6)
              have HRW6 := Lib.hid (HRW.out.ext hx6)
              have HBX6 := Lib.hid (HBX.out.kp hx6 (fun f => f))
              clear hx6 HRW HXR HXQ HBX
              go_upto_region 7 with (fail)
              refine' wp_region_dag0 ((50, .val _) :: (51, .val _) :: (52, .val _) :: (53, .val _) :: (54, .val _) :: (55, .val _) :: (56, .val _) :: (57, .val _) :: (58, .val _) :: (59, .val _) :: (60, .val _) :: (61, .val _) :: (62, .val _) :: (63, .val _) :: (64, .val _) :: (65, .val _) :: (66, .val _) :: (67, .val _) :: []) (by exact ⟨fun _ _ _ _ _ => trivial, ⟨fun _ _ _ _ _ => trivial, ⟨fun _ _ _ _ _ => trivial, ⟨fun _ _ _ _ _ => trivial, ⟨fun _ _ _ _ _ => trivial, ⟨fun _ _ _ _ _ => trivial, ⟨fun _ _ _ _ _ => trivial, ⟨fun _ _ _ _ _ => trivial, ⟨fun _ _ _ _ _ => trivial, ⟨fun _ _ _ _ _ => trivial, ⟨fun _ _ _ _ _ => trivial, ⟨fun _ _ _ _ _ => trivial, ⟨fun _ _ _ _ _ => trivial, ⟨fun _ _ _ _ _ => trivial, ⟨fun _ _ _ _ _ => trivial, ⟨fun _ _ _ _ _ => trivial, ⟨fun _ _ _ _ _ => trivial, ⟨fun _ _ _ _ _ => trivial, trivial⟩⟩⟩⟩⟩⟩⟩⟩⟩⟩⟩⟩⟩⟩⟩⟩⟩⟩) (by kernel_rfl) (by kernel_rfl) (by kernel_rfl) ?_
              rotate_left 18
              repeat (first
                | (refine wpD_skipv ?_ ?_ ?_
                   focus rfl
                   focus rfl
                   simp only [Act.put, List.setIfInBounds_toArray, List.set_cons_succ, List.set_cons_zero])
                | (refine' wpD_val (c := _) ?_ (fun w => Kp.refl _ w) ?_ (fun wq hwq hfq => ?_) ?_
                   rotate_left
                   focus rfl
                   focus rfl
                   focus (have d1 := (HRW6.out.1.kp hwq (fun f => f)).cell 1 _ rfl; go_simp; first | done | rfl)
                   simp only [Act.put, List.setIfInBounds_toArray, List.set_cons_succ, List.set_cons_zero])
                | (refine' wpD_con (c := _) ?_ ?_ (fun wq hwq hfq => ?_) ?_
                   rotate_left
                   focus rfl
                   focus rfl
                   focus (have d1 := (HRW6.out.1.kp hwq (fun f => f)).cell 1 _ rfl; go_simp; (try (rw [dUpon_enter])); fail)
                   simp only [Act.put, List.setIfInBounds_toArray, List.set_cons_succ, List.set_cons_zero])
                | fail)
              refine wpD_nil ?_
              intro W7 hx7 hend
              clear hend
              have HX7 := Lib.hid (HX6.out.trans hx7)
              have HRW7 := Lib.hid (HRW6.out.ext hx7)
              have HBX7 := Lib.hid (HBX6.out.kp hx7 (fun f => f))
              clear hx7 HRW6 HBX6 HX6
              have HBN := Lib.hid hbn
              have HNM := Lib.hid hnm
              clear hbn hnm
              go_upto_region 9 with (fail)
              refine' wp_region_dag0 ((68, .val _) :: (69, .val _) :: (70, .val _) :: (71, .val _) :: (72, .val _) :: (73, .val _) :: (74, .val _) :: (75, .val _) :: (76, .val _) :: (77, .val _) :: []) (by exact ⟨fun _ _ _ _ _ => trivial, ⟨fun _ _ _ _ _ => trivial, ⟨fun _ _ _ _ _ => trivial, ⟨fun _ _ _ _ _ => trivial, ⟨fun _ _ _ _ _ => trivial, ⟨fun _ _ _ _ _ => trivial, ⟨fun _ _ _ _ _ => trivial, ⟨fun _ _ _ _ _ => trivial, ⟨fun _ _ _ _ _ => trivial, ⟨fun _ _ _ _ _ => trivial, trivial⟩⟩⟩⟩⟩⟩⟩⟩⟩⟩) (by kernel_rfl) (by kernel_rfl) (by kernel_rfl) ?_
              rotate_left 10
              repeat (first
                | (refine wpD_skipv ?_ ?_ ?_
                   focus rfl
                   focus rfl
                   simp only [Act.put, List.setIfInBounds_toArray, List.set_cons_succ, List.set_cons_zero])
                | (refine' wpD_val (c := _) ?_ (fun w => Kp.refl _ w) ?_ (fun wq hwq hfq => ?_) ?_
                   rotate_left
                   focus rfl
                   focus rfl
                   focus (have d0 := (HRW7.out.1.kp hwq (fun f => f)).cell 0 _ rfl; have d1 := (HRW7.out.1.kp hwq (fun f => f)).cell 1 _ rfl; go_simp; first | done | rfl)
                   simp only [Act.put, List.setIfInBounds_toArray, List.set_cons_succ, List.set_cons_zero])
                | (refine' wpD_con (c := _) ?_ ?_ (fun wq hwq hfq => ?_) ?_
                   rotate_left
                   focus rfl
                   focus rfl
                   focus (have d0 := (HRW7.out.1.kp hwq (fun f => f)).cell 0 _ rfl; have d1 := (HRW7.out.1.kp hwq (fun f => f)).cell 1 _ rfl; go_simp; (try (rw [dUpon_enter])); fail)
                   simp only [Act.put, List.setIfInBounds_toArray, List.set_cons_succ, List.set_cons_zero])
                | fail)
              refine wpD_nil ?_
              intro W8 hx8 hend
              clear hend
              have HRW8 := Lib.hid (HRW7.out.ext hx8)
              have HBX8 := Lib.hid (HBX7.out.kp hx8 (fun f => f))
              have HX8 := Lib.hid (HX7.out.trans hx8)
              clear hx8 HRW7 HBX7 HX7
              by_cases hf : room ≤ m.length
              · have hfz : (room : Int) ≤ (m.length : Int) := by omega
                have HF := Lib.hid (rarm_full HT.out HNM.out hf)
                clear hf
                go_wp2_with (fail)
                go_ret
                go_light
                exact HNO.out 9 _ HF.out.1 HF.out.2 HX8.out
              · have hfz : ¬ (room : Int) ≤ (m.length : Int) := by omega
                have HY := Lib.hid (rarm_yes (room := room) HT.out HNM.out (by omega))
                have hsl : SlS W8 (.slice a m.length c) m := ⟨HRW8.out.2.1, HRW8.out.2.2.1⟩
                have HT1 := Lib.hid (hsl.take hk)
                have hT2 := hsl.drop hk
                have HP4 : Hid True := trivial
                have HT2 := Lib.hid hT2
                have hbw : b < W8.heap.size := HRW8.out.1.lt
                have hxw : W2.heap.size < W8.heap.size := HBX8.out.lt
                have HLN : Hid ((m.take k).length ≤ 1000000 ∧ (m.drop k).length ≤ 1000000) := by show _ ∧ _; simp only [List.length_take, List.length_drop]; omega
                have HO1 := Lib.hid (wt_one [(⟨xs, p, xk⟩ : Wt)])
                have HP1 : Hid ((0 : Int) ≤ k ∧ (k : Int) ≤ c) := ⟨by omega, by omega⟩
                have HP2 : Hid ((0 : Int) ≤ (m.length : Int) ∧ (m.length : Int) ≤ c) := ⟨by omega, by omega⟩
                have HP3 : Hid (k ≤ m.length) := hk
                clear hsl hT2 hf
                go_upto_region 11 with (fail)
                refine' wp_region_dagK 21 [(86, [79], [89]), (89, [86, 88], [79, 96]), (96, [89], [86, 88])] ((78, .val _) :: (79, ⟨fun _ => True, fun v w => Fresh0 W8.heap.size reT 3 v w⟩) :: (80, .val _) :: (81, .val _) :: (82, .val _) :: (83, .val _) :: (84, .val _) :: (85, .val _) :: (86, ⟨fun _ => True, fun v w => w.ownsRow W8.heap.size reT 3 v (m.take k).length ((m.take k).flatMap wcell)⟩) :: (87, .val _) :: (88, ⟨fun _ => True, fun v w => BoxL W8.heap.size reT 1 [.int .i64 xs, .string p, .int .i64 xk] v w⟩) :: (89, ⟨fun _ => True, fun v w => w.ownsRow W8.heap.size reT 3 v ((m.take k).length + 1) ((m.take k).flatMap wcell ++ [.int .i64 xs, .string p, .int .i64 xk])⟩) :: (90, .val _) :: (91, .val _) :: (92, .val _) :: (93, .val _) :: (94, .val _) :: (95, .val _) :: (96, ⟨fun v => ∃ a l c, v = .slice a l c, fun v w => w.ownsRow W8.heap.size reT 3 v (m.take k ++ X :: m.drop k).length ((m.take k ++ X :: m.drop k).flatMap wcell)⟩) :: (97, .val _) :: (98, .val _) :: []) (by exact ⟨fun _ _ _ _ _ => trivial, ⟨fun _ _ _ hr hv => hv.ext hr, ⟨fun _ _ _ _ _ => trivial, ⟨fun _ _ _ _ _ => trivial, ⟨fun _ _ _ _ _ => trivial, ⟨fun _ _ _ _ _ => trivial, ⟨fun _ _ _ _ _ => trivial, ⟨fun _ _ _ _ _ => trivial, ⟨fun _ _ _ hr hv => ownsRow.ext hv hr, ⟨fun _ _ _ _ _ => trivial, ⟨fun _ _ _ hr hv => hv.ext hr, ⟨fun _ _ _ hr hv => ownsRow.ext hv hr, ⟨fun _ _ _ _ _ => trivial, ⟨fun _ _ _ _ _ => trivial, ⟨fun _ _ _ _ _ => trivial, ⟨fun _ _ _ _ _ => trivial, ⟨fun _ _ _ _ _ => trivial, ⟨fun _ _ _ _ _ => trivial, ⟨fun _ _ _ hr hv => ownsRow.ext hv hr, ⟨fun _ _ _ _ _ => trivial, ⟨fun _ _ _ _ _ => trivial, trivial⟩⟩⟩⟩⟩⟩⟩⟩⟩⟩⟩⟩⟩⟩⟩⟩⟩⟩⟩⟩⟩) (by kernel_rfl) (by kernel_rfl) (by kernel_rfl) ?_
                rotate_left 16
                simp only [List.take_succ_cons, List.take_zero]
                repeat (first
                  | (refine wpD_skipv ?_ ?_ ?_
                     focus rfl
                     focus rfl
                     simp only [Act.put, List.setIfInBounds_toArray, List.set_cons_succ, List.set_cons_zero])
                  | (refine' wpD_val (c := _) ?_ (fun w => Kp.refl _ w) ?_ (fun wq hwq hfq => ?_) ?_
                     rotate_left
                     focus rfl
                     focus rfl
                     focus (have d1 := (HRW8.out.1.kp hwq (Nat.not_le.2 hbw)).cell 1 _ rfl; have e0 := (HBX8.out.kp hwq (Nat.not_le.2 hxw)).cell 0 _ rfl; have e1 := (HBX8.out.kp hwq (Nat.not_le.2 hxw)).cell 1 _ rfl; have e2 := (HBX8.out.kp hwq (Nat.not_le.2 hxw)).cell 2 _ rfl; have p1 := HP1.out; have p2 := HP2.out; have p3 := HP3.out; have p4 := HP4.out; go_simp; first | done | rfl)
                     simp only [Act.put, List.setIfInBounds_toArray, List.set_cons_succ, List.set_cons_zero])
                  | (refine' wpD_con (c := _) ?_ ?_ (fun wq hwq hfq => ?_) ?_
                     rotate_left
                     focus rfl
                     focus rfl
                     focus (have d1 := (HRW8.out.1.kp hwq (Nat.not_le.2 hbw)).cell 1 _ rfl; have e0 := (HBX8.out.kp hwq (Nat.not_le.2 hxw)).cell 0 _ rfl; have e1 := (HBX8.out.kp hwq (Nat.not_le.2 hxw)).cell 1 _ rfl; have e2 := (HBX8.out.kp hwq (Nat.not_le.2 hxw)).cell 2 _ rfl; have p1 := HP1.out; have p2 := HP2.out; have p3 := HP3.out; have p4 := HP4.out; go_simp; (try (rw [dUpon_enter])); fail)
                     simp only [Act.put, List.setIfInBounds_toArray, List.set_cons_succ, List.set_cons_zero])
                  | (refine wpD_made (A := fun _ => True) (V := fun v w => Fresh0 W8.heap.size reT 3 v w) 79 ?_ ?_ ?_ ?_ (fun wq hwq hfq => ?_) (fun v79 h79 => ?_)
                     focus rfl
                     focus rfl
                     focus (exact ⟨undef, trivial⟩)
                     focus rfl
                     focus (have d1 := (HRW8.out.1.kp hwq (Nat.not_le.2 hbw)).cell 1 _ rfl; have e0 := (HBX8.out.kp hwq (Nat.not_le.2 hxw)).cell 0 _ rfl; have e1 := (HBX8.out.kp hwq (Nat.not_le.2 hxw)).cell 1 _ rfl; have e2 := (HBX8.out.kp hwq (Nat.not_le.2 hxw)).cell 2 _ rfl; have p1 := HP1.out; have p2 := HP2.out; have p3 := HP3.out; have p4 := HP4.out; go_simp; (try (rw [dUpon_enter])); rw [dUpon_value]; exact mPost trivial (Fresh0.new hwq.size) ((Kp.refl _ _).alloc _))
                     clear h79
                     simp only [Act.put, List.setIfInBounds_toArray, List.set_cons_succ, List.set_cons_zero])
                  | (refine wpD_used (A := fun _ => True) (V := fun v w => w.ownsRow W8.heap.size reT 3 v (m.take k).length ((m.take k).flatMap wcell)) 86 ?_ ?_ ?_ ?_ (fun wq hwq hfq => ?_) (fun v86 h86 => ?_)
                     focus rfl
                     focus rfl
                     focus (exact ⟨undef, trivial⟩)
                     focus rfl
                     focus (have d1 := (HRW8.out.1.kp hwq (Nat.not_le.2 hbw)).cell 1 _ rfl; have e0 := (HBX8.out.kp hwq (Nat.not_le.2 hxw)).cell 0 _ rfl; have e1 := (HBX8.out.kp hwq (Nat.not_le.2 hxw)).cell 1 _ rfl; have e2 := (HBX8.out.kp hwq (Nat.not_le.2 hxw)).cell 2 _ rfl; have p1 := HP1.out; have p2 := HP2.out; have p3 := HP3.out; have p4 := HP4.out; refine dUpon_app (d := 86) rfl (by kernel_rfl) resT reT 3 (by decide) re_facts rfl _ _ rfl W8.heap.size v79 0 [] rfl (hfq 79 rfl).1 _ (m.take k).length ((m.take k).flatMap wcell) rfl (Sl.kp HT1.out.1 hwq (fun i _ hi hge => absurd hi (Nat.not_lt.2 hge))) HT1.out.2 (wt_one _) (by have := HLN.out; omega) hwq.size (fun v' w' h1 h2 => ⟨trivial, by simpa using h1, h2.over (owns_base (hfq 79 rfl).1), ?_⟩); repeat (first | exact PresL.nil | (with_reducible refine PresL.val ?_) | (refine PresL.out rfl ?_) | (refine PresL.keep (fun u hu => BoxL.kp0 hu (by simp) (hfq 79 rfl) h2) ?_) | (refine PresL.keep (fun u hu => owns_kp0 hu (by simp; omega) (by decide) (hfq 79 rfl) h2) ?_)))
                     clear h86
                     simp only [Act.put, List.setIfInBounds_toArray, List.set_cons_succ, List.set_cons_zero])
                  | (refine wpD_made (A := fun _ => True) (V := fun v w => BoxL W8.heap.size reT 1 [.int .i64 xs, .string p, .int .i64 xk] v w) 88 ?_ ?_ ?_ ?_ (fun wq hwq hfq => ?_) (fun v88 h88 => ?_)
                     focus rfl
                     focus rfl
                     focus (exact ⟨undef, trivial⟩)
                     focus rfl
                     focus (have d1 := (HRW8.out.1.kp hwq (Nat.not_le.2 hbw)).cell 1 _ rfl; have e0 := (HBX8.out.kp hwq (Nat.not_le.2 hxw)).cell 0 _ rfl; have e1 := (HBX8.out.kp hwq (Nat.not_le.2 hxw)).cell 1 _ rfl; have e2 := (HBX8.out.kp hwq (Nat.not_le.2 hxw)).cell 2 _ rfl; have p1 := HP1.out; have p2 := HP2.out; have p3 := HP3.out; have p4 := HP4.out; go_simp; (try (rw [dUpon_enter])); rw [dUpon_value]; exact mPost trivial (BoxL.new hwq.size) ((Kp.refl _ _).alloc _))
                     clear h88
                     simp only [Act.put, List.setIfInBounds_toArray, List.set_cons_succ, List.set_cons_zero])
                  | (refine wpD_used (A := fun _ => True) (V := fun v w => w.ownsRow W8.heap.size reT 3 v ((m.take k).length + 1) ((m.take k).flatMap wcell ++ [.int .i64 xs, .string p, .int .i64 xk])) 89 ?_ ?_ ?_ ?_ (fun wq hwq hfq => ?_) (fun v89 h89 => ?_)
                     focus rfl
                     focus rfl
                     focus (exact ⟨undef, trivial⟩)
                     focus rfl
                     focus (have d1 := (HRW8.out.1.kp hwq (Nat.not_le.2 hbw)).cell 1 _ rfl; have e0 := (HBX8.out.kp hwq (Nat.not_le.2 hxw)).cell 0 _ rfl; have e1 := (HBX8.out.kp hwq (Nat.not_le.2 hxw)).cell 1 _ rfl; have e2 := (HBX8.out.kp hwq (Nat.not_le.2 hxw)).cell 2 _ rfl; have p1 := HP1.out; have p2 := HP2.out; have p3 := HP3.out; have p4 := HP4.out; refine dUpon_app (d := 89) rfl (by kernel_rfl) resT reT 3 (by decide) re_facts rfl _ _ rfl W8.heap.size v86 _ _ rfl (hfq 86 rfl) v88 1 [.int .i64 xs, .string p, .int .i64 xk] rfl (BoxL.sl (k := 3) (hfq 88 rfl) rfl (by decide)).1 (BoxL.sl (k := 3) (hfq 88 rfl) rfl (by decide)).2 HO1.out (by have := HLN.out; omega) hwq.size (fun v' w' h1 h2 => ⟨trivial, h1, h2.over (owns_base (hfq 86 rfl)), ?_⟩); repeat (first | exact PresL.nil | (with_reducible refine PresL.val ?_) | (refine PresL.out rfl ?_) | (refine PresL.keep (fun u hu => hu) ?_)))
                     clear h89
                     simp only [Act.put, List.setIfInBounds_toArray, List.set_cons_succ, List.set_cons_zero])
                  | (refine wpD_used (A := fun v => ∃ a l c, v = .slice a l c) (V := fun v w => w.ownsRow W8.heap.size reT 3 v (m.take k ++ X :: m.drop k).length ((m.take k ++ X :: m.drop k).flatMap wcell)) 96 ?_ ?_ ?_ ?_ (fun wq hwq hfq => ?_) (fun v96 h96 => ?_)
                     focus rfl
                     focus rfl
                     focus (exact ⟨.slice none 0 0, _, _, _, rfl⟩)
                     focus rfl
                     focus (have d1 := (HRW8.out.1.kp hwq (Nat.not_le.2 hbw)).cell 1 _ rfl; have e0 := (HBX8.out.kp hwq (Nat.not_le.2 hxw)).cell 0 _ rfl; have e1 := (HBX8.out.kp hwq (Nat.not_le.2 hxw)).cell 1 _ rfl; have e2 := (HBX8.out.kp hwq (Nat.not_le.2 hxw)).cell 2 _ rfl; have p1 := HP1.out; have p2 := HP2.out; have p3 := HP3.out; have p4 := HP4.out; refine dUpon_app (d := 96) rfl (by kernel_rfl) resT reT 3 (by decide) re_facts rfl _ _ rfl W8.heap.size v89 _ _ rfl (hfq 89 rfl) _ (m.drop k).length ((m.drop k).flatMap wcell) rfl (Sl.kp HT2.out.1 hwq (fun i _ hi hge => absurd hi (Nat.not_lt.2 hge))) HT2.out.2 (wt_one _) (by have := HLN.out; omega) hwq.size (fun v' w' h1 h2 => ⟨by obtain ⟨a, c, e, _⟩ := Sl.open (Sl.of_owns h1); exact ⟨_, _, _, e⟩, by rw [← HXE.out]; have := h1; simpa [Nat.add_assoc, Nat.add_comm 1] using this, h2.over (owns_base (hfq 89 rfl)), ?_⟩); repeat (first | exact PresL.nil | (with_reducible refine PresL.val ?_) | (refine PresL.out rfl ?_) | (refine PresL.keep (fun u hu => Fresh0.keep hu (hfq 89 rfl) (by omega) (by decide) h2) ?_)))
                     obtain ⟨a96, l96, c96, rfl⟩ := h96
                     simp only [Act.put, List.setIfInBounds_toArray, List.set_cons_succ, List.set_cons_zero])
                  | fail)
                refine wpD_nil ?_
                intro W9 hx9 hend
                have ho : W9.ownsRow W8.heap.size reT 3 (.slice a96 l96 c96) (m.take k ++ X :: m.drop k).length ((m.take k ++ X :: m.drop k).flatMap wcell) := hend 96 (by kernel_rfl)
                have hb9 := HRW8.out.1.kp hx9 (Nat.not_le.2 hbw)
                have d1 := hb9.cell 1 _ rfl
                have f1 := hb9.free 1
                have HX9 : Hid (Ext w W9) := HX8.out.next hx9 (fun i hi hge => by have := HX8.out.size; omega)
                have hset := RW.set (m' := m.take k ++ X :: m.drop k) hb9 (Sl.of_owns ho) (shp_owns ho) (fun i hi => by have := own_at ho hi; exact ⟨by omega, this.2⟩)
                have HS := Lib.hid hset
                have HAF : Hid (∀ nn cc, AftV w (.slice a nn cc) (.slice a96 l96 c96)) := fun _ _ i hi => .inr (by have := (own_at ho hi).1; have := HX8.out.size; omega)
                clear hend ho hx9 hb9 hset
                go_wp2_with (fail)
                all_goals
                  go_ret
                  go_light
                  refine ⟨by rw [HY.out.1]; rfl, ⟨_, ?_, HAF.out _ _⟩, (Ext.kp HX9.out).trans (Kp.set1 (S := fun i => i = b) (Kp.refl _ _) b 1 _ rfl)⟩
                  rw [HY.out.2, insW, HBN.out]
                  exact HS.out
end Go.Proofs.YtiplmahjmkmddaaDoor
