/- Texts put together: AvWWatJ, AvMapRows. -/
import Derived.Test.YtnkhmkcpdgmjmaaGreatDoorAvG31
import Derived.Test.YtnkhmkcpdgmjmaaGreatDoorAvG20
import Derived.Test.YtnkhmkcpdgmjmaaGreatDoorAvHMap
import Derived.Test.YtnkhmkcpdgmjmaaGreatDoorAvG2

/- Walks: watches: Arm. -/
namespace Go.Proofs.YtnkhmkcpdgmjmaaGreatDoor
set_option maxRecDepth 100000
open Go.RowKit Av

abbrev arT : TypeId := 215
theorem arm_facts : ElemOk Tryz.prog 199 arT 3 := ⟨by kernel_rfl, by kernel_rfl⟩
/-- What Arm makes. -/
def ArmPost (b : Nat) (ro : Option Nat) (room : Nat) (l : List Wt) (x : Wt) (w : World) (e : Ending) (w' : World) : Prop :=
  e = .returned (.int .i64 (armE room l x)) ∧ (∃ ro', WL w' b ro' room (armG room l x) ∧ ∀ i, ro' = some i → ro = some i ∨ w.heap.size ≤ i) ∧ Kp (fun i => i = b ∨ ro = some i) w w'
theorem ArmPost.no {b : Nat} {ro : Option Nat} {room : Nat} {l : List Wt} {x : Wt} {w w' : World} {r : Int} (h : WL w b ro room l) (he : armE room l x = r) (hg : armG room l x = l) (hx : Ext w w') : ArmPost b ro room l x w (.returned (.int .i64 r)) w' :=
  ⟨by rw [he], ⟨ro, by rw [hg]; exact h.ext hx, fun i hi => .inl hi⟩, hx.kp⟩
theorem arm_bad {room : Nat} {l : List Wt} {x : Wt} (h : wtOk x = false) : armE room l x = 1 ∧ armG room l x = l := by unfold armE armG; simp [h]
theorem arm_there {room : Nat} {l : List Wt} {x : Wt} (h : wtOk x = true) (hm : x ∈ l) : armE room l x = 0 ∧ armG room l x = l := by unfold armE armG; simp [h, hm]
theorem arm_full {room : Nat} {l : List Wt} {x : Wt} (h : wtOk x = true) (hm : x ∉ l) (hf : room ≤ l.length) : armE room l x = 9 ∧ armG room l x = l := by unfold armE armG; simp [h, hm, hf]
theorem arm_yes {room : Nat} {l : List Wt} {x : Wt} (h : wtOk x = true) (hm : x ∉ l) (hf : l.length < room) : armE room l x = 0 ∧ armG room l x = l ++ [x] := by
  have : ¬ room ≤ l.length := by omega
  unfold armE armG; simp [h, hm, hf, this]
set_option maxHeartbeats 3200000 in
theorem watArm_any (b : Nat) (ro : Option Nat) (room : Nat) (l : List Wt) (x : Wt) (w : World) (h : WL w b ro room l) (hG : GL w) (hp : x.path.size ≤ maxLen) (hn : l.length ≤ 100000) :
    Calls Tryz.prog 88 #[.pointer (some ⟨b, 0, none⟩), .int .i64 x.sess, .string x.path, .int .i64 x.kind] w fun e w' => ArmPost b ro room l x w e w' := by
  obtain ⟨xs, p, xk⟩ := x
  simp only at hp ⊢
  obtain ⟨W1, hW1⟩ : ∃ W1, w.alloc (.cells #[.int .i64 xs, .string p, .int .i64 xk] arT) = W1 := ⟨_, rfl⟩
  have hx1 : Ext w W1 := by rw [← hW1]; exact (Kp.refl _ _).alloc _
  have hb1 : Blk W1 w.heap.size #[.int .i64 xs, .string p, .int .i64 xk] arT := by rw [← hW1]; exact heap_alloc_new w _
  have HGd := Lib.hid (Good_any p W1 (hG.ext hx1) hp)
  have HNO := Lib.hid (fun (r : Int) (w' : World) (he : armE room l ⟨xs, p, xk⟩ = r) (hg : armG room l ⟨xs, p, xk⟩ = l) (hx : Ext w w') => ArmPost.no h he hg hx)
  have hok : wtOk ⟨xs, p, xk⟩ = true ↔ 1 ≤ xs ∧ goodL p.data.toList = true ∧ (xk = 1 ∨ xk = 2) := wtOk_iff _
  have hbad := fun hb => arm_bad (room := room) (l := l) (x := ⟨xs, p, xk⟩) hb
  have HX1 := Lib.hid hx1
  have HB1 := Lib.hid hb1
  have HW := Lib.hid h
  have HOK := Lib.hid hok
  have HBAD := Lib.hid hbad
  clear h hG hx1 hb1 hok hbad
  by_cases c1 : xs < 1
  · have HF : Hid (wtOk ⟨xs, p, xk⟩ = false) := by
      show _ = _
      rw [Bool.eq_false_iff, ne_eq, HOK.out]; intro f; omega
    go_enter Tryz.func88, Tryz.ntmps88
    go_wp2_with (fail)
    go_ret
    exact HNO.out 1 _ (HBAD.out HF.out).1 (HBAD.out HF.out).2 HX1.out
  · cases hgd : goodL p.data.toList with
    | false =>
      rw [hgd] at HGd
      have HF : Hid (wtOk ⟨xs, p, xk⟩ = false) := by
        show _ = _
        rw [Bool.eq_false_iff, ne_eq, HOK.out, hgd]; simp
      clear hgd
      go_enter Tryz.func88, Tryz.ntmps88
      go_wp2_with (fail)
      refine HGd.out.mono ?_
      rintro e W2 ⟨rfl, hx2⟩
      have HX2 := Lib.hid (HX1.out.trans hx2)
      clear hx2
      go_wp2_with (fail)
      go_ret
      exact HNO.out 1 _ (HBAD.out HF.out).1 (HBAD.out HF.out).2 HX2.out
    | true =>
      rw [hgd] at HGd
      by_cases hk : ¬ xk = 1 ∧ ¬ xk = 2
      · have HF : Hid (wtOk ⟨xs, p, xk⟩ = false) := by
          show _ = _
          rw [Bool.eq_false_iff, ne_eq, HOK.out]; intro f; omega
        obtain ⟨k1, k2⟩ := hk
        have n1 : (xk != 1) = true := by simp [k1]
        have n2 : (xk != 2) = true := by simp [k2]
        clear hgd
        go_enter Tryz.func88, Tryz.ntmps88
        go_wp2_with (fail)
        refine HGd.out.mono ?_
        rintro e W2 ⟨rfl, hx2⟩
        have HX2 := Lib.hid (HX1.out.trans hx2)
        clear hx2
        go_wp2_with (fail)
        go_ret
        exact HNO.out 1 _ (HBAD.out HF.out).1 (HBAD.out HF.out).2 HX2.out
      · have hkk : xk = 1 ∨ xk = 2 := by omega
        have HT : Hid (wtOk ⟨xs, p, xk⟩ = true) := by show _ = _; exact HOK.out.2 ⟨by omega, hgd, hkk⟩
        have hcn : ∀ a c W, Sl W 3 (.slice a l.length c) l.length (l.flatMap wcell) → Calls Tryz.prog 136 #[.slice a l.length c, .agg #[.int .i64 xs, .string p, .int .i64 xk]] W fun e w' => e = .returned (.bool (decide ((⟨xs, p, xk⟩ : Wt) ∈ l))) ∧ Ext W w' := fun a c W hs => contains_any (.slice a l.length c) l ⟨xs, p, xk⟩ W hs
        obtain ⟨X, hX⟩ : ∃ X : Wt, (⟨xs, p, xk⟩ : Wt) = X := ⟨_, rfl⟩
        rw [hX] at HT HNO hcn ⊢
        have HXE := Lib.hid hX
        have HCN := Lib.hid hcn
        clear hk hgd hcn hX HBAD HOK
        have hnn : (xk != 1) = false ∨ ((xk != 1) = true ∧ (xk != 2) = false) := by rcases hkk with rfl | rfl <;> simp
        clear hkk
        rcases hnn with n1 | ⟨n1, n2⟩
        all_goals
          go_enter Tryz.func88, Tryz.ntmps88
          go_wp2_with (fail)
          refine HGd.out.mono ?_
          rintro e W2 ⟨rfl, hx2⟩
          have HX2 := Lib.hid (HX1.out.trans hx2)
          have hb2 := HB1.out.kp hx2 (fun f => f)
          obtain ⟨a, c, hbb, hown, hro, hrb, had⟩ := (HW.out.ext HX2.out).open
          have HB2 := Lib.hid hb2
          have HBB := Lib.hid hbb
          have HOWN := Lib.hid hown
          have HRO := Lib.hid hro
          have HRB := Lib.hid hrb
          clear hx2 HX1 HB1 HGd hb2 hbb hown hro hrb had
          go_upto_region 4 with (fail)
          refine' wp_region_dag0 ((30, .val _) :: (31, .val _) :: (32, .val _) :: (33, .val _) :: (34, .val _) :: (35, .val _) :: (36, .val _) :: []) (by exact ⟨fun _ _ _ _ _ => trivial, ⟨fun _ _ _ _ _ => trivial, ⟨fun _ _ _ _ _ => trivial, ⟨fun _ _ _ _ _ => trivial, ⟨fun _ _ _ _ _ => trivial, ⟨fun _ _ _ _ _ => trivial, ⟨fun _ _ _ _ _ => trivial, trivial⟩⟩⟩⟩⟩⟩⟩) (by kernel_rfl) (by kernel_rfl) (by kernel_rfl) ?_
          rotate_left 7
          repeat (first
            | (refine wpD_skipv ?_ ?_ ?_
               focus rfl
               focus rfl
               simp only [Act.put, List.setIfInBounds_toArray, List.set_cons_succ, List.set_cons_zero])
            | (refine' wpD_val (c := _) ?_ (fun w => Kp.refl _ w) ?_ (fun wq hwq hfq => ?_) ?_
               rotate_left
               focus rfl
               focus rfl
               focus (have e0 := (HB2.out.kp hwq (fun f => f)).cell 0 _ rfl; have e1 := (HB2.out.kp hwq (fun f => f)).cell 1 _ rfl; have e2 := (HB2.out.kp hwq (fun f => f)).cell 2 _ rfl; have d1 := (HBB.out.kp hwq (fun f => f)).cell 1 _ rfl; go_simp; first | done | rfl)
               simp only [Act.put, List.setIfInBounds_toArray, List.set_cons_succ, List.set_cons_zero])
            | (refine' wpD_con (c := _) ?_ ?_ (fun wq hwq hfq => ?_) ?_
               rotate_left
               focus rfl
               focus rfl
               focus (have e0 := (HB2.out.kp hwq (fun f => f)).cell 0 _ rfl; have e1 := (HB2.out.kp hwq (fun f => f)).cell 1 _ rfl; have e2 := (HB2.out.kp hwq (fun f => f)).cell 2 _ rfl; have d1 := (HBB.out.kp hwq (fun f => f)).cell 1 _ rfl; go_simp; (try (rw [dUpon_enter])); ((have hc := HCN.out a c wq (Sl.of_owns (ownsRow.ext HOWN.out hwq))); (with_reducible refine hc.mono ?_); rintro e w' ⟨rfl, hx⟩; exact DEnd.con hx))
               simp only [Act.put, List.setIfInBounds_toArray, List.set_cons_succ, List.set_cons_zero])
            | fail)
          refine wpD_nil ?_
          intro W3 hx3 hend
          clear hend
          have HX3 := Lib.hid (HX2.out.trans hx3)
          have HB3 := Lib.hid (HB2.out.kp hx3 (fun f => f))
          have HBB3 := Lib.hid (HBB.out.kp hx3 (fun f => f))
          have HOWN3 := Lib.hid (ownsRow.ext HOWN.out hx3)
          clear hx3 HX2 HB2 HBB HOWN HCN
          obtain ⟨d, hd⟩ : ∃ d, decide (X ∈ l) = d := ⟨_, rfl⟩
          rw [hd]
          cases d with
          | true =>
            have hm := of_decide_eq_true hd
            have HM := Lib.hid hm
            clear hd hm
            go_wp2_with (fail)
            go_ret
            exact HNO.out 0 _ (arm_there HT.out HM.out).1 (arm_there HT.out HM.out).2 HX3.out
          | false =>
            have hm := of_decide_eq_false hd
            have HM := Lib.hid hm
            clear hd hm
            go_upto_region 6 with (fail)
            refine' wp_region_dag0 ((37, .val _) :: (38, .val _) :: (39, .val _) :: (40, .val _) :: (41, .val _) :: (42, .val _) :: (43, .val _) :: (44, .val _) :: (45, .val _) :: (46, .val _) :: (47, .val _) :: []) (by exact ⟨fun _ _ _ _ _ => trivial, ⟨fun _ _ _ _ _ => trivial, ⟨fun _ _ _ _ _ => trivial, ⟨fun _ _ _ _ _ => trivial, ⟨fun _ _ _ _ _ => trivial, ⟨fun _ _ _ _ _ => trivial, ⟨fun _ _ _ _ _ => trivial, ⟨fun _ _ _ _ _ => trivial, ⟨fun _ _ _ _ _ => trivial, ⟨fun _ _ _ _ _ => trivial, ⟨fun _ _ _ _ _ => trivial, trivial⟩⟩⟩⟩⟩⟩⟩⟩⟩⟩⟩) (by kernel_rfl) (by kernel_rfl) (by kernel_rfl) ?_
            rotate_left 11
            repeat (first
              | (refine wpD_skipv ?_ ?_ ?_
                 focus rfl
                 focus rfl
                 simp only [Act.put, List.setIfInBounds_toArray, List.set_cons_succ, List.set_cons_zero])
              | (refine' wpD_val (c := _) ?_ (fun w => Kp.refl _ w) ?_ (fun wq hwq hfq => ?_) ?_
                 rotate_left
                 focus rfl
                 focus rfl
                 focus (have d0 := (HBB3.out.kp hwq (fun f => f)).cell 0 _ rfl; have d1 := (HBB3.out.kp hwq (fun f => f)).cell 1 _ rfl; go_simp; first | done | rfl)
                 simp only [Act.put, List.setIfInBounds_toArray, List.set_cons_succ, List.set_cons_zero])
              | (refine' wpD_con (c := _) ?_ ?_ (fun wq hwq hfq => ?_) ?_
                 rotate_left
                 focus rfl
                 focus rfl
                 focus (have d0 := (HBB3.out.kp hwq (fun f => f)).cell 0 _ rfl; have d1 := (HBB3.out.kp hwq (fun f => f)).cell 1 _ rfl; go_simp; (try (rw [dUpon_enter])); fail)
                 simp only [Act.put, List.setIfInBounds_toArray, List.set_cons_succ, List.set_cons_zero])
              | fail)
            refine wpD_nil ?_
            intro W4 hx4 hend
            clear hend
            have HX4 := Lib.hid (HX3.out.trans hx4)
            have hb4 := HB3.out.kp hx4 (fun f => f)
            have hbb4 := HBB3.out.kp hx4 (fun f => f)
            have HOWN4 := Lib.hid (ownsRow.ext HOWN3.out hx4)
            have s4 : w.heap.size < W4.heap.size := hb4.lt
            clear hx4 HX3 HB3 HBB3 HOWN3
            by_cases hf : room ≤ l.length
            · have hfz : (room : Int) ≤ (l.length : Int) := by omega
              have HF := Lib.hid hf
              clear hf hb4 hbb4
              go_wp2_with (fail)
              go_ret
              exact HNO.out 9 _ (arm_full HT.out HM.out HF.out).1 (arm_full HT.out HM.out HF.out).2 HX4.out
            · have hfz : ¬ (room : Int) ≤ (l.length : Int) := by omega
              have HY := Lib.hid (arm_yes (room := room) HT.out HM.out (by omega))
              have e0 := hb4.cell 0 _ rfl
              have e1 := hb4.cell 1 _ rfl
              have e2 := hb4.cell 2 _ rfl
              have d1 := hbb4.cell 1 _ rfl
              have g1 := hbb4.free 1
              have HB4 := Lib.hid hb4
              have HBB4 := Lib.hid hbb4
              clear hf hb4 hbb4
              go_upto_region 8 with (fail)
              have hown4 := HOWN4.out
              have hbn : b ≠ w.heap.size := by have := HW.out.lt.1; omega
              have hro : (Value.slice a l.length c).ownBlock = ro := HRO.out
              have hnb : ¬ (W4.heap.size ≤ b ∨ (Value.slice a l.length c).ownBlock = some b) := fun f => by
                rcases f with f | f
                · have := HBB4.out.lt; omega
                · rw [hro] at f; exact HRB.out b f rfl
              have hnx : ¬ (W4.heap.size ≤ w.heap.size ∨ (Value.slice a l.length c).ownBlock = some w.heap.size) := fun f => by
                rcases f with f | f
                · omega
                · rw [hro] at f; have := HW.out.lt.2 _ f; omega
              have HNB := Lib.hid hnb
              have HNX := Lib.hid hnx
              have HO4 := Lib.hid hown4
              clear hown4 hnb hnx hro e0 e1 e2 d1 g1 hW1
              refine' wp_region_dagQ W4.heap.size arT 3 (.slice a l.length c) l.length (l.flatMap wcell) 10 [(55, [54], [])] ((48, .val _) :: (49, .val _) :: (50, .val _) :: (51, .val _) :: (52, .val _) :: (53, .val _) :: (54, ⟨fun _ => True, fun v w => BoxL W4.heap.size arT 1 [.int .i64 xs, .string p, .int .i64 xk] v w⟩) :: (55, ⟨fun v => ∃ a l c, v = .slice a l c, fun v w => w.ownsRow 0 arT 3 v (l.length + 1) (l.flatMap wcell ++ [.int .i64 xs, .string p, .int .i64 xk]) ∧ ∀ i, v.ownBlock = some i → (Value.slice a l.length c).ownBlock = some i ∨ W4.heap.size ≤ i⟩) :: (56, .val _) :: (57, .val _) :: []) (by exact ⟨fun _ _ _ _ _ => trivial, ⟨fun _ _ _ _ _ => trivial, ⟨fun _ _ _ _ _ => trivial, ⟨fun _ _ _ _ _ => trivial, ⟨fun _ _ _ _ _ => trivial, ⟨fun _ _ _ _ _ => trivial, ⟨fun _ _ _ hr hv => hv.ext hr, ⟨fun _ _ _ hr hv => ⟨ownsRow.ext hv.1 hr, hv.2⟩, ⟨fun _ _ _ _ _ => trivial, ⟨fun _ _ _ _ _ => trivial, trivial⟩⟩⟩⟩⟩⟩⟩⟩⟩⟩) (by kernel_rfl) (by kernel_rfl) (by kernel_rfl) ?_
              rotate_left 8
              simp only [List.take_succ_cons, List.take_zero]
              repeat (first
                | (refine wpD_skipv ?_ ?_ ?_
                   focus rfl
                   focus rfl
                   simp only [Act.put, List.setIfInBounds_toArray, List.set_cons_succ, List.set_cons_zero])
                | (refine' wpD_val (c := _) ?_ (fun w => Rr.refl w) ?_ (fun wq hwq hfq => ?_) ?_
                   rotate_left
                   focus rfl
                   focus rfl
                   focus (have d1 := (HBB4.out.kp hwq.1 HNB.out).cell 1 _ rfl; have e0 := (HB4.out.kp hwq.1 HNX.out).cell 0 _ rfl; have e1 := (HB4.out.kp hwq.1 HNX.out).cell 1 _ rfl; have e2 := (HB4.out.kp hwq.1 HNX.out).cell 2 _ rfl; go_simp; first | done | rfl)
                   simp only [Act.put, List.setIfInBounds_toArray, List.set_cons_succ, List.set_cons_zero])
                | (refine' wpD_con (c := _) ?_ ?_ (fun wq hwq hfq => ?_) ?_
                   rotate_left
                   focus rfl
                   focus rfl
                   focus (have d1 := (HBB4.out.kp hwq.1 HNB.out).cell 1 _ rfl; have e0 := (HB4.out.kp hwq.1 HNX.out).cell 0 _ rfl; have e1 := (HB4.out.kp hwq.1 HNX.out).cell 1 _ rfl; have e2 := (HB4.out.kp hwq.1 HNX.out).cell 2 _ rfl; go_simp; (try (rw [dUpon_enter])); fail)
                   simp only [Act.put, List.setIfInBounds_toArray, List.set_cons_succ, List.set_cons_zero])
                | (refine wpD_made (A := fun _ => True) (V := fun v w => BoxL W4.heap.size arT 1 [.int .i64 xs, .string p, .int .i64 xk] v w) 54 ?_ ?_ ?_ ?_ (fun wq hwq hfq => ?_) (fun v54 h54 => ?_)
                   focus rfl
                   focus rfl
                   focus (exact ⟨undef, trivial⟩)
                   focus rfl
                   focus (have d1 := (HBB4.out.kp hwq.1 HNB.out).cell 1 _ rfl; have e0 := (HB4.out.kp hwq.1 HNX.out).cell 0 _ rfl; have e1 := (HB4.out.kp hwq.1 HNX.out).cell 1 _ rfl; have e2 := (HB4.out.kp hwq.1 HNX.out).cell 2 _ rfl; go_simp; (try (rw [dUpon_enter])); rw [dUpon_value]; exact mPost trivial (BoxL.new hwq.1.size) ((Kp.refl _ _).alloc _))
                   clear h54
                   simp only [Act.put, List.setIfInBounds_toArray, List.set_cons_succ, List.set_cons_zero])
                | (refine wpD_used (A := fun v => ∃ a l c, v = .slice a l c) (V := fun v w => w.ownsRow 0 arT 3 v (l.length + 1) (l.flatMap wcell ++ [.int .i64 xs, .string p, .int .i64 xk]) ∧ ∀ i, v.ownBlock = some i → (Value.slice a l.length c).ownBlock = some i ∨ W4.heap.size ≤ i) 55 ?_ ?_ ?_ ?_ (fun wq hwq hfq => ?_) (fun v55 h55 => ?_)
                   focus rfl
                   focus rfl
                   focus (exact ⟨.slice none 0 0, _, _, _, rfl⟩)
                   focus rfl
                   focus (have d1 := (HBB4.out.kp hwq.1 HNB.out).cell 1 _ rfl; have e0 := (HB4.out.kp hwq.1 HNX.out).cell 0 _ rfl; have e1 := (HB4.out.kp hwq.1 HNX.out).cell 1 _ rfl; have e2 := (HB4.out.kp hwq.1 HNX.out).cell 2 _ rfl; refine dUpon_appR (d := 55) rfl (by kernel_rfl) 199 arT 3 (by decide) arm_facts rfl _ _ rfl (.slice a l.length c) l.length (l.flatMap wcell) rfl (hwq.2 HO4.out) v54 1 [.int .i64 xs, .string p, .int .i64 xk] rfl W4.heap.size (hfq 54 rfl) rfl (wt_one [(⟨xs, p, xk⟩ : Wt)]) (by omega) (fun v' w' h1 h2 h3 h4 => ⟨by obtain ⟨a, c, e, _⟩ := Sl.open (Sl.of_owns h1); exact ⟨_, _, _, e⟩, ⟨h1, fun i hi => ?_⟩, ⟨(Kp.refl (fun i => W4.heap.size ≤ i ∨ (Value.slice a l.length c).ownBlock = some i) _).grown h2 (fun q hq _ => .inr hq), fun _ => h3⟩, ?_⟩); (rcases h4 with h4 | h4; (focus exact .inl (by rw [← h4]; exact hi)); (rw [h4] at hi; simp only [Option.some.injEq] at hi; right; have := hwq.1.size; omega)); repeat (first | exact PresL.nil | (with_reducible refine PresL.val ?_) | (refine PresL.out rfl ?_) | (refine PresL.keep (fun u hu => hu) ?_)))
                   obtain ⟨a55, l55, c55, rfl⟩ := h55
                   simp only [Act.put, List.setIfInBounds_toArray, List.set_cons_succ, List.set_cons_zero])
                | fail)
              refine wpD_nil ?_
              intro w1 hr1 hend
              have h55 : w1.ownsRow 0 arT 3 (.slice a55 l55 c55) (l.length + 1) (l.flatMap wcell ++ [.int .i64 xs, .string p, .int .i64 xk]) ∧ ∀ i, (Value.slice a55 l55 c55).ownBlock = some i → (Value.slice a l.length c).ownBlock = some i ∨ W4.heap.size ≤ i := hend 55 (by kernel_rfl)
              clear hend
              have hbw := HBB4.out.kp hr1.1 HNB.out
              have d1 := hbw.cell 1 _ rfl
              have g1 := hbw.free 1
              have HBW := Lib.hid hbw
              have H55 := Lib.hid h55
              have hkk : Kp (fun i => i = b ∨ ro = some i) w w1 := Kp.next (S := fun i => i = b ∨ ro = some i) (Ext.kp HX4.out) hr1.1 (fun i hi h => by
                rcases h with h | h
                · omega
                · exact .inr (by rw [← HRO.out]; exact h))
              have HKK := Lib.hid hkk
              clear h55 hbw hr1 hkk
              go_wp2_with (fail)
              go_ret
              have hst : Kp (fun i => i = b) w1 (w1.setCell ⟨b, 1, none⟩ (.slice a55 l55 c55)) := Kp.set1 (S := fun i => i = b) (Kp.refl _ _) b 1 _ rfl
              have hne : ∀ i, (Value.slice a55 l55 c55).ownBlock = some i → i ≠ b := by
                intro i hi e
                subst e
                exact HNB.out ((H55.out.2 _ hi).elim .inr .inl)
              refine ⟨by rw [HY.out.1]; rfl, ⟨(Value.slice a55 l55 c55).ownBlock, ?_, fun i hi => ?_⟩, HKK.out.set1 b 1 _ (.inl rfl)⟩
              · rw [HY.out.2]
                refine WL.mk (HBW.out.set 1 _) ?_ rfl hne
                have h6 : w1.ownsRow 0 arT 3 (.slice a55 l55 c55) (l ++ [X]).length ((l ++ [X]).flatMap wcell) := by
                  rw [flatMap_snoc, List.length_append, ← HXE.out]; exact H55.out.1
                exact ownsRow.kp h6 hst hne
              · rcases H55.out.2 i hi with h | h
                · exact .inl (by rw [← HRO.out]; exact h)
                · exact .inr (by omega)
end Go.Proofs.YtnkhmkcpdgmjmaaGreatDoor

/- A map whose elements are rows, each in a block of its own. No program. -/
namespace Av
set_option maxRecDepth 100000
open Go Go.RowKit

section
variable {κ : Type} [DecidableEq κ] {mk : κ → Value} {α : Type}
/-- What a map's element reads as where there is none: no row. -/
def rowAt (M : List (κ × Value)) (k : κ) : Value := (mget M k).getD (.slice none 0 0)
/-- Map m holds rows of elements of ek cells: at k those of xs k. -/
structure MapRows (w : World) (base m : Nat) (mk : κ → Value) (eT : TypeId) (ek : Nat) (f : α → List Value) (M : List (κ × Value)) (xs : κ → List α) : Prop where
  map : MapK mk w m M
  row : ∀ k, w.ownsRow base eT ek (rowAt M k) (xs k).length ((xs k).flatMap f)
  apart : ∀ k k' i, k ≠ k' → (rowAt M k).ownBlock = some i → (rowAt M k').ownBlock ≠ some i
variable {w w' : World} {base m : Nat} {eT : TypeId} {ek : Nat} {f : α → List Value} {M : List (κ × Value)} {xs : κ → List α}
theorem MapRows.new (w : World) (base : Nat) (eT : TypeId) (ek : Nat) (f : α → List Value) : MapRows (w.alloc (.map #[] 0)) base w.heap.size mk eT ek f [] (fun _ => []) :=
  ⟨MapK.new w, fun _ => ⟨by simp, .inl ⟨rfl, rfl⟩⟩, fun k k' i _ h => by simp [rowAt, mget, Value.ownBlock] at h⟩
theorem MapRows.ext (h : MapRows w base m mk eT ek f M xs) (k : Ext w w') : MapRows w' base m mk eT ek f M xs := ⟨h.map.ext k, fun q => ownsRow.ext (h.row q) k, h.apart⟩
theorem MapRows.kp {S : Nat → Prop} (h : MapRows w base m mk eT ek f M xs) (k : Kp S w w') (hm : ¬ S m) (hr : ∀ q i, (rowAt M q).ownBlock = some i → ¬ S i) : MapRows w' base m mk eT ek f M xs :=
  ⟨h.map.kp k hm, fun q => ownsRow.kp (h.row q) k (hr q), h.apart⟩
theorem rowAt_set (M : List (κ × Value)) (k q : κ) (v : Value) : rowAt (mset M k v) q = if q = k then v else rowAt M q := by
  unfold rowAt
  rw [mget_mset]
  split <;> rfl
theorem rowAt_del (M : List (κ × Value)) (k q : κ) : rowAt (mdel M k) q = if q = k then .slice none 0 0 else rowAt M q := by
  unfold rowAt
  rw [mget_mdel]
  split <;> rfl
/-- A row was appended to (world w1), and lies in the map again (world w2). -/
theorem MapRows.put {w1 w2 : World} (h : MapRows w base m mk eT ek f M xs) (k : κ) {v : Value} {ys : List α} (k1 : Kp (fun i => (rowAt M k).ownBlock = some i) w w1) (hv : w1.ownsRow base eT ek v ys.length (ys.flatMap f))
    (hb : ∀ i, v.ownBlock = some i → (rowAt M k).ownBlock = some i ∨ w.heap.size ≤ i) (hmr : ∀ q i, (rowAt M q).ownBlock = some i → i ≠ m) (hvm : ∀ i, v.ownBlock = some i → i ≠ m)
    (hm : MapK mk w2 m (mset M k v)) (k2 : Kp (fun i => i = m) w1 w2) : MapRows w2 base m mk eT ek f (mset M k v) (fun q => if q = k then ys else xs q) := by
  have hlt : ∀ q i, (rowAt M q).ownBlock = some i → i < w.heap.size := fun q i hi => by
    obtain ⟨_, ⟨h1, _⟩ | ⟨g, c, cur, h1, _, hg, _⟩⟩ := h.row q
    · rw [h1] at hi; simp [Value.ownBlock] at hi
    · rw [h1] at hi
      simp only [Value.ownBlock, Option.some.injEq] at hi
      subst hi
      exact (Array.getElem?_eq_some_iff.1 hg).1
  refine ⟨hm, fun q => ?_, fun q q' i hne hi => ?_⟩
  · rw [rowAt_set]
    by_cases e : q = k
    · rw [if_pos e, if_pos e]
      exact ownsRow.kp hv k2 (fun i hi hs => hvm i hi hs)
    · rw [if_neg e, if_neg e]
      have h1 := ownsRow.kp (h.row q) k1 (fun i hi hs => h.apart q k i e hi hs)
      exact ownsRow.kp h1 k2 (fun i hi hs => hmr q i hi hs)
  · rw [rowAt_set] at hi ⊢
    by_cases e : q = k
    · rw [if_pos e] at hi
      rw [if_neg (fun e2 => hne (e.trans e2.symm))]
      rcases hb i hi with h2 | h2
      · exact h.apart k q' i (fun e2 => hne (e.trans e2)) h2
      · exact fun h3 => by have := hlt q' i h3; omega
    · rw [if_neg e] at hi
      by_cases e' : q' = k
      · rw [if_pos e']
        intro h3
        rcases hb i h3 with h2 | h2
        · exact h.apart q k i e hi h2
        · have := hlt q i hi; omega
      · rw [if_neg e']
        exact h.apart q q' i hne hi
/-- A row goes out of the map. -/
theorem MapRows.del (h : MapRows w base m mk eT ek f M xs) (k : κ) (hm : MapK mk w' m (mdel M k)) (k2 : Kp (fun i => i = m) w w') (hmr : ∀ q i, (rowAt M q).ownBlock = some i → i ≠ m) : MapRows w' base m mk eT ek f (mdel M k) (fun q => if q = k then [] else xs q) := by
  refine ⟨hm, fun q => ?_, fun q q' i hne hi => ?_⟩
  · rw [rowAt_del]
    by_cases e : q = k
    · rw [if_pos e, if_pos e]
      exact ⟨by simp, .inl ⟨rfl, rfl⟩⟩
    · rw [if_neg e, if_neg e]
      exact ownsRow.kp (h.row q) k2 (fun i hi hs => hmr q i hi hs)
  · rw [rowAt_del] at hi ⊢
    by_cases e : q = k
    · rw [if_pos e] at hi; simp [Value.ownBlock] at hi
    · rw [if_neg e] at hi
      by_cases e' : q' = k
      · rw [if_pos e']; simp [Value.ownBlock]
      · rw [if_neg e']; exact h.apart q q' i hne hi
/-- No row lies in the map's own block. -/
theorem MapRows.off (h : MapRows w base m mk eT ek f M xs) (q : κ) (i : Nat) (hi : (rowAt M q).ownBlock = some i) : i ≠ m := by
  rintro rfl
  obtain ⟨L, c, hr, _⟩ := h.map
  have h1 := hr.1
  obtain ⟨_, ⟨h2, _⟩ | ⟨g, cc, cur, h2, _, hg, _⟩⟩ := h.row q
  · rw [h2] at hi; simp [Value.ownBlock] at hi
  · rw [h2] at hi
    simp only [Value.ownBlock, Option.some.injEq] at hi
    subst hi
    rw [hg] at h1
    simp at h1
end
end Av
