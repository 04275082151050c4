/- Walks of the reference's tables: NewTable, Move (of a name behind all others). -/
import Derived.Test.YtmgnndhhpnedkaaGreatDoorAvWRouB
import Derived.Test.YtmgnndhhpnedkaaGreatDoorAvWRefB
import Derived.Test.YtmgnndhhpnedkaaGreatDoorAvNest
import Derived.Test.YtmgnndhhpnedkaaGreatDoorAvCut
import Derived.Test.YtmgnndhhpnedkaaGreatDoorAvDagApp
namespace Go.Proofs.YtmgnndhhpnedkaaGreatDoor
set_option maxRecDepth 100000
open Go.RowKit Av

abbrev rtT : TypeId := 100
abbrev mvT : TypeId := 103
abbrev mvsT : TypeId := 98
theorem mv_facts : ElemOk Tryz.prog mvsT mvT 2 := ⟨by kernel_rfl, by kernel_rfl⟩
def mvC (e : ByteArray × Int) : List Value := [.string e.1, .int .i64 e.2]
theorem mv_one (xs : Moved) : ∀ y ∈ xs.flatMap mvC, y.oneCell' = true := by
  intro y hy
  obtain ⟨o, _, h⟩ := List.mem_flatMap.1 hy
  simp only [mvC, List.mem_cons, List.not_mem_nil, or_false] at h
  rcases h with rfl | rfl <;> rfl
/-- The reference's table at b. -/
def RTab (w : World) (b sh : Nat) (lv : Value) (ml : Moved) : Prop :=
  (∃ ver : Int, Blk w b #[.int .i64 sh, .int .i64 ver, lv] rtT) ∧ Sl w 2 lv ml.length (ml.flatMap mvC) ∧ Shp lv ∧ ∀ k, lv.ownBlock = some k → k ≠ b ∧ k < w.heap.size
section
variable {w w' : World} {b sh : Nat} {lv : Value} {ml : Moved}
theorem RTab.kp {S : Nat → Prop} (h : RTab w b sh lv ml) (k : Kp S w w') (hb : ¬ S b) (hs : ∀ i, lv.ownBlock = some i → ¬ S i) : RTab w' b sh lv ml := by
  obtain ⟨⟨ver, hv⟩, h2, h3, h4⟩ := h
  exact ⟨⟨ver, hv.kp k hb⟩, Sl.kp h2 k (fun i hi _ => hs i hi), h3, fun i hi => ⟨(h4 i hi).1, Nat.lt_of_lt_of_le (h4 i hi).2 k.size⟩⟩
theorem RTab.ext (h : RTab w b sh lv ml) (k : Ext w w') : RTab w' b sh lv ml := h.kp k (fun f => f) (fun _ _ f => f)
theorem RTab.lt (h : RTab w b sh lv ml) : b < w.heap.size := by obtain ⟨⟨ver, hv⟩, _⟩ := h; exact hv.lt
theorem RTab.open (h : RTab w b sh lv ml) : ∃ a c, lv = .slice a ml.length c ∧ ml.length ≤ c ∧ ml.length ≤ maxLen ∧ (0 < ml.length → ∃ g off, a = some ⟨g, off, none⟩ ∧ g < w.heap.size ∧ ∀ k (hk : k < ml.length),
    w.cell? ⟨g, off + k * 2, none⟩ = some (.string ml[k].1) ∧ w.cell? ⟨g, off + k * 2 + 1, none⟩ = some (.int .i64 ml[k].2)) := by
  obtain ⟨a, c, rfl, h1, h2, h3⟩ := Sl.rows (f := mvC) (fun _ => rfl) h.2.1
  refine ⟨a, c, rfl, h1, h2, fun hn => ?_⟩
  obtain ⟨g, off, rfl, hb, hc⟩ := h3 hn
  exact ⟨g, off, rfl, hb, fun k hk => ⟨hc k hk 0 _ (by decide) rfl, hc k hk 1 _ (by decide) rfl⟩⟩
end
set_option maxHeartbeats 400000 in
theorem refNewTable_any (sh : Nat) (w : World) : Calls Tryz.prog 26 #[.int .i64 sh] w fun e w' => e = .returned (.pointer (some ⟨w.heap.size, 0, none⟩)) ∧ RTab w' w.heap.size sh (.slice none 0 0) [] ∧ Ext w w' := by
  go_enter Tryz.func26, Tryz.ntmps26
  go_wp2_with (fail)
  go_ret
  refine ⟨rfl, ⟨⟨1, heap_alloc_new w _⟩, Sl.nil _ 2, .inl rfl, fun k hk => by simp [Value.ownBlock] at hk⟩, (Kp.refl _ _).alloc _⟩
/-- The list with a name more, where the shard may be. -/
def addM (sh : Nat) (ml : Moved) (top : ByteArray) (s : Int) : Moved := if s < 0 ∨ (sh : Int) ≤ s then ml else ml ++ [(top, s)]
def RMovePost (b sh : Nat) (lv : Value) (ml : Moved) (top : ByteArray) (s : Int) (w : World) (e : Ending) (w' : World) : Prop :=
  (∃ v, e = .returned v) ∧ (∃ lv', RTab w' b sh lv' (addM sh ml top s) ∧ ∀ k, lv'.ownBlock = some k → lv.ownBlock = some k ∨ w.heap.size ≤ k) ∧ Kp (fun i => i = b) w w'
theorem RMovePost.no {b sh : Nat} {lv : Value} {ml : Moved} {top : ByteArray} {s : Int} {w : World} {v : Value} (h : RTab w b sh lv ml) (hb : s < 0 ∨ (sh : Int) ≤ s) : RMovePost b sh lv ml top s w (.returned v) w :=
  ⟨⟨v, rfl⟩, ⟨lv, by unfold addM; rw [if_pos hb]; exact h, fun i hi => .inl hi⟩, Kp.refl _ _⟩
theorem flat_take2 (xs : Moved) (k : Nat) : (xs.flatMap mvC).take (k * 2) = (xs.take k).flatMap mvC := flat_take mvC 2 (fun _ => rfl) xs k
/-- The whole of a slice, cut at its end. -/
theorem cut_all {w : World} {a : Option Addr} {c : Nat} {xs : Moved} (h : Sl w 2 (.slice a xs.length c) xs.length (xs.flatMap mvC)) (hs : Shp (.slice a xs.length c)) :
    (Sl w 2 (.slice (cutAd a c xs.length (xs.length * 2)) 0 (c - xs.length)) 0 [] ∧ Shp (.slice (cutAd a c xs.length (xs.length * 2)) 0 (c - xs.length))) := by
  have h1 := h.cut xs.length xs.length (xs.length * 2) rfl (Nat.le_refl _) (Nat.le_refl _)
  have h2 := Shp.cut (m := xs.length * 2) hs (Nat.le_refl xs.length) (Nat.le_refl _)
  rw [Nat.sub_self] at h1 h2
  simp only [Nat.zero_mul, List.take_zero] at h1
  exact ⟨h1, h2⟩
def RMRel (ml : Moved) (i : Value) : Prop := ∃ k : Nat, k ≤ ml.length ∧ i = .int .i64 k
set_option maxHeartbeats 6400000 in
theorem refMove_any (b sh : Nat) (lv : Value) (ml : Moved) (top : ByteArray) (s : Int) (w : World) (h : RTab w b sh lv ml) (hp : top.size ≤ maxLen) (hn : nameR top.data.toList = true) (hl : ml.length < 50) (hlt : ∀ e ∈ ml, Op.bytesLess e.1.toList top.toList = true) :
    Calls Tryz.prog 28 #[.pointer (some ⟨b, 0, none⟩), .string top, .int .i64 s] w fun e w' => RMovePost b sh lv ml top s w e w' := by
  have HN := Lib.hid (refIsName_any top w hp)
  rw [hn] at HN
  have HT := Lib.hid h
  have HLT := Lib.hid hlt
  obtain ⟨⟨ver, hv⟩, hsl, hsh, hob⟩ := h
  obtain ⟨a, c, rfl, hc, hm, hop⟩ := HT.out.open
  have HOP := Lib.hid hop
  have HSL := Lib.hid hsl
  have HSH := Lib.hid hsh
  have HOB := Lib.hid hob
  have HV := Lib.hid hv
  have b0 := hv.cell 0 _ rfl
  have b1 := hv.cell 1 _ rfl
  have b2 := hv.cell 2 _ rfl
  unfold maxLen at hm
  clear hop hsl hsh hob hlt hn
  by_cases c1 : s < 0
  · go_enter Tryz.func28, Tryz.ntmps28
    go_wp2_with (fail)
    refine HN.out.mono ?_
    rintro e w1 ⟨rfl, rfl⟩
    go_wp2_with (fail)
    go_ret
    exact .no HT.out (.inl c1)
  · by_cases c2 : (sh : Int) ≤ s
    · go_enter Tryz.func28, Tryz.ntmps28
      go_wp2_with (fail)
      refine HN.out.mono ?_
      rintro e w1 ⟨rfl, rfl⟩
      go_wp2_with (fail)
      go_ret
      exact .no HT.out (.inr c2)
    · have hbad : ¬ (s < 0 ∨ (sh : Int) ≤ s) := by omega
      have HBAD := Lib.hid hbad
      clear hbad
      go_enter Tryz.func28, Tryz.ntmps28
      go_wp2_with (fail)
      refine HN.out.mono ?_
      rintro e w1 ⟨rfl, rfl⟩
      go_wp2_with (fail)
      go_loop [7] (fun i => RMRel ml i) (fun i => ml.length - (intOf i).toNat)
      case atStart => exact ⟨0, Nat.zero_le _, rfl⟩
      case round =>
        obtain ⟨k, hk, rfl⟩ := hrel
        by_cases hlt : k < ml.length
        · obtain ⟨g, off, rfl, hg, hcl⟩ := HOP.out (by omega)
          obtain ⟨s0, s1⟩ := hcl k hlt
          have l1 := HLT.out _ (List.getElem_mem hlt)
          have k1 : (k : Int) < ml.length := by omega
          generalize ml[k] = x at s0 s1 l1
          clear hcl
          go_wp2_with (fail)
          go_light
          exact ⟨⟨k + 1, by omega, by go_num⟩, by simp [intOf]; omega⟩
        · have hkl : k = ml.length := by omega
          subst hkl
          have k1 : ¬ (ml.length : Int) < ml.length := by omega
          have k2 : ¬ (50 : Int) ≤ ml.length := by omega
          have HT2 := Lib.hid (cut_all HSL.out HSH.out)
          have hbw : b < w.heap.size := HT.out.lt
          have HO1 := Lib.hid (mv_one [(top, s)])
          have HP1 : Hid ((0 : Int) ≤ (ml.length : Int) ∧ (ml.length : Int) ≤ c) := ⟨by omega, by omega⟩
          have HP2 : Hid (ml.length ≤ c ∧ (0 : Int) ≤ c - ml.length) := ⟨hc, by omega⟩
          clear HN HLT HOP hv
          go_upto_region 12 with (fail)
          clear b0 b1 b2
          refine' wp_region_dagK 23 [(92, [85], [97]), (97, [92, 96], [85, 104]), (104, [97], [92, 96])] ((84, .val _) :: (85, ⟨fun _ => True, fun v w' => Fresh0 w.heap.size mvT 2 v w'⟩) :: (86, .val _) :: (87, .val _) :: (88, .val _) :: (89, .val _) :: (90, .val _) :: (91, .val _) :: (92, ⟨fun _ => True, fun v w' => w'.ownsRow w.heap.size mvT 2 v ml.length (ml.flatMap mvC)⟩) :: (93, .val _) :: (94, .val _) :: (95, .val _) :: (96, ⟨fun _ => True, fun v w' => BoxL w.heap.size mvT 1 [.string top, .int .i64 s] v w'⟩) :: (97, ⟨fun _ => True, fun v w' => w'.ownsRow w.heap.size mvT 2 v (ml.length + 1) (ml.flatMap mvC ++ [.string top, .int .i64 s])⟩) :: (98, .val _) :: (99, .val _) :: (100, .val _) :: (101, .val _) :: (102, .val _) :: (103, .val _) :: (104, ⟨fun v => ∃ a l c, v = .slice a l c, fun v w' => w'.ownsRow w.heap.size mvT 2 v (ml.length + 1) (ml.flatMap mvC ++ [.string top, .int .i64 s])⟩) :: (105, .val _) :: (106, .val _) :: []) (by exact ⟨fun _ _ _ _ _ => trivial, ⟨fun _ _ _ hr hv => hv.ext hr, ⟨fun _ _ _ _ _ => trivial, ⟨fun _ _ _ _ _ => trivial, ⟨fun _ _ _ _ _ => trivial, ⟨fun _ _ _ _ _ => trivial, ⟨fun _ _ _ _ _ => trivial, ⟨fun _ _ _ _ _ => trivial, ⟨fun _ _ _ hr hv => ownsRow.ext hv hr, ⟨fun _ _ _ _ _ => trivial, ⟨fun _ _ _ _ _ => trivial, ⟨fun _ _ _ _ _ => trivial, ⟨fun _ _ _ hr hv => hv.ext hr, ⟨fun _ _ _ hr hv => ownsRow.ext hv hr, ⟨fun _ _ _ _ _ => trivial, ⟨fun _ _ _ _ _ => trivial, ⟨fun _ _ _ _ _ => trivial, ⟨fun _ _ _ _ _ => trivial, ⟨fun _ _ _ _ _ => trivial, ⟨fun _ _ _ _ _ => trivial, ⟨fun _ _ _ hr hv => ownsRow.ext hv hr, ⟨fun _ _ _ _ _ => trivial, ⟨fun _ _ _ _ _ => trivial, trivial⟩⟩⟩⟩⟩⟩⟩⟩⟩⟩⟩⟩⟩⟩⟩⟩⟩⟩⟩⟩⟩⟩⟩) (by kernel_rfl) (by kernel_rfl) (by kernel_rfl) ?_
          rotate_left 18
          simp only [List.take_succ_cons, List.take_zero]
          repeat (first
            | (refine wpD_skipv ?_ ?_ ?_
               focus rfl
               focus rfl
               simp only [Act.put, List.setIfInBounds_toArray, List.set_cons_succ, List.set_cons_zero])
            | (refine' wpD_val (c := _) ?_ (fun w => Kp.refl _ w) ?_ (fun wq hwq hfq => ?_) ?_
               rotate_left
               focus rfl
               focus rfl
               focus (have d2 := (HV.out.kp hwq (Nat.not_le.2 hbw)).cell 2 _ rfl; have p1 := HP1.out; have p2 := HP2.out; go_simp; first | done | rfl)
               simp only [Act.put, List.setIfInBounds_toArray, List.set_cons_succ, List.set_cons_zero])
            | (refine' wpD_con (c := _) ?_ ?_ (fun wq hwq hfq => ?_) ?_
               rotate_left
               focus rfl
               focus rfl
               focus (have d2 := (HV.out.kp hwq (Nat.not_le.2 hbw)).cell 2 _ rfl; have p1 := HP1.out; have p2 := HP2.out; go_simp; (try (rw [dUpon_enter])); fail)
               simp only [Act.put, List.setIfInBounds_toArray, List.set_cons_succ, List.set_cons_zero])
            | (refine wpD_made (A := fun _ => True) (V := fun v w' => Fresh0 w.heap.size mvT 2 v w') 85 ?_ ?_ ?_ ?_ (fun wq hwq hfq => ?_) (fun v85 h85 => ?_)
               focus rfl
               focus rfl
               focus (exact ⟨undef, trivial⟩)
               focus rfl
               focus (have d2 := (HV.out.kp hwq (Nat.not_le.2 hbw)).cell 2 _ rfl; have p1 := HP1.out; have p2 := HP2.out; go_simp; (try (rw [dUpon_enter])); rw [dUpon_value]; exact mPost trivial (Fresh0.new hwq.size) ((Kp.refl _ _).alloc _))
               clear h85
               simp only [Act.put, List.setIfInBounds_toArray, List.set_cons_succ, List.set_cons_zero])
            | (refine wpD_used (A := fun _ => True) (V := fun v w' => w'.ownsRow w.heap.size mvT 2 v ml.length (ml.flatMap mvC)) 92 ?_ ?_ ?_ ?_ (fun wq hwq hfq => ?_) (fun v92 h92 => ?_)
               focus rfl
               focus rfl
               focus (exact ⟨undef, trivial⟩)
               focus rfl
               focus (have d2 := (HV.out.kp hwq (Nat.not_le.2 hbw)).cell 2 _ rfl; have p1 := HP1.out; have p2 := HP2.out; refine dUpon_app (d := 92) rfl (by kernel_rfl) mvsT mvT 2 (by decide) mv_facts rfl _ _ rfl w.heap.size v85 0 [] rfl (hfq 85 rfl).1 _ ml.length (ml.flatMap mvC) rfl (Sl.kp HSL.out hwq (fun i _ hi hge => absurd hi (Nat.not_lt.2 hge))) HSH.out (mv_one _) (by omega) hwq.size (fun v' w' h1 h2 => ⟨trivial, by simpa using h1, h2.over (owns_base (hfq 85 rfl).1), ?_⟩); repeat (first | exact PresL.nil | (with_reducible refine PresL.val ?_) | (refine PresL.out rfl ?_) | (refine PresL.keep (fun u hu => BoxL.kp0 hu (by simp) (hfq 85 rfl) h2) ?_) | (refine PresL.keep (fun u hu => owns_kp0 hu (by omega) (by decide) (hfq 85 rfl) h2) ?_)))
               clear h92
               simp only [Act.put, List.setIfInBounds_toArray, List.set_cons_succ, List.set_cons_zero])
            | (refine wpD_made (A := fun _ => True) (V := fun v w' => BoxL w.heap.size mvT 1 [.string top, .int .i64 s] v w') 96 ?_ ?_ ?_ ?_ (fun wq hwq hfq => ?_) (fun v96 h96 => ?_)
               focus rfl
               focus rfl
               focus (exact ⟨undef, trivial⟩)
               focus rfl
               focus (have d2 := (HV.out.kp hwq (Nat.not_le.2 hbw)).cell 2 _ rfl; have p1 := HP1.out; have p2 := HP2.out; go_simp; (try (rw [dUpon_enter])); rw [dUpon_value]; exact mPost trivial (BoxL.new hwq.size) ((Kp.refl _ _).alloc _))
               clear h96
               simp only [Act.put, List.setIfInBounds_toArray, List.set_cons_succ, List.set_cons_zero])
            | (refine wpD_used (A := fun _ => True) (V := fun v w' => w'.ownsRow w.heap.size mvT 2 v (ml.length + 1) (ml.flatMap mvC ++ [.string top, .int .i64 s])) 97 ?_ ?_ ?_ ?_ (fun wq hwq hfq => ?_) (fun v97 h97 => ?_)
               focus rfl
               focus rfl
               focus (exact ⟨undef, trivial⟩)
               focus rfl
               focus (have d2 := (HV.out.kp hwq (Nat.not_le.2 hbw)).cell 2 _ rfl; have p1 := HP1.out; have p2 := HP2.out; refine dUpon_app (d := 97) rfl (by kernel_rfl) mvsT mvT 2 (by decide) mv_facts rfl _ _ rfl w.heap.size v92 _ _ rfl (hfq 92 rfl) v96 1 [.string top, .int .i64 s] rfl (BoxL.sl (k := 2) (hfq 96 rfl) rfl (by decide)).1 (BoxL.sl (k := 2) (hfq 96 rfl) rfl (by decide)).2 HO1.out (by omega) hwq.size (fun v' w' h1 h2 => ⟨trivial, h1, h2.over (owns_base (hfq 92 rfl)), ?_⟩); repeat (first | exact PresL.nil | (with_reducible refine PresL.val ?_) | (refine PresL.out rfl ?_) | (refine PresL.keep (fun u hu => hu) ?_)))
               clear h97
               simp only [Act.put, List.setIfInBounds_toArray, List.set_cons_succ, List.set_cons_zero])
            | (refine wpD_used (A := fun v => ∃ a l c, v = .slice a l c) (V := fun v w' => w'.ownsRow w.heap.size mvT 2 v (ml.length + 1) (ml.flatMap mvC ++ [.string top, .int .i64 s])) 104 ?_ ?_ ?_ ?_ (fun wq hwq hfq => ?_) (fun v104 h104 => ?_)
               focus rfl
               focus rfl
               focus (exact ⟨.slice none 0 0, _, _, _, rfl⟩)
               focus rfl
               focus (have d2 := (HV.out.kp hwq (Nat.not_le.2 hbw)).cell 2 _ rfl; have p1 := HP1.out; have p2 := HP2.out; refine dUpon_app (d := 104) rfl (by kernel_rfl) mvsT mvT 2 (by decide) mv_facts rfl _ _ rfl w.heap.size v97 _ _ rfl (hfq 97 rfl) _ 0 [] rfl (Sl.kp HT2.out.1 hwq (fun i _ hi hge => absurd hi (Nat.not_lt.2 hge))) HT2.out.2 (by simp) (by omega) hwq.size (fun v' w' h1 h2 => ⟨by obtain ⟨a, c, e⟩ := owns_slice h1; exact ⟨_, _, _, e⟩, by simpa using h1, h2.over (owns_base (hfq 97 rfl)), ?_⟩); repeat (first | exact PresL.nil | (with_reducible refine PresL.val ?_) | (refine PresL.out rfl ?_) | (refine PresL.keep (fun u hu => Fresh0.keep hu (hfq 97 rfl) (by omega) (by decide) h2) ?_)))
               obtain ⟨a96, l96, c96, rfl⟩ := h104
               simp only [Act.put, List.setIfInBounds_toArray, List.set_cons_succ, List.set_cons_zero])
            | fail)
          refine wpD_nil ?_
          intro W9 hx9 hend
          have ho : W9.ownsRow w.heap.size mvT 2 (.slice a96 l96 c96) (ml.length + 1) (ml.flatMap mvC ++ [.string top, .int .i64 s]) := hend 104 (by kernel_rfl)
          have hb9 := HV.out.kp hx9 (Nat.not_le.2 hbw)
          have d2 := hb9.cell 2 _ rfl
          have f2 := hb9.free 2
          obtain ⟨W10, hW10⟩ : ∃ W10, W9.setCell ⟨b, 2, none⟩ (.slice a96 l96 c96) = W10 := ⟨_, rfl⟩
          have hb10 : Blk W10 b #[.int .i64 sh, .int .i64 ver, .slice a96 l96 c96] rtT := by rw [← hW10]; exact hb9.set 2 _
          have d1 := hb10.cell 1 _ rfl
          have f1 := hb10.free 1
          have hk10 : Kp (fun i => i = b) W9 W10 := by rw [← hW10]; exact Kp.set1 (S := fun i => i = b) (Kp.refl _ W9) b 2 _ rfl
          have HF : Hid (∀ (z : Int) v cc, RMovePost b sh (.slice a ml.length cc) ml top s w (.returned v) (W10.setCell ⟨b, 1, none⟩ (.int .i64 z))) := by
            intro z v cc
            have kz : Kp (fun i => i = b) W10 (W10.setCell ⟨b, 1, none⟩ (.int .i64 z)) := Kp.set1 (S := fun i => i = b) (Kp.refl _ W10) b 1 _ rfl
            have hx : Ext w W9 := hx9.mono fun i hi hge => absurd hi (Nat.not_lt.2 hge)
            have hof : ∀ i, (Value.slice a96 l96 c96).ownBlock = some i → w.heap.size ≤ i ∧ i < W9.heap.size := fun i hi => own_in ho hi
            have ho2 := ownsRow.kp (ownsRow.kp ho hk10 (fun i hi e => by have := (hof i hi).1; omega)) kz (fun i hi e => by have := (hof i hi).1; omega)
            refine ⟨⟨v, rfl⟩, ⟨.slice a96 l96 c96, ⟨⟨z, hb10.set 1 _⟩, ?_, shp_owns ho2, fun i hi => ⟨by have := (hof i hi).1; omega, by have := (hof i hi).2; have := hk10.size; have := kz.size; omega⟩⟩, fun i hi => .inr (hof i hi).1⟩, ((Ext.kp hx).trans hk10).trans kz⟩
            have e : addM sh ml top s = ml ++ [(top, s)] := by unfold addM; rw [if_neg HBAD.out]
            rw [e, List.length_append, flatMap_snoc]
            exact Sl.of_owns ho2
          clear hend ho hx9 hb9 hb10 hk10
          go_wp2_with (fail)
          all_goals
            go_ret
            exact HF.out _ _ _
/-! A table of either kind. -/
def nmB (k : Nat) : ByteArray := ⟨#[(97 + k).toUInt8]⟩
/-- What was moved, of the first k. -/
def mvTo (sh : Nat) (l : List Int) : Nat → Moved
  | 0 => []
  | k + 1 => addM sh (mvTo sh l k) (nmB k) (l.getD k 0)
theorem mvTo_mem (sh : Nat) (l : List Int) : ∀ k, ∀ e ∈ mvTo sh l k, ∃ j, j < k ∧ e.1 = nmB j
  | 0, e, he => by cases he
  | k + 1, e, he => by
    unfold mvTo addM at he
    split at he
    · obtain ⟨j, h1, h2⟩ := mvTo_mem sh l k e he; exact ⟨j, by omega, h2⟩
    · rcases List.mem_append.1 he with he | he
      · obtain ⟨j, h1, h2⟩ := mvTo_mem sh l k e he; exact ⟨j, by omega, h2⟩
      · simp only [List.mem_singleton] at he; subst he; exact ⟨k, by omega, rfl⟩
theorem mvTo_len (sh : Nat) (l : List Int) : ∀ k, (mvTo sh l k).length ≤ k
  | 0 => Nat.le_refl _
  | k + 1 => by
    have := mvTo_len sh l k
    unfold mvTo addM
    split
    · omega
    · rw [List.length_append]; show _ + 1 ≤ _; omega
theorem nmB_lt : ∀ k, k < 5 → ∀ j, j < k → Op.bytesLess (nmB j).toList (nmB k).toList = true ∧ nmB j ≠ nmB k := by
  intro k hk j hj
  rw [Lib.toList_data, Lib.toList_data]
  have hk' : k = 0 ∨ k = 1 ∨ k = 2 ∨ k = 3 ∨ k = 4 := by omega
  have hj' : j = 0 ∨ j = 1 ∨ j = 2 ∨ j = 3 := by omega
  rcases hk' with rfl | rfl | rfl | rfl | rfl <;> rcases hj' with rfl | rfl | rfl | rfl <;> first | omega | decide
theorem nmB_top : ∀ k, k < 5 → topB (⟨#[47]⟩ ++ nmB k) = nmB k ∧ nmB k ≠ ⟨#[]⟩ ∧ nameR (nmB k).data.toList = true := by
  intro k hk
  have hk' : k = 0 ∨ k = 1 ∨ k = 2 ∨ k = 3 ∨ k = 4 := by omega
  rcases hk' with rfl | rfl | rfl | rfl | rfl <;> exact ⟨by decide, by decide, by decide⟩
theorem mset_new {ml : Moved} {k : ByteArray} {s : Int} (h : ∀ e ∈ ml, e.1 ≠ k) : mset ml k s = ml ++ [(k, s)] := by
  induction ml with
  | nil => rfl
  | cons a r ih =>
    have h1 : ¬ k = a.1 := fun e => h a List.mem_cons_self e.symm
    show (if k = a.1 then _ else _) = _
    rw [if_neg h1, ih (fun e he => h e (List.mem_cons_of_mem _ he))]; rfl
theorem moveT_add (sh : Nat) (l : List Int) (k : Nat) (hk : k < 5) (s : Int) : (moveT sh (mvTo sh l k) (nmB k) s).1 = addM sh (mvTo sh l k) (nmB k) s := by
  obtain ⟨h1, h2, _⟩ := nmB_top k hk
  unfold moveT addM
  by_cases hb : s < 0 ∨ (sh : Int) ≤ s
  · rw [if_pos hb, if_pos (by rcases hb with h | h; exact .inr (.inr (.inl h)); exact .inr (.inr (.inr h)))]
  · rw [if_neg hb, if_neg (by rintro (h | h | h | h); exact h h1; exact h2 h; exact hb (.inl h); exact hb (.inr h)), if_neg (by have := mvTo_len sh l k; omega)]
    rw [mset_new]
    intro e he e2
    obtain ⟨j, hj, h3⟩ := mvTo_mem sh l k e he
    exact (nmB_lt k hk j hj).2 (by rw [← h3, e2])
end Go.Proofs.YtmgnndhhpnedkaaGreatDoor
