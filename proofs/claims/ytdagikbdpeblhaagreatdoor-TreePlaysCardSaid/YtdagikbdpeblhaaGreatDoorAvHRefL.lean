/- Walks over the reference's tree: lay, remove, Copy. -/
import Derived.Test.YtdagikbdpeblhaaGreatDoorAvG26
import Derived.Test.YtdagikbdpeblhaaGreatDoorAvG27
namespace Go.Proofs.YtdagikbdpeblhaaGreatDoor
set_option maxRecDepth 100000
open Go.RowKit Av

theorem flatE_take : ∀ (E : List Ent) (k : Nat), (E.flatMap entC).take (k * 11) = (E.take k).flatMap entC
  | [], k => by simp
  | e :: E, 0 => by simp
  | e :: E, k + 1 => by
    rw [List.flatMap_cons, List.take_succ_cons, List.flatMap_cons, ← flatE_take E k]
    rw [List.take_append]
    have : (entC e).length = 11 := rfl
    rw [this, show (k + 1) * 11 - 11 = k * 11 by omega, List.take_of_length_le (by rw [this]; omega)]
theorem flatE_drop : ∀ (E : List Ent) (k : Nat), (E.flatMap entC).drop (k * 11) = (E.drop k).flatMap entC
  | [], k => by simp
  | e :: E, 0 => by simp
  | e :: E, k + 1 => by
    rw [List.flatMap_cons, List.drop_succ_cons, ← flatE_drop E k, List.drop_append]
    have : (entC e).length = 11 := rfl
    rw [this, show (k + 1) * 11 - 11 = k * 11 by omega, List.drop_of_length_le (by rw [this]; omega), List.nil_append]
theorem flatE_len (E : List Ent) : (E.flatMap entC).length = E.length * 11 := by
  induction E with
  | nil => rfl
  | cons e E ih => rw [List.flatMap_cons, List.length_append, ih, List.length_cons]; have : (entC e).length = 11 := rfl; omega
theorem EntOk.one {w : World} {e : Ent} (h : EntOk w e) : e.nv.oneCell' = true := by
  obtain ⟨a, c, hh⟩ := owns_slice h
  rw [hh]; rfl
theorem ents_one {w : World} {E : List Ent} (h : ∀ e ∈ E, EntOk w e) : ∀ y ∈ E.flatMap entC, y.oneCell' = true := fun y hy => by
  obtain ⟨e, he, hy⟩ := List.mem_flatMap.1 hy
  exact ent_one e (h e he).one y hy
theorem shp_ents {w : World} {base : Nat} {v : Value} {E : List Ent} (h : EntsR w base v E) : Shp v := shp_owns h.row
theorem ents_head {w : World} {base : Nat} {a : Option Addr} {c k : Nat} {E : List Ent} (h : EntsR w base (.slice a E.length c) E) (hk : k ≤ E.length) : Sl w 11 (.slice a k c) k ((E.take k).flatMap entC) ∧ Shp (.slice a k c) := by
  have h1 := (Sl.of_owns h.row).cut 0 k 0 (by omega) (Nat.zero_le _) hk
  have h2 := Shp.cut (m := 0) (shp_ents h) (Nat.zero_le k) hk
  have e : cutAd a c 0 0 = a := by
    unfold cutAd
    split
    · rfl
    · cases a with
      | none => rfl
      | some ad => simp [Addr.add]
  rw [e] at h1 h2
  simp only [Nat.sub_zero, List.drop_zero] at h1 h2
  rw [flatE_take] at h1
  exact ⟨h1, h2⟩
theorem ents_tail {w : World} {base : Nat} {a : Option Addr} {c k : Nat} {E : List Ent} (h : EntsR w base (.slice a E.length c) E) (hk : k ≤ E.length) : Sl w 11 (.slice (cutAd a c k (k * 11)) (E.length - k) (c - k)) (E.length - k) ((E.drop k).flatMap entC) ∧ Shp (.slice (cutAd a c k (k * 11)) (E.length - k) (c - k)) := by
  have h1 := (Sl.of_owns h.row).cut k E.length (k * 11) rfl hk (Nat.le_refl _)
  have h2 := Shp.cut (m := k * 11) (shp_ents h) hk (Nat.le_refl _)
  rw [flatE_drop, List.take_of_length_le (by rw [flatE_len, List.length_drop]; exact Nat.le_refl _)] at h1
  exact ⟨h1, h2⟩
theorem EntsR.mk' {w : World} {base n : Nat} {v : Value} {E : List Ent} (hl : E.length = n) (h : w.ownsRow base entT 11 v n (E.flatMap entC)) (ho : ∀ e ∈ E, EntOk w e) : EntsR w base v E := ⟨by rw [hl]; exact h, ho⟩
/-- A tree whose row is another one. -/
theorem RefA.put {w w2 : World} {base g : Nat} {room : Int} {v v' : Value} {E E' : List Ent} {n : Nat} (h : RefA w base g room v E) (hx : Ext w w2) (hl : E'.length = n) (hr : w2.ownsRow w.heap.size entT 11 v' n (E'.flatMap entC)) (ho : ∀ e ∈ E', EntOk w e) :
    RefA (w2.setCell ⟨g, 1, none⟩ v') base g room v' E' ∧ Kp (fun i => i = g) w (w2.setCell ⟨g, 1, none⟩ v') ∧ ∀ i, v'.ownBlock = some i → w.heap.size ≤ i := by
  have k2 : Kp (fun i => i = g) w2 (w2.setCell ⟨g, 1, none⟩ v') := (Kp.refl _ _).set1 _ 1 _ rfl
  have hb : Blk w2 g #[.int .i64 room, v] rtT := h.blk.kp hx (fun f => f)
  have hlt := h.blk.lt
  have hlow := h.low
  have hge : ∀ i, v'.ownBlock = some i → w.heap.size ≤ i := fun i hi => (own_in hr hi).1
  have hno : NoT w2 (fun i => i = g) strT := fun i e cur f hc => by
    have e2 : i = g := e
    subst e2
    have h1 : w2.heap[i]? = some (.cells #[.int .i64 room, v] rtT (0, 0)) := hb
    rw [h1] at hc
    simp only [Option.some.injEq, Obj.cells.injEq] at hc
    exact absurd hc.2.1 (by decide)
  refine ⟨⟨h.low, hb.set 1 _, EntsR.mk' hl (ownsRow.kp (own_less hr (by omega)) k2 (fun i hi e => by have := hge i hi; have e2 : i = g := e; omega)) (fun e he => ((ho e he).ext hx).kp k2 hno)⟩, (Ext.kp hx).next k2 (fun i hi e => e), hge⟩
def LayRPost (w : World) (base g : Nat) (room : Int) (E' : List Ent) (e : Ending) (w' : World) : Prop := ∃ u v', e = .returned u ∧ RefA w' base g room v' E' ∧ Kp (fun i => i = g) w w' ∧ ∀ i, v'.ownBlock = some i → w.heap.size ≤ i
set_option maxHeartbeats 6400000 in
theorem remove_ref (base g : Nat) (room : Int) (v : Value) (E : List Ent) (k : Nat) (w : World) (h : RefA w base g room v E) (hk : k < E.length) (hE : E.length ≤ 100000) :
    Calls Tryz.prog 52 #[.pointer (some ⟨g, 0, none⟩), .int .i64 k] w fun e w' => LayRPost w base g room (E.take k ++ E.drop (k + 1)) e w' := by
  obtain ⟨a, c, rfl⟩ := owns_slice h.ents.row
  obtain ⟨_, _, hsl, hcc, _⟩ := Sl.open (Sl.of_owns h.ents.row)
  simp only [Value.slice.injEq, true_and] at hsl
  obtain ⟨rfl, rfl⟩ := hsl
  obtain ⟨j, hj⟩ : ∃ j, k + 1 = j := ⟨_, rfl⟩
  rw [hj]
  have HT1 := Lib.hid (ents_head h.ents (Nat.le_of_lt hk))
  have HT3 := Lib.hid (ents_tail (k := j) h.ents (by omega))
  have HLEN : Hid (k + (E.length - j) = E.length - 1) := by show _ = _; omega
  have HEL : Hid ((E.take k ++ E.drop j).length = E.length - 1) := by show _ = _; rw [List.length_append, List.length_take, List.length_drop]; omega
  have HE27 : Hid (IntKind.i64.wrap ((k : Int) + 1) = (j : Int)) := by show _ = _; rw [show (k : Int) + 1 = (j : Int) by omega]; exact IntWalk.i64_in _ (by omega)
  have HP1 : Hid ((0 : Int) ≤ k ∧ (k : Int) ≤ c) := ⟨by omega, by omega⟩
  have HP2 : Hid ((0 : Int) ≤ (E.length : Int) ∧ (E.length : Int) ≤ c) := ⟨by omega, by omega⟩
  have HP5 : Hid ((0 : Int) ≤ j ∧ (j : Int) ≤ (E.length : Int)) := ⟨by omega, by omega⟩
  have HO1 := Lib.hid (ents_one (E := E.take k) (fun e he => h.ents.ok e (List.mem_of_mem_take he)))
  have HO3 := Lib.hid (ents_one (E := E.drop j) (fun e he => h.ents.ok e (List.mem_of_mem_drop he)))
  have HB := Lib.hid h.blk
  have HL1 : Hid (g < w.heap.size) := h.blk.lt
  have HPUT := Lib.hid (fun w2 v' (hx : Ext w w2) (hr : w2.ownsRow w.heap.size entT 11 v' (E.length - 1) ((E.take k ++ E.drop j).flatMap entC)) => h.put hx HEL.out hr (fun e he => h.ents.ok e (by
    rcases List.mem_append.1 he with he | he
    · exact List.mem_of_mem_take he
    · exact List.mem_of_mem_drop he)))
  have HFL : Hid ((E.take k ++ E.drop j).flatMap entC = (E.take k).flatMap entC ++ (E.drop j).flatMap entC) := List.flatMap_append
  generalize (E.take k ++ E.drop j) = E' at HPUT HFL HEL ⊢
  clear h hj
  go_enter Tryz.func52, Tryz.ntmps52
  refine' wp_region_dagK 19 [(12, [5], [20]), (20, [12], [5])] ((4, .val _) :: (5, ⟨fun _ => True, fun v w' => Fresh0 w.heap.size entT 11 v w'⟩) :: (6, .val _) :: (7, .val _) :: (8, .val _) :: (9, .val _) :: (10, .val _) :: (11, .val _) :: (12, ⟨fun _ => True, fun v w' => w'.ownsRow w.heap.size entT 11 v k ((E.take k).flatMap entC)⟩) :: (13, .val _) :: (14, .val _) :: (15, .val _) :: (16, .val _) :: (17, .val _) :: (18, .val _) :: (19, .val _) :: (20, ⟨fun v => ∃ a c, v = .slice a (E.length - 1) c, fun v w' => w'.ownsRow w.heap.size entT 11 v (E.length - 1) (E'.flatMap entC)⟩) :: (21, .val _) :: (22, .val _) :: []) (by exact ⟨fun _ _ _ _ _ => trivial, ⟨fun _ _ _ hr hv => hv.ext hr, ⟨fun _ _ _ _ _ => trivial, ⟨fun _ _ _ _ _ => trivial, ⟨fun _ _ _ _ _ => trivial, ⟨fun _ _ _ _ _ => trivial, ⟨fun _ _ _ _ _ => trivial, ⟨fun _ _ _ _ _ => trivial, ⟨fun _ _ _ hr hv => ownsRow.ext hv hr, ⟨fun _ _ _ _ _ => trivial, ⟨fun _ _ _ _ _ => trivial, ⟨fun _ _ _ _ _ => trivial, ⟨fun _ _ _ _ _ => trivial, ⟨fun _ _ _ _ _ => trivial, ⟨fun _ _ _ _ _ => trivial, ⟨fun _ _ _ _ _ => trivial, ⟨fun _ _ _ hr hv => ownsRow.ext hv hr, ⟨fun _ _ _ _ _ => trivial, ⟨fun _ _ _ _ _ => trivial, trivial⟩⟩⟩⟩⟩⟩⟩⟩⟩⟩⟩⟩⟩⟩⟩⟩⟩⟩⟩) (by kernel_rfl) (by kernel_rfl) (by kernel_rfl) ?_
  rotate_left 16
  simp only [List.take_succ_cons, List.take_zero]
  repeat (first
    | (refine wpD_skipv ?_ ?_ ?_
       focus rfl
       focus rfl
       simp only [Act.put, List.setIfInBounds_toArray, List.set_cons_succ, List.set_cons_zero])
    | (refine' wpD_val (c := _) ?_ (fun w => Kp.refl _ w) ?_ (fun wq hwq hfq => ?_) ?_
       rotate_left
       focus rfl
       focus rfl
       focus ((have p1 := HP1.out; have p2 := HP2.out; have p5 := HP5.out; have e27 := HE27.out; have c1 := (HB.out.kp hwq (Nat.not_le.2 HL1.out)).cell 1 _ rfl); go_simp; first | done | rfl)
       simp only [Act.put, List.setIfInBounds_toArray, List.set_cons_succ, List.set_cons_zero])
    | (refine' wpD_con (c := _) ?_ ?_ (fun wq hwq hfq => ?_) ?_
       rotate_left
       focus rfl
       focus rfl
       focus ((have p1 := HP1.out; have p2 := HP2.out; have p5 := HP5.out; have e27 := HE27.out; have c1 := (HB.out.kp hwq (Nat.not_le.2 HL1.out)).cell 1 _ rfl); go_simp; (try (rw [dUpon_enter])); fail)
       simp only [Act.put, List.setIfInBounds_toArray, List.set_cons_succ, List.set_cons_zero])
    | (refine wpD_made (A := fun _ => True) (V := fun v w' => Fresh0 w.heap.size entT 11 v w') 5 ?_ ?_ ?_ ?_ (fun wq hwq hfq => ?_) (fun v5 h5 => ?_)
       focus rfl
       focus rfl
       focus (exact ⟨undef, trivial⟩)
       focus rfl
       focus ((have p1 := HP1.out; have p2 := HP2.out; have p5 := HP5.out; have e27 := HE27.out; have c1 := (HB.out.kp hwq (Nat.not_le.2 HL1.out)).cell 1 _ rfl); go_simp; (try (rw [dUpon_enter])); rw [dUpon_value]; exact mPost trivial (Fresh0.new hwq.size) ((Kp.refl _ _).alloc _))
       clear h5
       simp only [Act.put, List.setIfInBounds_toArray, List.set_cons_succ, List.set_cons_zero])
    | (refine wpD_used (A := fun _ => True) (V := fun v w' => w'.ownsRow w.heap.size entT 11 v k ((E.take k).flatMap entC)) 12 ?_ ?_ ?_ ?_ (fun wq hwq hfq => ?_) (fun v12 h12 => ?_)
       focus rfl
       focus rfl
       focus (exact ⟨undef, trivial⟩)
       focus rfl
       focus ((have p1 := HP1.out; have p2 := HP2.out; have p5 := HP5.out; have e27 := HE27.out; have c1 := (HB.out.kp hwq (Nat.not_le.2 HL1.out)).cell 1 _ rfl); refine dUpon_app (d := 12) rfl (by kernel_rfl) entsT entT 11 (by decide) ents_facts rfl _ _ rfl w.heap.size v5 0 [] rfl (hfq 5 rfl).1 _ k ((E.take k).flatMap entC) rfl (Sl.kp HT1.out.1 hwq (fun i _ hi hge => absurd hi (Nat.not_lt.2 hge))) HT1.out.2 HO1.out (by omega) hwq.size (fun v' w' h1 h2 => ⟨trivial, by simpa using h1, h2.over (owns_base (hfq 5 rfl).1), ?_⟩); repeat (first | exact PresL.nil | (with_reducible refine PresL.val ?_) | (refine PresL.out rfl ?_)))
       clear h12
       simp only [Act.put, List.setIfInBounds_toArray, List.set_cons_succ, List.set_cons_zero])
    | (refine wpD_used (A := fun v => ∃ a c, v = .slice a (E.length - 1) c) (V := fun v w' => w'.ownsRow w.heap.size entT 11 v (E.length - 1) (E'.flatMap entC)) 20 ?_ ?_ ?_ ?_ (fun wq hwq hfq => ?_) (fun v20 h20 => ?_)
       focus rfl
       focus rfl
       focus (exact ⟨.slice none (E.length - 1) 0, _, _, rfl⟩)
       focus rfl
       focus ((have p1 := HP1.out; have p2 := HP2.out; have p5 := HP5.out; have e27 := HE27.out; have c1 := (HB.out.kp hwq (Nat.not_le.2 HL1.out)).cell 1 _ rfl); refine dUpon_app (d := 20) rfl (by kernel_rfl) entsT entT 11 (by decide) ents_facts rfl _ _ rfl w.heap.size v12 _ _ rfl (hfq 12 rfl) _ (E.length - j) ((E.drop j).flatMap entC) rfl (Sl.kp HT3.out.1 hwq (fun i _ hi hge => absurd hi (Nat.not_lt.2 hge))) HT3.out.2 HO3.out (by omega) hwq.size (fun v' w' h1 h2 => ⟨by have h := h1; rw [HLEN.out] at h; exact owns_slice h, by have h := h1; rw [HLEN.out] at h; rw [HFL.out]; exact h, h2.over (owns_base (hfq 12 rfl)), ?_⟩); repeat (first | exact PresL.nil | (with_reducible refine PresL.val ?_) | (refine PresL.out rfl ?_)))
       obtain ⟨a20, c20, rfl⟩ := h20
       simp only [Act.put, List.setIfInBounds_toArray, List.set_cons_succ, List.set_cons_zero])
    | fail)
  refine wpD_nil ?_
  intro w2 hx2 hend
  have ho : w2.ownsRow w.heap.size entT 11 (.slice a20 (E.length - 1) c20) (E.length - 1) (E'.flatMap entC) := hend 20 (by kernel_rfl)
  clear hend
  have hx2' : Ext w w2 := hx2.mono (fun i hi hge => by omega)
  have hP := HPUT.out w2 _ hx2' ho
  have hb2 := HB.out.kp hx2' (fun f => f)
  have c1 := hb2.cell 1 _ rfl
  have f1 := hb2.free 1
  have HP := Lib.hid hP
  clear hP hb2 hx2 hx2' ho
  simp only [cut_fold]
  go_wp2_with (fail)
  go_end0
  go_light
  exact ⟨_, _, rfl, HP.out.1, HP.out.2.1, HP.out.2.2⟩
theorem RefA.putE {w w2 : World} {base g : Nat} {room : Int} {v v' : Value} {E E' : List Ent} {n : Nat} (h : RefA w base g room v E) (hx : Ext w w2) (hl : E'.length = n) {b0 : Nat} (hb0 : w.heap.size ≤ b0) (hr : w2.ownsRow b0 entT 11 v' n (E'.flatMap entC)) (ho : ∀ e ∈ E', EntOk w e) :
    RefA (w2.setCell ⟨g, 1, none⟩ v') base g room v' E' ∧ Kp (fun i => i = g) w (w2.setCell ⟨g, 1, none⟩ v') ∧ ∀ i, v'.ownBlock = some i → w.heap.size ≤ i := h.put hx hl (own_less hr hb0) ho
set_option maxHeartbeats 6400000 in
theorem lay_ref (base g : Nat) (room : Int) (v : Value) (E : List Ent) (p : ByteArray) (n : NodeV) (nv : Value) (w : World) (h : RefA w base g room v E) (hn : NmO w nv n.names) (hE : E.length ≤ 100000) :
    Calls Tryz.prog 61 #[.pointer (some ⟨g, 0, none⟩), .agg (entC ⟨p, n, nv⟩).toArray] w fun e w' => LayRPost w base g room (E.take (atR (entL E) p) ++ ⟨p, n, nv⟩ :: E.drop (atR (entL E) p)) e w' := by
  obtain ⟨a, c, rfl⟩ := owns_slice h.ents.row
  obtain ⟨na, nc, rfl⟩ := owns_slice hn
  obtain ⟨_, _, hsl, hcc, _⟩ := Sl.open (Sl.of_owns h.ents.row)
  simp only [Value.slice.injEq, true_and] at hsl
  obtain ⟨rfl, rfl⟩ := hsl
  obtain ⟨wA, hWA⟩ : ∃ wA, w.alloc (.cells #[.string p, .int .i64 n.made, .int .i64 n.chg, .int .i64 n.ver, .int .i64 n.kids, .int .i64 n.own, .int .i64 n.len, .int .i64 n.cnt, .string n.data, .int .i64 n.next, .slice na n.names.length nc] entT) = wA := ⟨_, rfl⟩
  have hxA : Ext w wA := by rw [← hWA]; exact (Kp.refl _ _).alloc _
  have hA : Blk wA w.heap.size #[.string p, .int .i64 n.made, .int .i64 n.chg, .int .i64 n.ver, .int .i64 n.kids, .int .i64 n.own, .int .i64 n.len, .int .i64 n.cnt, .string n.data, .int .i64 n.next, .slice na n.names.length nc] entT := by rw [← hWA]; exact heap_alloc_new w _
  have HAT := Lib.hid (at_any base g room _ E p wA (h.ext hxA))
  have hk : atR (entL E) p ≤ E.length := by have := lessN_le p.data.toList (keysR (entL E)); rw [keysE, List.length_map] at this; unfold atR; rw [keysE]; exact this
  have HH := Lib.hid h
  have HXA := Lib.hid hxA
  have HA := Lib.hid hA
  have hp0 := hA.cell 0 _ rfl
  have HWA := Lib.hid hWA
  have hok : ∀ e ∈ E.take (atR (entL E) p) ++ ⟨p, n, .slice na n.names.length nc⟩ :: E.drop (atR (entL E) p), EntOk w e := fun e he => by
    rcases List.mem_append.1 he with he | he
    · exact h.ents.ok e (List.mem_of_mem_take he)
    · rcases List.mem_cons.1 he with rfl | he
      · exact hn
      · exact h.ents.ok e (List.mem_of_mem_drop he)
  have HOK := Lib.hid hok
  generalize atR (entL E) p = k at HAT HOK hk hok ⊢
  have HEL : Hid ((E.take k ++ ⟨p, n, .slice na n.names.length nc⟩ :: E.drop k).length = E.length + 1) := by show _ = _; simp only [List.length_append, List.length_cons, List.length_take, List.length_drop]; omega
  have HFL : Hid ((E.take k ++ ⟨p, n, .slice na n.names.length nc⟩ :: E.drop k).flatMap entC = ((E.take k).flatMap entC ++ [.string p, .int .i64 n.made, .int .i64 n.chg, .int .i64 n.ver, .int .i64 n.kids, .int .i64 n.own, .int .i64 n.len, .int .i64 n.cnt, .string n.data, .int .i64 n.next, .slice na n.names.length nc]) ++ (E.drop k).flatMap entC) := by
    show _ = _
    rw [List.flatMap_append, List.flatMap_cons, List.append_assoc]
    rfl
  have HONE := Lib.hid (ent_one ⟨p, n, .slice na n.names.length nc⟩ rfl)
  unfold entC at HONE
  have HLEN : Hid (k + 1 + (E.length - k) = E.length + 1) := by show _ = _; omega
  have HP1 : Hid ((0 : Int) ≤ k ∧ (k : Int) ≤ c) := ⟨by omega, by omega⟩
  have HP2 : Hid ((0 : Int) ≤ (E.length : Int) ∧ (E.length : Int) ≤ c) := ⟨by omega, by omega⟩
  have HP5 : Hid ((0 : Int) ≤ k ∧ (k : Int) ≤ (E.length : Int)) := ⟨by omega, by omega⟩
  have HO1 := Lib.hid (ents_one (E := E.take k) (fun e he => h.ents.ok e (List.mem_of_mem_take he)))
  have HO3 := Lib.hid (ents_one (E := E.drop k) (fun e he => h.ents.ok e (List.mem_of_mem_drop he)))
  generalize (E.take k ++ ⟨p, n, .slice na n.names.length nc⟩ :: E.drop k) = E' at HOK HEL HFL hok ⊢
  clear h hWA hxA hA hn hok
  unfold entC
  go_enter Tryz.func61, Tryz.ntmps61
  go_upto_region 1 with (fail)
  rw [HWA.out]
  clear HWA
  go_wp2_with (fail)
  refine HAT.out.mono ?_
  rintro e w1 ⟨rfl, hx1⟩
  have HH1 := Lib.hid (HH.out.ext (HXA.out.trans hx1))
  have HA1 := Lib.hid (HA.out.kp hx1 (fun f => f))
  have HX1 := Lib.hid (HXA.out.trans hx1)
  have HT1 := Lib.hid (ents_head HH1.out.ents hk)
  have HT3 := Lib.hid (ents_tail HH1.out.ents hk)
  have HL1 : Hid (g < w1.heap.size) := HH1.out.blk.lt
  have HL2 : Hid (w.heap.size < w1.heap.size) := HA1.out.lt
  clear hx1 HAT hp0
  go_upto_region 2 with (fail)
  refine' wp_region_dagK 21 [(21, [14], [24]), (24, [21, 23], [14, 31]), (31, [24], [21, 23])] ((13, .val _) :: (14, ⟨fun _ => True, fun v w => Fresh0 w1.heap.size entT 11 v w⟩) :: (15, .val _) :: (16, .val _) :: (17, .val _) :: (18, .val _) :: (19, .val _) :: (20, .val _) :: (21, ⟨fun _ => True, fun v w => w.ownsRow w1.heap.size entT 11 v k ((E.take k).flatMap entC)⟩) :: (22, .val _) :: (23, ⟨fun _ => True, fun v w => BoxL w1.heap.size entT 1 [.string p, .int .i64 n.made, .int .i64 n.chg, .int .i64 n.ver, .int .i64 n.kids, .int .i64 n.own, .int .i64 n.len, .int .i64 n.cnt, .string n.data, .int .i64 n.next, .slice na n.names.length nc] v w⟩) :: (24, ⟨fun _ => True, fun v w => w.ownsRow w1.heap.size entT 11 v (k + 1) ((E.take k).flatMap entC ++ [.string p, .int .i64 n.made, .int .i64 n.chg, .int .i64 n.ver, .int .i64 n.kids, .int .i64 n.own, .int .i64 n.len, .int .i64 n.cnt, .string n.data, .int .i64 n.next, .slice na n.names.length nc])⟩) :: (25, .val _) :: (26, .val _) :: (27, .val _) :: (28, .val _) :: (29, .val _) :: (30, .val _) :: (31, ⟨fun v => ∃ a c, v = .slice a (E.length + 1) c, fun v w => w.ownsRow w1.heap.size entT 11 v (E.length + 1) (E'.flatMap entC)⟩) :: (32, .val _) :: (33, .val _) :: []) (by exact ⟨fun _ _ _ _ _ => trivial, ⟨fun _ _ _ hr hv => hv.ext hr, ⟨fun _ _ _ _ _ => trivial, ⟨fun _ _ _ _ _ => trivial, ⟨fun _ _ _ _ _ => trivial, ⟨fun _ _ _ _ _ => trivial, ⟨fun _ _ _ _ _ => trivial, ⟨fun _ _ _ _ _ => trivial, ⟨fun _ _ _ hr hv => ownsRow.ext hv hr, ⟨fun _ _ _ _ _ => trivial, ⟨fun _ _ _ hr hv => hv.ext hr, ⟨fun _ _ _ hr hv => ownsRow.ext hv hr, ⟨fun _ _ _ _ _ => trivial, ⟨fun _ _ _ _ _ => trivial, ⟨fun _ _ _ _ _ => trivial, ⟨fun _ _ _ _ _ => trivial, ⟨fun _ _ _ _ _ => trivial, ⟨fun _ _ _ _ _ => trivial, ⟨fun _ _ _ hr hv => ownsRow.ext hv hr, ⟨fun _ _ _ _ _ => trivial, ⟨fun _ _ _ _ _ => trivial, trivial⟩⟩⟩⟩⟩⟩⟩⟩⟩⟩⟩⟩⟩⟩⟩⟩⟩⟩⟩⟩⟩) (by kernel_rfl) (by kernel_rfl) (by kernel_rfl) ?_
  rotate_left 16
  simp only [List.take_succ_cons, List.take_zero]
  repeat (first
    | (refine wpD_skipv ?_ ?_ ?_
       focus rfl
       focus rfl
       simp only [Act.put, List.setIfInBounds_toArray, List.set_cons_succ, List.set_cons_zero])
    | (refine' wpD_val (c := _) ?_ (fun w => Kp.refl _ w) ?_ (fun wq hwq hfq => ?_) ?_
       rotate_left
       focus rfl
       focus rfl
       focus ((have p1 := HP1.out; have p2 := HP2.out; have p5 := HP5.out; have c1 := (HH1.out.blk.kp hwq (Nat.not_le.2 HL1.out)).cell 1 _ rfl; have hdn := HA1.out.kp hwq (Nat.not_le.2 HL2.out); have d0 := hdn.cell 0 _ rfl; have d1 := hdn.cell 1 _ rfl; have d2 := hdn.cell 2 _ rfl; have d3 := hdn.cell 3 _ rfl; have d4 := hdn.cell 4 _ rfl; have d5 := hdn.cell 5 _ rfl; have d6 := hdn.cell 6 _ rfl; have d7 := hdn.cell 7 _ rfl; have d8 := hdn.cell 8 _ rfl; have d9 := hdn.cell 9 _ rfl; have d10 := hdn.cell 10 _ rfl; clear hdn); go_simp; first | done | rfl)
       simp only [Act.put, List.setIfInBounds_toArray, List.set_cons_succ, List.set_cons_zero])
    | (refine' wpD_con (c := _) ?_ ?_ (fun wq hwq hfq => ?_) ?_
       rotate_left
       focus rfl
       focus rfl
       focus ((have p1 := HP1.out; have p2 := HP2.out; have p5 := HP5.out; have c1 := (HH1.out.blk.kp hwq (Nat.not_le.2 HL1.out)).cell 1 _ rfl; have hdn := HA1.out.kp hwq (Nat.not_le.2 HL2.out); have d0 := hdn.cell 0 _ rfl; have d1 := hdn.cell 1 _ rfl; have d2 := hdn.cell 2 _ rfl; have d3 := hdn.cell 3 _ rfl; have d4 := hdn.cell 4 _ rfl; have d5 := hdn.cell 5 _ rfl; have d6 := hdn.cell 6 _ rfl; have d7 := hdn.cell 7 _ rfl; have d8 := hdn.cell 8 _ rfl; have d9 := hdn.cell 9 _ rfl; have d10 := hdn.cell 10 _ rfl; clear hdn); go_simp; (try (rw [dUpon_enter])); fail)
       simp only [Act.put, List.setIfInBounds_toArray, List.set_cons_succ, List.set_cons_zero])
    | (refine wpD_made (A := fun _ => True) (V := fun v w => Fresh0 w1.heap.size entT 11 v w) 14 ?_ ?_ ?_ ?_ (fun wq hwq hfq => ?_) (fun v14 h14 => ?_)
       focus rfl
       focus rfl
       focus (exact ⟨undef, trivial⟩)
       focus rfl
       focus ((have p1 := HP1.out; have p2 := HP2.out; have p5 := HP5.out; have c1 := (HH1.out.blk.kp hwq (Nat.not_le.2 HL1.out)).cell 1 _ rfl; have hdn := HA1.out.kp hwq (Nat.not_le.2 HL2.out); have d0 := hdn.cell 0 _ rfl; have d1 := hdn.cell 1 _ rfl; have d2 := hdn.cell 2 _ rfl; have d3 := hdn.cell 3 _ rfl; have d4 := hdn.cell 4 _ rfl; have d5 := hdn.cell 5 _ rfl; have d6 := hdn.cell 6 _ rfl; have d7 := hdn.cell 7 _ rfl; have d8 := hdn.cell 8 _ rfl; have d9 := hdn.cell 9 _ rfl; have d10 := hdn.cell 10 _ rfl; clear hdn); go_simp; (try (rw [dUpon_enter])); rw [dUpon_value]; exact mPost trivial (Fresh0.new hwq.size) ((Kp.refl _ _).alloc _))
       clear h14
       simp only [Act.put, List.setIfInBounds_toArray, List.set_cons_succ, List.set_cons_zero])
    | (refine wpD_used (A := fun _ => True) (V := fun v w => w.ownsRow w1.heap.size entT 11 v k ((E.take k).flatMap entC)) 21 ?_ ?_ ?_ ?_ (fun wq hwq hfq => ?_) (fun v21 h21 => ?_)
       focus rfl
       focus rfl
       focus (exact ⟨undef, trivial⟩)
       focus rfl
       focus ((have p1 := HP1.out; have p2 := HP2.out; have p5 := HP5.out; have c1 := (HH1.out.blk.kp hwq (Nat.not_le.2 HL1.out)).cell 1 _ rfl; have hdn := HA1.out.kp hwq (Nat.not_le.2 HL2.out); have d0 := hdn.cell 0 _ rfl; have d1 := hdn.cell 1 _ rfl; have d2 := hdn.cell 2 _ rfl; have d3 := hdn.cell 3 _ rfl; have d4 := hdn.cell 4 _ rfl; have d5 := hdn.cell 5 _ rfl; have d6 := hdn.cell 6 _ rfl; have d7 := hdn.cell 7 _ rfl; have d8 := hdn.cell 8 _ rfl; have d9 := hdn.cell 9 _ rfl; have d10 := hdn.cell 10 _ rfl; clear hdn); refine dUpon_app (d := 21) rfl (by kernel_rfl) entsT entT 11 (by decide) ents_facts rfl _ _ rfl w1.heap.size v14 0 [] rfl (hfq 14 rfl).1 _ k ((E.take k).flatMap entC) rfl (Sl.kp HT1.out.1 hwq (fun i _ hi hge => absurd hi (Nat.not_lt.2 hge))) HT1.out.2 HO1.out (by omega) hwq.size (fun v' w' h1 h2 => ⟨trivial, by simpa using h1, h2.over (owns_base (hfq 14 rfl).1), ?_⟩); repeat (first | exact PresL.nil | (with_reducible refine PresL.val ?_) | (refine PresL.out rfl ?_) | (refine PresL.keep (fun u hu => BoxL.kp0 hu (by simp) (hfq 14 rfl) h2) ?_) | (refine PresL.keep (fun u hu => owns_kp0 hu (by omega) (by decide) (hfq 14 rfl) h2) ?_)))
       clear h21
       simp only [Act.put, List.setIfInBounds_toArray, List.set_cons_succ, List.set_cons_zero])
    | (refine wpD_made (A := fun _ => True) (V := fun v w => BoxL w1.heap.size entT 1 [.string p, .int .i64 n.made, .int .i64 n.chg, .int .i64 n.ver, .int .i64 n.kids, .int .i64 n.own, .int .i64 n.len, .int .i64 n.cnt, .string n.data, .int .i64 n.next, .slice na n.names.length nc] v w) 23 ?_ ?_ ?_ ?_ (fun wq hwq hfq => ?_) (fun v23 h23 => ?_)
       focus rfl
       focus rfl
       focus (exact ⟨undef, trivial⟩)
       focus rfl
       focus ((have p1 := HP1.out; have p2 := HP2.out; have p5 := HP5.out; have c1 := (HH1.out.blk.kp hwq (Nat.not_le.2 HL1.out)).cell 1 _ rfl; have hdn := HA1.out.kp hwq (Nat.not_le.2 HL2.out); have d0 := hdn.cell 0 _ rfl; have d1 := hdn.cell 1 _ rfl; have d2 := hdn.cell 2 _ rfl; have d3 := hdn.cell 3 _ rfl; have d4 := hdn.cell 4 _ rfl; have d5 := hdn.cell 5 _ rfl; have d6 := hdn.cell 6 _ rfl; have d7 := hdn.cell 7 _ rfl; have d8 := hdn.cell 8 _ rfl; have d9 := hdn.cell 9 _ rfl; have d10 := hdn.cell 10 _ rfl; clear hdn); go_simp; (try (rw [dUpon_enter])); rw [dUpon_value]; exact mPost trivial (BoxL.new hwq.size) ((Kp.refl _ _).alloc _))
       clear h23
       simp only [Act.put, List.setIfInBounds_toArray, List.set_cons_succ, List.set_cons_zero])
    | (refine wpD_used (A := fun _ => True) (V := fun v w => w.ownsRow w1.heap.size entT 11 v (k + 1) ((E.take k).flatMap entC ++ [.string p, .int .i64 n.made, .int .i64 n.chg, .int .i64 n.ver, .int .i64 n.kids, .int .i64 n.own, .int .i64 n.len, .int .i64 n.cnt, .string n.data, .int .i64 n.next, .slice na n.names.length nc])) 24 ?_ ?_ ?_ ?_ (fun wq hwq hfq => ?_) (fun v24 h24 => ?_)
       focus rfl
       focus rfl
       focus (exact ⟨undef, trivial⟩)
       focus rfl
       focus ((have p1 := HP1.out; have p2 := HP2.out; have p5 := HP5.out; have c1 := (HH1.out.blk.kp hwq (Nat.not_le.2 HL1.out)).cell 1 _ rfl; have hdn := HA1.out.kp hwq (Nat.not_le.2 HL2.out); have d0 := hdn.cell 0 _ rfl; have d1 := hdn.cell 1 _ rfl; have d2 := hdn.cell 2 _ rfl; have d3 := hdn.cell 3 _ rfl; have d4 := hdn.cell 4 _ rfl; have d5 := hdn.cell 5 _ rfl; have d6 := hdn.cell 6 _ rfl; have d7 := hdn.cell 7 _ rfl; have d8 := hdn.cell 8 _ rfl; have d9 := hdn.cell 9 _ rfl; have d10 := hdn.cell 10 _ rfl; clear hdn); refine dUpon_app (d := 24) rfl (by kernel_rfl) entsT entT 11 (by decide) ents_facts rfl _ _ rfl w1.heap.size v21 _ _ rfl (hfq 21 rfl) v23 1 _ rfl (BoxL.sl (k := 11) (hfq 23 rfl) rfl (by decide)).1 (BoxL.sl (k := 11) (hfq 23 rfl) rfl (by decide)).2 HONE.out (by omega) hwq.size (fun v' w' h1 h2 => ⟨trivial, h1, h2.over (owns_base (hfq 21 rfl)), ?_⟩); repeat (first | exact PresL.nil | (with_reducible refine PresL.val ?_) | (refine PresL.out rfl ?_) | (refine PresL.keep (fun u hu => hu) ?_)))
       clear h24
       simp only [Act.put, List.setIfInBounds_toArray, List.set_cons_succ, List.set_cons_zero])
    | (refine wpD_used (A := fun v => ∃ a c, v = .slice a (E.length + 1) c) (V := fun v w => w.ownsRow w1.heap.size entT 11 v (E.length + 1) (E'.flatMap entC)) 31 ?_ ?_ ?_ ?_ (fun wq hwq hfq => ?_) (fun v31 h31 => ?_)
       focus rfl
       focus rfl
       focus (exact ⟨.slice none (E.length + 1) 0, _, _, rfl⟩)
       focus rfl
       focus ((have p1 := HP1.out; have p2 := HP2.out; have p5 := HP5.out; have c1 := (HH1.out.blk.kp hwq (Nat.not_le.2 HL1.out)).cell 1 _ rfl; have hdn := HA1.out.kp hwq (Nat.not_le.2 HL2.out); have d0 := hdn.cell 0 _ rfl; have d1 := hdn.cell 1 _ rfl; have d2 := hdn.cell 2 _ rfl; have d3 := hdn.cell 3 _ rfl; have d4 := hdn.cell 4 _ rfl; have d5 := hdn.cell 5 _ rfl; have d6 := hdn.cell 6 _ rfl; have d7 := hdn.cell 7 _ rfl; have d8 := hdn.cell 8 _ rfl; have d9 := hdn.cell 9 _ rfl; have d10 := hdn.cell 10 _ rfl; clear hdn); refine dUpon_app (d := 31) rfl (by kernel_rfl) entsT entT 11 (by decide) ents_facts rfl _ _ rfl w1.heap.size v24 _ _ rfl (hfq 24 rfl) _ (E.length - k) ((E.drop k).flatMap entC) rfl (Sl.kp HT3.out.1 hwq (fun i _ hi hge => absurd hi (Nat.not_lt.2 hge))) HT3.out.2 HO3.out (by omega) hwq.size (fun v' w' h1 h2 => ⟨by have h := h1; rw [HLEN.out] at h; exact owns_slice h, by have h := h1; rw [HLEN.out] at h; rw [HFL.out]; exact h, h2.over (owns_base (hfq 24 rfl)), ?_⟩); repeat (first | exact PresL.nil | (with_reducible refine PresL.val ?_) | (refine PresL.out rfl ?_) | (refine PresL.keep (fun u hu => Fresh0.keep hu (hfq 24 rfl) (by omega) (by decide) h2) ?_)))
       obtain ⟨a31, c31, rfl⟩ := h31
       simp only [Act.put, List.setIfInBounds_toArray, List.set_cons_succ, List.set_cons_zero])
    | fail)
  refine wpD_nil ?_
  intro w2 hx2 hend
  have ho : w2.ownsRow w1.heap.size entT 11 (.slice a31 (E.length + 1) c31) (E.length + 1) (E'.flatMap entC) := hend 31 (by kernel_rfl)
  clear hend
  have hx2' : Ext w1 w2 := hx2.mono (fun i hi hge => by omega)
  have hP := HH.out.putE (HX1.out.trans hx2') HEL.out (Nat.le_of_lt HL2.out) ho HOK.out
  have hb2 := HH1.out.blk.kp hx2' (fun f => f)
  have c1 := hb2.cell 1 _ rfl
  have f1 := hb2.free 1
  have HP := Lib.hid hP
  clear hP hb2 hx2 hx2' ho
  simp only [cut_fold]
  go_wp2_with (fail)
  go_end0
  go_light
  exact ⟨_, _, rfl, HP.out.1, HP.out.2.1, HP.out.2.2⟩
def CopyRPost (w : World) (room : Int) (E : List Ent) (e : Ending) (w' : World) : Prop := ∃ g v', e = .returned (.pointer (some ⟨g, 0, none⟩)) ∧ RefA w' w.heap.size g room v' E ∧ Ext w w' ∧ ∀ i, v'.ownBlock = some i → w.heap.size ≤ i
set_option maxHeartbeats 3200000 in
theorem copy_ref (base g : Nat) (room : Int) (v : Value) (E : List Ent) (w : World) (h : RefA w base g room v E) (hE : E.length ≤ 100000) :
    Calls Tryz.prog 12 #[.pointer (some ⟨g, 0, none⟩)] w fun e w' => CopyRPost w room E e w' := by
  obtain ⟨a, c, rfl⟩ := owns_slice h.ents.row
  have HT1 : Hid (Sl w 11 (.slice a E.length c) E.length (E.flatMap entC) ∧ Shp (.slice a E.length c)) := ⟨Sl.of_owns h.ents.row, shp_ents h.ents⟩
  have HO1 := Lib.hid (ents_one h.ents.ok)
  have HOK := Lib.hid h.ents.ok
  have HB := Lib.hid h.blk
  have HL1 : Hid (g < w.heap.size) := h.blk.lt
  clear h
  go_enter Tryz.func12, Tryz.ntmps12
  go_upto_region 1 with (fail)
  refine' wp_region_dagK 10 [(12, [7], [])] ((3, .val _) :: (4, .val _) :: (5, .val _) :: (6, .val _) :: (7, ⟨fun _ => True, fun v w' => Fresh0 w.heap.size entT 11 v w'⟩) :: (8, .val _) :: (9, .val _) :: (10, .val _) :: (11, .val _) :: (12, ⟨fun v => ∃ a c, v = .slice a E.length c, fun v w' => w'.ownsRow w.heap.size entT 11 v E.length (E.flatMap entC)⟩) :: []) (by exact ⟨fun _ _ _ _ _ => trivial, ⟨fun _ _ _ _ _ => trivial, ⟨fun _ _ _ _ _ => trivial, ⟨fun _ _ _ _ _ => trivial, ⟨fun _ _ _ hr hv => hv.ext hr, ⟨fun _ _ _ _ _ => trivial, ⟨fun _ _ _ _ _ => trivial, ⟨fun _ _ _ _ _ => trivial, ⟨fun _ _ _ _ _ => trivial, ⟨fun _ _ _ hr hv => ownsRow.ext hv hr, trivial⟩⟩⟩⟩⟩⟩⟩⟩⟩⟩) (by kernel_rfl) (by kernel_rfl) (by kernel_rfl) ?_
  rotate_left 8
  simp only [List.take_succ_cons, List.take_zero]
  repeat (first
    | (refine wpD_skipv ?_ ?_ ?_
       focus rfl
       focus rfl
       simp only [Act.put, List.setIfInBounds_toArray, List.set_cons_succ, List.set_cons_zero])
    | (refine' wpD_val (c := _) ?_ (fun w => Kp.refl _ w) ?_ (fun wq hwq hfq => ?_) ?_
       rotate_left
       focus rfl
       focus rfl
       focus ((have hb := HB.out.kp hwq (Nat.not_le.2 HL1.out); have c0 := hb.cell 0 _ rfl; have c1 := hb.cell 1 _ rfl; clear hb); go_simp; first | done | rfl)
       simp only [Act.put, List.setIfInBounds_toArray, List.set_cons_succ, List.set_cons_zero])
    | (refine' wpD_con (c := _) ?_ ?_ (fun wq hwq hfq => ?_) ?_
       rotate_left
       focus rfl
       focus rfl
       focus ((have hb := HB.out.kp hwq (Nat.not_le.2 HL1.out); have c0 := hb.cell 0 _ rfl; have c1 := hb.cell 1 _ rfl; clear hb); go_simp; (try (rw [dUpon_enter])); fail)
       simp only [Act.put, List.setIfInBounds_toArray, List.set_cons_succ, List.set_cons_zero])
    | (refine wpD_made (A := fun _ => True) (V := fun v w' => Fresh0 w.heap.size entT 11 v w') 7 ?_ ?_ ?_ ?_ (fun wq hwq hfq => ?_) (fun v7 h7 => ?_)
       focus rfl
       focus rfl
       focus (exact ⟨undef, trivial⟩)
       focus rfl
       focus ((have hb := HB.out.kp hwq (Nat.not_le.2 HL1.out); have c0 := hb.cell 0 _ rfl; have c1 := hb.cell 1 _ rfl; clear hb); go_simp; (try (rw [dUpon_enter])); rw [dUpon_value]; exact mPost trivial (Fresh0.new hwq.size) ((Kp.refl _ _).alloc _))
       clear h7
       simp only [Act.put, List.setIfInBounds_toArray, List.set_cons_succ, List.set_cons_zero])
    | (refine wpD_used (A := fun v => ∃ a c, v = .slice a E.length c) (V := fun v w' => w'.ownsRow w.heap.size entT 11 v E.length (E.flatMap entC)) 12 ?_ ?_ ?_ ?_ (fun wq hwq hfq => ?_) (fun v12 h12 => ?_)
       focus rfl
       focus rfl
       focus (exact ⟨.slice none E.length 0, _, _, rfl⟩)
       focus rfl
       focus ((have hb := HB.out.kp hwq (Nat.not_le.2 HL1.out); have c0 := hb.cell 0 _ rfl; have c1 := hb.cell 1 _ rfl; clear hb); refine dUpon_app (d := 12) rfl (by kernel_rfl) entsT entT 11 (by decide) ents_facts rfl _ _ rfl w.heap.size v7 0 [] rfl (hfq 7 rfl).1 _ E.length (E.flatMap entC) rfl (Sl.kp HT1.out.1 hwq (fun i _ hi hge => absurd hi (Nat.not_lt.2 hge))) HT1.out.2 HO1.out (by omega) hwq.size (fun v' w' h1 h2 => ⟨by have h := h1; rw [Nat.zero_add] at h; exact owns_slice h, by simpa using h1, h2.over (owns_base (hfq 7 rfl).1), ?_⟩); repeat (first | exact PresL.nil | (with_reducible refine PresL.val ?_) | (refine PresL.out rfl ?_)))
       obtain ⟨a12, c12, rfl⟩ := h12
       simp only [Act.put, List.setIfInBounds_toArray, List.set_cons_succ, List.set_cons_zero])
    | fail)
  refine wpD_nil ?_
  intro w2 hx2 hend
  have ho : w2.ownsRow w.heap.size entT 11 (.slice a12 E.length c12) E.length (E.flatMap entC) := hend 12 (by kernel_rfl)
  clear hend
  have hx2' : Ext w w2 := hx2.mono (fun i hi hge => by omega)
  have HX2 := Lib.hid hx2'
  have HO := Lib.hid ho
  clear hx2 hx2' ho
  go_wp2_with (fail)
  go_ret
  go_light
  refine ⟨w2.heap.size, _, rfl, ⟨HX2.out.size, heap_alloc_new w2 _, EntsR.mk' rfl (ownsRow.ext HO.out ((Kp.refl _ _).alloc _)) (fun e he => (HOK.out e he).ext (HX2.out.alloc _))⟩, HX2.out.alloc _, fun i hi => (own_in HO.out hi).1⟩
end Go.Proofs.YtdagikbdpeblhaaGreatDoor
