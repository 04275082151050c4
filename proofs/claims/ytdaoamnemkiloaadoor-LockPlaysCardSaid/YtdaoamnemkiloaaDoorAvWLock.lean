/- Walks of package lock: New, Held, Len, Blocks. -/
import Derived.Test.YtdaoamnemkiloaaDoorAvWRefC
namespace Go.Proofs.YtdaoamnemkiloaaDoor
set_option maxRecDepth 100000
open Go.RowKit Av

abbrev St := List (ByteArray × Int)
abbrev stV (st : St) : List (ByteArray × Value) := st.map fun p => (p.1, Value.int .i64 p.2)
/-- The block at b is a Locks whose map lies at m and holds st. -/
structure LockAt (w : World) (b m : Nat) (st : St) : Prop where
  cell : w.cell? ⟨b, 0, none⟩ = some (.map (some m))
  map : MapK Value.string w m (stV st)
  small : ∀ e ∈ st, e.1.size ≤ 200

theorem LockAt.kp {S : Nat → Prop} {w w' : World} {b m : Nat} {st : St} (h : LockAt w b m st) (k : Kp S w w') (hb : ¬ S b) (hm : ¬ S m) : LockAt w' b m st :=
  ⟨k.cell h.cell hb, h.map.kp k hm, h.small⟩
theorem LockAt.ext {w w' : World} {b m : Nat} {st : St} (h : LockAt w b m st) (k : Ext w w') : LockAt w' b m st := h.kp k (fun f => f) (fun f => f)
theorem LockAt.ne {w : World} {b m : Nat} {st : St} (h : LockAt w b m st) : b ≠ m := by
  rintro rfl
  obtain ⟨L, c, ⟨h1, _⟩, _⟩ := h.map
  have := h.cell
  simp [World.cell?, h1] at this
theorem LockAt.lt {w : World} {b m : Nat} {st : St} (h : LockAt w b m st) : b < w.heap.size ∧ m < w.heap.size := ⟨World.block_lt_of_cell? w _ h.cell, h.map.lt⟩

theorem kS : KOk Tryd.prog 9 Value.string := KOk.string Tryd.underlying9
theorem tM : Tryd.prog.underlying 49 = some (.map 9 2) := Tryd.underlying49
theorem zI (w : World) : (zeroValue 2).run Tryd.prog w = .ok (.int .i64 0) w := by kernel_rfl

/-- A new Locks: its place, its map's place. -/
def NewPost (w : World) (e : Ending) (w' : World) : Prop :=
  ∃ b m, e = .returned (.pointer (some ⟨b, 0, none⟩)) ∧ LockAt w' b m [] ∧ w.heap.size ≤ b ∧ w.heap.size ≤ m ∧ Ext w w'

set_option maxHeartbeats 400000 in
theorem lockNew_any (w : World) : Calls Tryd.prog 11 #[] w (NewPost w) := by
  have hmm := @run_makeMap Tryd.prog
  go_enter Tryd.func11, Tryd.ntmps11
  go_wp2
  go_ret
  go_light
  refine ⟨w.heap.size + 1, w.heap.size, rfl, ⟨?_, ?_, by simp⟩, by omega, Nat.le_refl _, ((Kp.refl _ _).alloc _).alloc _⟩
  · simp
  · exact (MapK.new w).kp ((Kp.refl (fun _ => False) _).alloc _) (fun f => f)

set_option maxHeartbeats 400000 in
theorem held_any (b m : Nat) (st : St) (p : ByteArray) (w : World) (h : LockAt w b m st) :
    Calls Tryd.prog 15 #[.pointer (some ⟨b, 0, none⟩), .string p] w fun e w' => e = .returned (.tuple #[.int .i64 ((mget st p).getD 0), .bool (mget st p).isSome]) ∧ w = w' := by
  have hc := h.cell
  have hl := MapK.lookup kS tM h.map (.int .i64 0) zI p true
  rw [mget_map] at hl
  have e1 : ((mget st p).map (Value.int .i64)).getD (.int .i64 0) = .int .i64 ((mget st p).getD 0) := by cases mget st p <;> rfl
  have e2 : ((mget st p).map (Value.int .i64)).isSome = (mget st p).isSome := by cases mget st p <;> rfl
  rw [e1, e2] at hl
  clear h e1 e2
  generalize (mget st p).getD 0 = x at hl ⊢
  generalize (mget st p).isSome = y at hl ⊢
  simp only [if_true] at hl
  go_enter Tryd.func15, Tryd.ntmps15
  go_wp2
  go_ret2
  exact ⟨rfl, rfl⟩

set_option maxHeartbeats 400000 in
theorem lockLen_any (b m : Nat) (st : St) (w : World) (h : LockAt w b m st) :
    Calls Tryd.prog 13 #[.pointer (some ⟨b, 0, none⟩)] w fun e w' => e = .returned (.int .i64 st.length) ∧ w = w' := by
  have hc := h.cell
  have hl := fun ty => MapK.len tM h.map ty
  simp only [List.length_map] at hl
  clear h
  go_enter Tryd.func13, Tryd.ntmps13
  go_wp2
  go_ret
  exact ⟨rfl, rfl⟩

/-- The range in Blocks: what is not to come any more blocks nobody. -/
def BlkRel (w : World) (m r : Nat) (st : St) (who : Int) (p : ByteArray) (wr : World) : Prop :=
  ∃ left, Iter Value.string wr r m (stV st) left ∧ Ext w wr ∧ (∀ e ∈ st, (e.1, Value.int .i64 e.2) ∉ left → blk who p e = false)

set_option maxHeartbeats 1000000 in
theorem blocks_any (b m : Nat) (st : St) (who : Int) (p : ByteArray) (w : World) (h : LockAt w b m st) (hG : GL w) (hp : p.size ≤ maxLen) :
    Calls Tryd.prog 16 #[.pointer (some ⟨b, 0, none⟩), .int .i64 who, .string p] w fun e w' => e = .returned (.bool (blocksL st who p)) ∧ Ext w w' := by
  have HGd := Lib.hid (Good_any p w hG hp)
  by_cases hg : goodB p = true
  · have HG : Hid (goodL p.data.toList = true) := hg
    clear hg
    go_enter Tryd.func16, Tryd.ntmps16
    go_wp2_with (fail)
    refine HGd.out.mono ?_
    rintro e w1 ⟨rfl, hx1⟩
    rw [HG.out]
    go_wp2_with (fail)
    refine (Parent_any p w1 (hG.ext hx1) hp).mono ?_
    rintro e w2 ⟨rfl, hx2⟩
    have h2 : LockAt w2 b m st := (h.ext hx1).ext hx2
    have hc := h2.cell
    obtain ⟨w3, hrun, hit, hx3, hsz⟩ := MapK.range tM h2.map
    have hG3 : GL w3 := ((hG.ext hx1).ext hx2).ext hx3
    have hx : Ext w w3 := (hx1.ext hx2).ext hx3
    have hlt := h2.lt
    generalize hr : w2.heap.size = r at hrun hit
    have hbw : w.heap.size ≤ r := by have := (hx1.ext hx2).size; omega
    have hmr : m ≠ r := by omega
    have hbr : b ≠ r := by omega
    have h3 : LockAt w3 b m st := h2.ext hx3
    have HL := Lib.hid h3
    have HIT := Lib.hid hit
    have HR := Lib.hid hr
    have HM := Lib.hid hmr
    have HB := Lib.hid hbr
    clear hsz hlt h2 hit h3 hr hmr hbr
    go_wp2_with (fail)
    go_loopw [] (fun wr => BlkRel w m r st who p wr) (fun wr => itLeft wr r m)
    case atStart =>
      refine ⟨_, HIT.out, hx, fun e he hn => absurd (List.mem_map.2 ⟨e, he, rfl⟩) hn⟩
    case round =>
      obtain ⟨left, hit, hxr, hdone⟩ := hrel
      rcases hit.next (P := Tryd.prog) with ⟨rfl, hnx⟩ | ⟨q, v, w', hmem, hnx, hit', hkp, hsz, hen⟩
      · have hres : blocksL st who p = false := by
          unfold blocksL
          rw [show goodB p = true from HG.out, Bool.true_and, List.any_eq_false]
          intro e he
          rw [hdone e he (by simp)]; simp
        have HRS := Lib.hid hres
        clear hres hdone hit
        go_wp2
        go_ret
        exact ⟨ret_bool HRS.out.symm, hxr⟩
      · obtain ⟨e0, he0, hev⟩ := List.mem_map.1 (hit.sub.subset hmem)
        obtain ⟨q', x⟩ := e0
        simp only [Prod.mk.injEq] at hev
        obtain ⟨rfl, rfl⟩ := hev
        have hml : itLeft w' r m < itLeft wr r m := by
          rw [hit.left, hit'.left]; exact mdel_length hmem
        have hxw : Ext w w' := hxr.next hkp (fun i hi e => by subst e; omega)
        have hrelF : blk who p (q', x) = false → ∀ w4, Ext w' w4 → BlkRel w m r st who p w4 ∧ itLeft w4 r m < itLeft wr r m := by
          intro hb w4 h4
          refine ⟨⟨_, hit'.ext h4, hxw.ext h4, fun e he hn => ?_⟩, by rw [(hit'.ext h4).left, ← hit'.left]; exact hml⟩
          by_cases hq : e.1 = q'
          · have : e = (q', x) := by
              have hnd := hit.map.nodup
              have h1 := mget_of_mem (by simpa using hnd) (List.mem_map.2 ⟨e, he, rfl⟩ : (e.1, Value.int .i64 e.2) ∈ stV st)
              have h2 := mget_of_mem (by simpa using hnd) (List.mem_map.2 ⟨(q', x), he0, rfl⟩ : (q', Value.int .i64 x) ∈ stV st)
              rw [hq, h2] at h1
              simp only [Option.some.injEq, Value.int.injEq, true_and] at h1
              rw [h1, ← hq]
            rw [this]; exact hb
          · refine hdone e he (fun hin => hn ?_)
            exact List.mem_filter.2 ⟨hin, by simpa using fun e => hq e.symm⟩
        have hresT : blk who p (q', x) = true → blocksL st who p = true := by
          intro hb
          unfold blocksL
          rw [show goodB p = true from HG.out, Bool.true_and, List.any_eq_true]
          exact ⟨_, he0, hb⟩
        have HF := Lib.hid hrelF
        have HT := Lib.hid hresT
        have hqs : q'.size ≤ maxLen := by have := h.small _ he0; unfold maxLen; simp at this; omega
        have HCON := Lib.hid (Parent_any q' w' (hG.ext hxw) hqs)
        clear hdone hit hit' hmem he0 hrelF hresT hkp hml hqs
        by_cases hwho : x = who
        · have hb : blk who p (q', x) = false := by simp [blk, hwho]
          have HBK := Lib.hid hb
          have hw' : (x == who) = true := by simpa using hwho
          clear hwho hb
          go_wp2_with (go_at_call 26; refine HCON.out.mono ?_; rintro e w4 ⟨rfl, hx4⟩)
          go_light
          exact HF.out HBK.out _ (Kp.refl _ _)
        · have hw' : (x == who) = false := by simpa using hwho
          have hbk : blk who p (q', x) = (decide (q' = p) || (decide (q' = optS (upB p)) || ((upB q').isSome && decide (optS (upB q') = p)))) := by simp [blk, hwho]
          have a1 := str_eq q' p
          have a2 := str_eq q' (optS (parentL p.data.toList))
          have a3 := str_eq (optS (parentL q'.data.toList)) p
          have HBK := Lib.hid hbk
          clear hbk hwho
          cases hA : decide (q' = p) with
          | true =>
            rw [hA] at a1
            have HBT : Hid (blk who p (q', x) = true) := by show blk who p (q', x) = true; rw [HBK.out, hA]; simp
            clear hA a2 a3
            go_wp2_with (go_at_call 26; refine HCON.out.mono ?_; rintro e w4 ⟨rfl, hx4⟩)
            go_ret
            go_light
            exact ⟨ret_bool (HT.out HBT.out).symm, hxw.ext hx4⟩
          | false =>
            rw [hA] at a1
            cases hB : decide (q' = optS (upB p)) with
            | true =>
              rw [show decide (q' = optS (parentL p.data.toList)) = true from hB] at a2
              have HBT : Hid (blk who p (q', x) = true) := by show blk who p (q', x) = true; rw [HBK.out, hA, hB]; simp
              clear hA hB a3
              go_wp2_with (go_at_call 26; refine HCON.out.mono ?_; rintro e w4 ⟨rfl, hx4⟩)
              go_ret
              go_light
              exact ⟨ret_bool (HT.out HBT.out).symm, hxw.ext hx4⟩
            | false =>
              rw [show decide (q' = optS (parentL p.data.toList)) = false from hB] at a2
              cases hC : (upB q').isSome with
              | false =>
                have hC' : (parentL q'.data.toList).isSome = false := hC
                have HBT : Hid (blk who p (q', x) = false) := by show blk who p (q', x) = false; rw [HBK.out, hA, hB, hC]; simp
                clear hA hB hC a3
                go_wp2_with (go_at_call 26; refine HCON.out.mono ?_; rintro e w4 ⟨rfl, hx4⟩; rw [hC'])
                go_light
                exact HF.out HBT.out _ hx4
              | true =>
                have hC' : (parentL q'.data.toList).isSome = true := hC
                cases hD : decide (optS (upB q') = p) with
                | false =>
                  rw [show decide (optS (parentL q'.data.toList) = p) = false from hD] at a3
                  have HBT : Hid (blk who p (q', x) = false) := by show blk who p (q', x) = false; rw [HBK.out, hA, hB, hC, hD]; simp
                  clear hA hB hC hD
                  go_wp2_with (go_at_call 26; refine HCON.out.mono ?_; rintro e w4 ⟨rfl, hx4⟩; rw [hC'])
                  go_light
                  exact HF.out HBT.out _ hx4
                | true =>
                  rw [show decide (optS (parentL q'.data.toList) = p) = true from hD] at a3
                  have HBT : Hid (blk who p (q', x) = true) := by show blk who p (q', x) = true; rw [HBK.out, hA, hB, hC, hD]; simp
                  clear hA hB hC hD
                  go_wp2_with (go_at_call 26; refine HCON.out.mono ?_; rintro e w4 ⟨rfl, hx4⟩; rw [hC'])
                  go_ret
                  go_light
                  exact ⟨ret_bool (HT.out HBT.out).symm, hxw.ext hx4⟩
  · have HG : Hid (goodL p.data.toList = false) := by show goodL p.data.toList = false; simpa using hg
    clear hg
    go_enter Tryd.func16, Tryd.ntmps16
    go_wp2_with (fail)
    refine HGd.out.mono ?_
    rintro e w1 ⟨rfl, hx1⟩
    rw [HG.out]
    go_wp2_with (fail)
    go_ret
    exact ⟨ret_bool (by simp [blocksL, HG.out]), hx1⟩
end Go.Proofs.YtdaoamnemkiloaaDoor
