/- Walks of package aviaryref1: the reader. -/
import Derived.Test.YtlcbllgmnbhphaaDoorAvWText
import Derived.Test.YtlcbllgmnbhphaaDoorAvDag
import Derived.Test.YtlcbllgmnbhphaaDoorAvCut
namespace Go.Proofs.YtlcbllgmnbhphaaDoor
set_option maxRecDepth 100000
open Go.RowKit Av

theorem conv_bytes {W : World} {v : Value} {bs : Bs} (h : BytesR W v bs) : (convert 25 9 v).run Tryd.prog W = .ok (.string (mkS bs)) W := by
  obtain ⟨a, c, rfl, _, _, hop⟩ := BytesR.open h
  have := conv_any W a bs.length c bs (Nat.le_refl _) (fun h => by obtain ⟨b, off, e, _, hc⟩ := hop h; exact ⟨b, off, e, hc⟩)
  rwa [List.take_length] at this
theorem _root_.Av.BytesR.kpn {S : Nat → Prop} {w w' : World} {v : Value} {bs : List UInt8} (h : BytesR w v bs) (k : Kp S w w') (hs : bs ≠ [] → ∀ b, v.ownBlock = some b → b < w.heap.size → ¬ S b) : BytesR w' v bs := by
  by_cases h0 : bs = []
  · subst h0
    obtain ⟨a, c, rfl, hcc, _⟩ := BytesR.open h
    exact ⟨⟨rfl, Nat.zero_le _, a, c, rfl, hcc, .inl rfl⟩, h.2⟩
  · exact h.kp k (hs h0)
/-- A reader of the reference at block g, over bs: what is left, or that something was not there. -/
def RRAt (w : World) (g : Nat) (bs : Bs) (s : Rd) : Prop :=
  ∃ (v : Value) (k : Nat), k ≤ bs.length ∧ bs.length ≤ 1000000000 ∧ Blk w g #[v, .int .i64 k, .bool s.isNone] 52 ∧ BytesR w v bs ∧ (bs ≠ [] → ∀ b, v.ownBlock = some b → b < g) ∧ ∀ l, s = some l → l = bs.drop k
theorem RRAt.kp {S : Nat → Prop} {w w' : World} {g : Nat} {bs : Bs} {s : Rd} (h : RRAt w g bs s) (k : Kp S w w') (hg : ¬ S g) (hS : ∀ i, i < g → S i → False) : RRAt w' g bs s := by
  obtain ⟨v, n, h0, h0', h1, h2, h3, h4⟩ := h
  exact ⟨v, n, h0, h0', h1.kp k hg, h2.kpn k (fun hne b hb _ hs => hS b (h3 hne b hb) hs), h3, h4⟩
theorem RRAt.ext {w w' : World} {g : Nat} {bs : Bs} {s : Rd} (h : RRAt w g bs s) (k : Ext w w') : RRAt w' g bs s := h.kp k (fun f => f) (fun _ _ f => f)
theorem RRAt.lt {w : World} {g : Nat} {bs : Bs} {s : Rd} (h : RRAt w g bs s) : g < w.heap.size := by obtain ⟨v, n, _, _, h1, _⟩ := h; exact h1.lt
/-- What it holds, laid open. -/
structure RRO (w : World) (g : Nat) (bs : Bs) (k : Nat) (bad : Bool) (a : Option Addr) (c : Nat) : Prop where
  blk : Blk w g #[.slice a bs.length c, .int .i64 k, .bool bad] 52
  bytes : BytesR w (.slice a bs.length c) bs
  own : bs ≠ [] → ∀ b, (Value.slice a bs.length c).ownBlock = some b → b < g
  le : k ≤ bs.length
  small : bs.length ≤ 1000000000
  cap : bs.length ≤ c
theorem RRAt.open {w : World} {g : Nat} {bs : Bs} {s : Rd} (h : RRAt w g bs s) : ∃ k a c, RRO w g bs k s.isNone a c ∧ ∀ l, s = some l → l = bs.drop k := by
  obtain ⟨v, k, h0, h0', h1, h2, h3, h4⟩ := h
  obtain ⟨a, c, rfl, hc, _⟩ := BytesR.open h2
  exact ⟨k, a, c, ⟨h1, h2, h3, h0, h0', hc⟩, h4⟩
theorem RRO.kp {S : Nat → Prop} {w w' : World} {g k c : Nat} {bs : Bs} {bad : Bool} {a : Option Addr} (h : RRO w g bs k bad a c) (kp : Kp S w w') (hg : ¬ S g) (hS : ∀ i, i < g → S i → False) : RRO w' g bs k bad a c :=
  ⟨h.blk.kp kp hg, h.bytes.kpn kp (fun hne b hb _ hs => hS b (h.own hne b hb) hs), h.own, h.le, h.small, h.cap⟩
theorem RRO.ext {w w' : World} {g k c : Nat} {bs : Bs} {bad : Bool} {a : Option Addr} (h : RRO w g bs k bad a c) (kp : Ext w w') : RRO w' g bs k bad a c := h.kp kp (fun f => f) (fun _ _ f => f)
theorem RRO.shut {w : World} {g k c : Nat} {bs : Bs} {a : Option Addr} (h : RRO w g bs k false a c) : RRAt w g bs (some (bs.drop k)) := ⟨_, k, h.le, h.small, h.blk, h.bytes, h.own, fun _ hl => (Option.some.inj hl).symm⟩
theorem RRO.lost {w : World} {g k c : Nat} {bs : Bs} {a : Option Addr} (h : RRO w g bs k true a c) : RRAt w g bs none := ⟨_, k, h.le, h.small, h.blk, h.bytes, h.own, fun _ hl => by cases hl⟩
theorem RRO.bad {w : World} {g k c : Nat} {bs : Bs} {b : Bool} {a : Option Addr} (h : RRO w g bs k b a c) : RRAt (w.setCell ⟨g, 2, none⟩ (.bool true)) g bs none ∧ Kp (fun i => i = g) w (w.setCell ⟨g, 2, none⟩ (.bool true)) := by
  have hk : Kp (fun i => i = g) w (w.setCell ⟨g, 2, none⟩ (.bool true)) := Kp.set1 (Kp.refl (fun i => i = g) w) g 2 _ rfl
  refine ⟨RRO.lost (k := k) (a := a) (c := c) ⟨h.blk.set 2 _, h.bytes.kpn hk (fun hne b hb _ e => by have := h.own hne b hb; omega), h.own, h.le, h.small, h.cap⟩, hk⟩
theorem RRO.move {w : World} {g k c : Nat} {bs : Bs} {a : Option Addr} (h : RRO w g bs k false a c) (k' : Nat) (hk : k' ≤ bs.length) : RRAt (w.setCell ⟨g, 1, none⟩ (.int .i64 k')) g bs (some (bs.drop k')) ∧ Kp (fun i => i = g) w (w.setCell ⟨g, 1, none⟩ (.int .i64 k')) := by
  have hkp : Kp (fun i => i = g) w (w.setCell ⟨g, 1, none⟩ (.int .i64 k')) := Kp.set1 (Kp.refl (fun i => i = g) w) g 1 _ rfl
  exact ⟨RRO.shut (a := a) (c := c) ⟨h.blk.set 1 _, h.bytes.kpn hkp (fun hne b hb _ e => by have := h.own hne b hb; omega), h.own, hk, h.small, h.cap⟩, hkp⟩
/-- Its cells, in each later world. -/
theorem RRO.cells {w : World} {g k c : Nat} {bs : Bs} {bad : Bool} {a : Option Addr} (h : RRO w g bs k bad a c) {W : World} (hx : Ext w W) : (W.cell? ⟨g, 0, none⟩ = some (.slice a bs.length c) ∧ W.cell? ⟨g, 1, none⟩ = some (.int .i64 k) ∧ W.cell? ⟨g, 2, none⟩ = some (.bool bad)) ∧ W.frozen? ⟨g, 1, none⟩ = false ∧ W.frozen? ⟨g, 2, none⟩ = false :=
  ⟨⟨(h.blk.kp hx (fun f => f)).cell 0 _ rfl, (h.blk.kp hx (fun f => f)).cell 1 _ rfl, (h.blk.kp hx (fun f => f)).cell 2 _ rfl⟩, (h.blk.kp hx (fun f => f)).free 1, (h.blk.kp hx (fun f => f)).free 2⟩

def GetRelR (w : World) (l : Bs) (u i : Value) (wr : World) : Prop :=
  ∃ j : Nat, j ≤ 8 ∧ i = .int .i64 j ∧ u = .int .u64 (fold8 (l.take j) : Nat) ∧ Ext w wr
set_option maxHeartbeats 1600000 in
theorem rrI64_any (g : Nat) (bs : Bs) (s : Rd) (w : World) (h : RRAt w g bs s) :
    Calls Tryd.prog 23 #[.pointer (some ⟨g, 0, none⟩)] w fun e w' => e = .returned (.int .i64 (rdI s).1) ∧ RRAt w' g bs (rdI s).2 ∧ Kp (fun i => i = g) w w' := by
  obtain ⟨k, a, c, ho, hl⟩ := h.open
  have hk := ho.le
  have hsm := ho.small
  clear h
  cases s with
  | none =>
    have HO := Lib.hid (show RRO w g bs k true a c from ho)
    clear hl ho
    go_enter Tryd.func23, Tryd.ntmps23
    go_wp2_with (fail)
    refine' wp_region_dag0 [(5, .val _), (6, .val _), (7, .val _), (8, .val _), (9, .val _), (10, .val _), (11, .val _), (12, .val _), (13, .val _), (14, .val _), (15, .val _), (16, .val _), (17, .val _), (18, .val _), (19, .val _), (20, .val _), (21, .val _)] ⟨fun _ _ _ _ _ => trivial, ⟨fun _ _ _ _ _ => trivial, ⟨fun _ _ _ _ _ => trivial, ⟨fun _ _ _ _ _ => trivial, ⟨fun _ _ _ _ _ => trivial, ⟨fun _ _ _ _ _ => trivial, ⟨fun _ _ _ _ _ => trivial, ⟨fun _ _ _ _ _ => trivial, ⟨fun _ _ _ _ _ => trivial, ⟨fun _ _ _ _ _ => trivial, ⟨fun _ _ _ _ _ => trivial, ⟨fun _ _ _ _ _ => trivial, ⟨fun _ _ _ _ _ => trivial, ⟨fun _ _ _ _ _ => trivial, ⟨fun _ _ _ _ _ => trivial, ⟨fun _ _ _ _ _ => trivial, ⟨fun _ _ _ _ _ => trivial, trivial⟩⟩⟩⟩⟩⟩⟩⟩⟩⟩⟩⟩⟩⟩⟩⟩⟩ (by kernel_rfl) (by kernel_rfl) (by kernel_rfl) (WpD.out ?_)
    rotate_left 17
    repeat (first
      | (refine wpD_skipv ?_ ?_ ?_
         focus rfl
         focus rfl
         simp only [Act.put, List.setIfInBounds_toArray, List.set_cons_succ, List.set_cons_zero])
      | (refine' wpD_val (c := _) ?_ (fun w => Kp.refl _ w) ?_ (fun wq hwq hfq => ?_) ?_
         rotate_left
         focus rfl
         focus rfl
         focus (have cs := (HO.out.cells hwq).1; obtain ⟨d0, d1, d2⟩ := cs; go_simp; first | done | rfl)
         simp only [Act.put, List.setIfInBounds_toArray, List.set_cons_succ, List.set_cons_zero])
      | (refine' wpD_con (c := _) ?_ ?_ (fun wq hwq hfq => ?_) ?_
         rotate_left
         focus rfl
         focus rfl
         focus (have cs := (HO.out.cells hwq).1; obtain ⟨d0, d1, d2⟩ := cs; go_simp; (try (rw [dUpon_enter])); fail)
         simp only [Act.put, List.setIfInBounds_toArray, List.set_cons_succ, List.set_cons_zero])
      | fail)
    refine wpD_nil ?_
    intro w1 hx1 _
    obtain ⟨⟨d0, d1, d2⟩, f1, f2⟩ := HO.out.cells hx1
    have HX := Lib.hid hx1
    clear hx1
    go_wp2_with (fail)
    go_ret
    go_light
    have hb := (HO.out.ext HX.out).bad
    exact ⟨rfl, hb.1, HX.out.kp.trans hb.2⟩
  | some l =>
    obtain rfl := hl l rfl
    have HO := Lib.hid (show RRO w g bs k false a c from ho)
    clear hl ho
    have hw1 : IntKind.i64.wrap ((bs.length : Int) - k) = (bs.length : Int) - k := IntWalk.i64_in _ (by omega)
    by_cases h8 : 8 ≤ (bs.drop k).length
    · have hlk : k + 8 ≤ bs.length := by rw [List.length_drop] at h8; omega
      have hd : decide ((bs.length : Int) - k < 8) = false := by simp; omega
      have HR : Hid (rdI (some (bs.drop k)) = (un8 ((bs.drop k).take 8), some (bs.drop (k + 8)))) := by
        show (if 8 ≤ (bs.drop k).length then (un8 ((bs.drop k).take 8), some ((bs.drop k).drop 8)) else (0, none)) = _
        rw [if_pos h8, List.drop_drop]
      obtain ⟨b, off, rfl, hb, hc⟩ : ∃ b off, a = some ⟨b, off, none⟩ ∧ b < w.heap.size ∧ ∀ i (hi : i < bs.length), w.cell? ⟨b, off + i, none⟩ = some (byteV bs[i]) := by
        obtain ⟨a', c', e, _, _, hop⟩ := BytesR.open HO.out.bytes
        obtain ⟨b, off, e2, hb, hc⟩ := hop (by omega)
        simp only [Value.slice.injEq] at e
        obtain ⟨rfl, _, rfl⟩ := e
        exact ⟨b, off, e2, hb, hc⟩
      have HC := Lib.hid hc
      have HW1 := Lib.hid hw1
      have H8 := Lib.hid h8
      clear hc hw1 h8
      go_enter Tryd.func23, Tryd.ntmps23
      go_wp2_with (fail)
      refine' wp_region_dag0 [(5, .val _), (6, .val _), (7, .val _), (8, .val _), (9, .val _), (10, .val _), (11, .val _), (12, .val _), (13, .val _), (14, .val _), (15, .val _), (16, .val _), (17, .val _), (18, .val _), (19, .val _), (20, .val _), (21, .val _)] ⟨fun _ _ _ _ _ => trivial, ⟨fun _ _ _ _ _ => trivial, ⟨fun _ _ _ _ _ => trivial, ⟨fun _ _ _ _ _ => trivial, ⟨fun _ _ _ _ _ => trivial, ⟨fun _ _ _ _ _ => trivial, ⟨fun _ _ _ _ _ => trivial, ⟨fun _ _ _ _ _ => trivial, ⟨fun _ _ _ _ _ => trivial, ⟨fun _ _ _ _ _ => trivial, ⟨fun _ _ _ _ _ => trivial, ⟨fun _ _ _ _ _ => trivial, ⟨fun _ _ _ _ _ => trivial, ⟨fun _ _ _ _ _ => trivial, ⟨fun _ _ _ _ _ => trivial, ⟨fun _ _ _ _ _ => trivial, ⟨fun _ _ _ _ _ => trivial, trivial⟩⟩⟩⟩⟩⟩⟩⟩⟩⟩⟩⟩⟩⟩⟩⟩⟩ (by kernel_rfl) (by kernel_rfl) (by kernel_rfl) (WpD.out ?_)
      rotate_left 17
      repeat (first
        | (refine wpD_skipv ?_ ?_ ?_
           focus rfl
           focus rfl
           simp only [Act.put, List.setIfInBounds_toArray, List.set_cons_succ, List.set_cons_zero])
        | (refine' wpD_val (c := _) ?_ (fun w => Kp.refl _ w) ?_ (fun wq hwq hfq => ?_) ?_
           rotate_left
           focus rfl
           focus rfl
           focus (have cs := (HO.out.cells hwq).1; obtain ⟨d0, d1, d2⟩ := cs; have e1 := HW1.out; go_simp; first | done | rfl)
           simp only [Act.put, List.setIfInBounds_toArray, List.set_cons_succ, List.set_cons_zero])
        | (refine' wpD_con (c := _) ?_ ?_ (fun wq hwq hfq => ?_) ?_
           rotate_left
           focus rfl
           focus rfl
           focus (have cs := (HO.out.cells hwq).1; obtain ⟨d0, d1, d2⟩ := cs; have e1 := HW1.out; go_simp; (try (rw [dUpon_enter])); fail)
           simp only [Act.put, List.setIfInBounds_toArray, List.set_cons_succ, List.set_cons_zero])
        | fail)
      refine wpD_nil ?_
      intro w1 hx1 _
      have HX := Lib.hid hx1
      clear hx1
      go_wp2_with (fail)
      go_loopw [3, 4] (fun u i wr => GetRelR w (bs.drop k) u i wr) (fun _ i _ => 8 - (intOf i).toNat)
      case atStart => exact ⟨0, by omega, rfl, rfl, HX.out⟩
      case round =>
        obtain ⟨j, hj, rfl, rfl, hxr⟩ := hrel
        by_cases hlt : j < 8
        · have hkl : k + j < bs.length := by omega
          have e2 : IntKind.i64.wrap ((k : Int) + j) = (k : Int) + j := IntWalk.i64_in _ (by omega)
          have e3 : ((k : Int) + j).toNat = k + j := by omega
          have e4 : (0 : Int) ≤ (k : Int) + j := by omega
          have e5 : (k : Int) + j < bs.length := by omega
          have hcell := HC.out (k + j) hkl
          have hdk : j < (bs.drop k).length := by have := H8.out; omega
          unfold byteV at hcell
          have HOB := Lib.hid (or_byte (fold8 ((bs.drop k).take j)) bs[k + j] (fold8_small (bs.drop k) j hlt))
          have hf := fold8_take (bs.drop k) j hdk
          rw [List.getElem_drop] at hf
          have HF := Lib.hid hf
          have HCL := Lib.hid hcell
          have E2 := Lib.hid e2
          have E3 := Lib.hid e3
          have HXR := Lib.hid hxr
          clear hf hcell e2 e3 hxr
          go_wp2_with (fail)
          refine' wp_region_dag0 [(29, .val _), (30, .val _), (31, .val _), (32, .val _), (33, .val _), (34, .val _), (35, .val _), (36, .val _), (37, .val _), (38, .val _), (39, .val _), (40, .val _), (41, .val _), (42, .val _), (43, .val _), (44, .val _), (3, .val _)] ⟨fun _ _ _ _ _ => trivial, ⟨fun _ _ _ _ _ => trivial, ⟨fun _ _ _ _ _ => trivial, ⟨fun _ _ _ _ _ => trivial, ⟨fun _ _ _ _ _ => trivial, ⟨fun _ _ _ _ _ => trivial, ⟨fun _ _ _ _ _ => trivial, ⟨fun _ _ _ _ _ => trivial, ⟨fun _ _ _ _ _ => trivial, ⟨fun _ _ _ _ _ => trivial, ⟨fun _ _ _ _ _ => trivial, ⟨fun _ _ _ _ _ => trivial, ⟨fun _ _ _ _ _ => trivial, ⟨fun _ _ _ _ _ => trivial, ⟨fun _ _ _ _ _ => trivial, ⟨fun _ _ _ _ _ => trivial, ⟨fun _ _ _ _ _ => trivial, trivial⟩⟩⟩⟩⟩⟩⟩⟩⟩⟩⟩⟩⟩⟩⟩⟩⟩ (by kernel_rfl) (by kernel_rfl) (by kernel_rfl) (WpD.out ?_)
          rotate_left 17
          repeat (first
            | (refine wpD_skipv ?_ ?_ ?_
               focus rfl
               focus rfl
               simp only [Act.put, List.setIfInBounds_toArray, List.set_cons_succ, List.set_cons_zero])
            | (refine' wpD_val (c := _) ?_ (fun w => Kp.refl _ w) ?_ (fun wq hwq hfq => ?_) ?_
               rotate_left
               focus rfl
               focus rfl
               focus (have cs := (HO.out.cells (HXR.out.trans hwq)).1; obtain ⟨d0, d1, d2⟩ := cs; have e2 := E2.out; have e3 := E3.out; have hcl := (HXR.out.trans hwq).cell HCL.out (fun f => f); go_simp; first | done | rfl)
               simp only [Act.put, List.setIfInBounds_toArray, List.set_cons_succ, List.set_cons_zero])
            | (refine' wpD_con (c := _) ?_ ?_ (fun wq hwq hfq => ?_) ?_
               rotate_left
               focus rfl
               focus rfl
               focus (have cs := (HO.out.cells (HXR.out.trans hwq)).1; obtain ⟨d0, d1, d2⟩ := cs; have e2 := E2.out; have e3 := E3.out; have hcl := (HXR.out.trans hwq).cell HCL.out (fun f => f); go_simp; (try (rw [dUpon_enter])); fail)
               simp only [Act.put, List.setIfInBounds_toArray, List.set_cons_succ, List.set_cons_zero])
            | fail)
          refine wpD_nil ?_
          intro w2 hx2 _
          have HX2 := Lib.hid (HXR.out.trans hx2)
          clear hx2
          go_wp2_with (fail)
          go_light
          exact ⟨⟨j + 1, by omega, by go_num, by rw [HOB.out, HF.out], HX2.out⟩, by simp [intOf]; omega⟩
        · obtain rfl : j = 8 := by omega
          obtain ⟨⟨d0, d1, d2⟩, f1, f2⟩ := HO.out.cells hxr
          have HXR := Lib.hid hxr
          have hw64 : IntKind.i64.wrap (fold8 ((bs.drop k).take 8) : Nat) = un8 ((bs.drop k).take 8) := by unfold un8; rw [wrap64_eq, IntKind.wrap_i64]
          have HW := Lib.hid hw64
          clear hw64 hxr
          go_wp2_with (fail)
          go_ret
          go_light
          have hm := (HO.out.ext HXR.out).move (k + 8) (by omega)
          rw [HR.out]
          exact ⟨rfl, by simpa using hm.1, HXR.out.kp.trans (by simpa using hm.2)⟩
    · have hd : decide ((bs.length : Int) - k < 8) = true := by rw [List.length_drop] at h8; simp; omega
      have HR : Hid (rdI (some (bs.drop k)) = (0, none)) := by
        show (if 8 ≤ (bs.drop k).length then (un8 ((bs.drop k).take 8), some ((bs.drop k).drop 8)) else (0, none)) = _
        rw [if_neg h8]
      have HW1 := Lib.hid hw1
      clear h8 hw1
      go_enter Tryd.func23, Tryd.ntmps23
      go_wp2_with (fail)
      refine' wp_region_dag0 [(5, .val _), (6, .val _), (7, .val _), (8, .val _), (9, .val _), (10, .val _), (11, .val _), (12, .val _), (13, .val _), (14, .val _), (15, .val _), (16, .val _), (17, .val _), (18, .val _), (19, .val _), (20, .val _), (21, .val _)] ⟨fun _ _ _ _ _ => trivial, ⟨fun _ _ _ _ _ => trivial, ⟨fun _ _ _ _ _ => trivial, ⟨fun _ _ _ _ _ => trivial, ⟨fun _ _ _ _ _ => trivial, ⟨fun _ _ _ _ _ => trivial, ⟨fun _ _ _ _ _ => trivial, ⟨fun _ _ _ _ _ => trivial, ⟨fun _ _ _ _ _ => trivial, ⟨fun _ _ _ _ _ => trivial, ⟨fun _ _ _ _ _ => trivial, ⟨fun _ _ _ _ _ => trivial, ⟨fun _ _ _ _ _ => trivial, ⟨fun _ _ _ _ _ => trivial, ⟨fun _ _ _ _ _ => trivial, ⟨fun _ _ _ _ _ => trivial, ⟨fun _ _ _ _ _ => trivial, trivial⟩⟩⟩⟩⟩⟩⟩⟩⟩⟩⟩⟩⟩⟩⟩⟩⟩ (by kernel_rfl) (by kernel_rfl) (by kernel_rfl) (WpD.out ?_)
      rotate_left 17
      repeat (first
        | (refine wpD_skipv ?_ ?_ ?_
           focus rfl
           focus rfl
           simp only [Act.put, List.setIfInBounds_toArray, List.set_cons_succ, List.set_cons_zero])
        | (refine' wpD_val (c := _) ?_ (fun w => Kp.refl _ w) ?_ (fun wq hwq hfq => ?_) ?_
           rotate_left
           focus rfl
           focus rfl
           focus (have cs := (HO.out.cells hwq).1; obtain ⟨d0, d1, d2⟩ := cs; have e1 := HW1.out; go_simp; first | done | rfl)
           simp only [Act.put, List.setIfInBounds_toArray, List.set_cons_succ, List.set_cons_zero])
        | (refine' wpD_con (c := _) ?_ ?_ (fun wq hwq hfq => ?_) ?_
           rotate_left
           focus rfl
           focus rfl
           focus (have cs := (HO.out.cells hwq).1; obtain ⟨d0, d1, d2⟩ := cs; have e1 := HW1.out; go_simp; (try (rw [dUpon_enter])); fail)
           simp only [Act.put, List.setIfInBounds_toArray, List.set_cons_succ, List.set_cons_zero])
        | fail)
      refine wpD_nil ?_
      intro w1 hx1 _
      obtain ⟨⟨d0, d1, d2⟩, f1, f2⟩ := HO.out.cells hx1
      have HX := Lib.hid hx1
      clear hx1
      go_wp2_with (fail)
      go_ret
      go_light
      have hb := (HO.out.ext HX.out).bad
      rw [HR.out]
      exact ⟨rfl, hb.1, HX.out.kp.trans hb.2⟩

theorem rdI_64 (s : Rd) : I64 (rdI s).1 := by
  cases s with
  | none => exact ⟨by decide, by decide⟩
  | some l =>
    show I64 (if 8 ≤ l.length then (un8 (l.take 8), some (l.drop 8)) else (0, none)).1
    split
    · rename_i h8; exact (be8_un8 _ (by simp; omega)).2
    · exact ⟨by decide, by decide⟩
theorem rdI_bad {s : Rd} (h : (rdI s).2 = none) : (rdI s).1 = 0 := by
  cases s with
  | none => rfl
  | some l =>
    change (if 8 ≤ l.length then (un8 (l.take 8), some (l.drop 8)) else (0, none)).2 = none at h
    change (if 8 ≤ l.length then (un8 (l.take 8), some (l.drop 8)) else (0, none)).1 = 0
    split at h
    · cases h
    · rename_i h8; rw [if_neg h8]
set_option maxHeartbeats 800000 in
theorem rrCount_any (g : Nat) (bs : Bs) (s : Rd) (most : Int) (w : World) (hm0 : 0 ≤ most) (h : RRAt w g bs s) :
    Calls Tryd.prog 24 #[.pointer (some ⟨g, 0, none⟩), .int .i64 most] w fun e w' => e = .returned (.int .i64 (rdC most s).1) ∧ RRAt w' g bs (rdC most s).2 ∧ Kp (fun i => i = g) w w' := by
  have HI := Lib.hid (rrI64_any g bs s w h)
  obtain ⟨i0, i1⟩ := rdI_64 s
  have hz := @rdI_bad s
  have HC : Hid (rdC most s = if (rdI s).1 < 0 ∨ most < (rdI s).1 then (0, none) else rdI s) := rfl
  obtain ⟨⟨v, s'⟩, hv⟩ : ∃ p, rdI s = p := ⟨_, rfl⟩
  rw [hv] at HI HC i0 i1 hz
  simp only at HI i0 i1 hz
  clear hv h
  cases s' with
  | none =>
    obtain rfl := hz rfl
    have HR : Hid (rdC most s = (0, none)) := by show _ = _; rw [HC.out]; split <;> rfl
    clear hz HC
    go_enter Tryd.func24, Tryd.ntmps24
    go_wp2_with (fail)
    refine (HI.out).mono ?_
    rintro e w1 ⟨rfl, hr, hk⟩
    obtain ⟨k, a, c, ho, _⟩ := hr.open
    have ho' : RRO w1 g bs k true a c := ho
    obtain ⟨⟨d0, d1, d2⟩, f1, f2⟩ := ho'.cells (Kp.refl _ w1)
    have HO := Lib.hid ho'
    have HK := Lib.hid hk
    clear hr ho ho' hk
    go_wp2_with (fail)
    go_ret
    go_light
    have hb := HO.out.bad
    rw [HR.out]
    exact ⟨rfl, hb.1, HK.out.trans hb.2⟩
  | some l =>
    clear hz
    by_cases hc : v < 0 ∨ most < v
    · have HR : Hid (rdC most s = (0, none)) := by show _ = _; rw [HC.out, if_pos hc]
      clear HC
      rcases hc with hc | hc
      all_goals
        go_enter Tryd.func24, Tryd.ntmps24
        go_wp2_with (fail)
        refine (HI.out).mono ?_
        rintro e w1 ⟨rfl, hr, hk⟩
        obtain ⟨k, a, c, ho, _⟩ := hr.open
        have ho' : RRO w1 g bs k false a c := ho
        obtain ⟨⟨d0, d1, d2⟩, f1, f2⟩ := ho'.cells (Kp.refl _ w1)
        have HO := Lib.hid ho'
        have HK := Lib.hid hk
        clear hr ho ho' hk
        go_wp2_with (fail)
        go_ret
        go_light
        have hb := HO.out.bad
        rw [HR.out]
        exact ⟨rfl, hb.1, HK.out.trans hb.2⟩
    · have HR : Hid (rdC most s = (v, some l)) := by show _ = _; rw [HC.out, if_neg hc]
      have c1 : 0 ≤ v := by omega
      have c2 : v ≤ most := by omega
      clear HC hc
      go_enter Tryd.func24, Tryd.ntmps24
      go_wp2_with (fail)
      refine (HI.out).mono ?_
      rintro e w1 ⟨rfl, hr, hk⟩
      have HRR := Lib.hid hr
      obtain ⟨k, a, c, ho, _⟩ := hr.open
      have ho' : RRO w1 g bs k false a c := ho
      obtain ⟨⟨d0, d1, d2⟩, f1, f2⟩ := ho'.cells (Kp.refl _ w1)
      have HK := Lib.hid hk
      clear hr ho ho' hk
      go_wp2_with (fail)
      go_ret
      go_light
      rw [HR.out]
      exact ⟨rfl, HRR.out, HK.out⟩

set_option maxHeartbeats 800000 in
theorem rrEnd_any (g : Nat) (bs : Bs) (s : Rd) (w : World) (h : RRAt w g bs s) :
    Calls Tryd.prog 26 #[.pointer (some ⟨g, 0, none⟩)] w fun e w' => e = .returned (.bool (decide (s = some []))) ∧ Ext w w' := by
  obtain ⟨k, a, c, ho, hl⟩ := h.open
  have hk := ho.le
  clear h
  cases s with
  | none =>
    have HO := Lib.hid (show RRO w g bs k true a c from ho)
    clear hl ho
    go_enter Tryd.func26, Tryd.ntmps26
    go_wp2_with (fail)
    refine' wp_region_dag0 [(3, .val _), (4, .val _), (5, .val _), (6, .val _), (7, .val _), (8, .val _), (9, .val _), (10, .val _), (11, .val _), (12, .val _), (13, .val _), (14, .val _), (15, .val _), (16, .val _), (17, .val _), (18, .val _), (19, .val _), (2, .val _)] ⟨fun _ _ _ _ _ => trivial, ⟨fun _ _ _ _ _ => trivial, ⟨fun _ _ _ _ _ => trivial, ⟨fun _ _ _ _ _ => trivial, ⟨fun _ _ _ _ _ => trivial, ⟨fun _ _ _ _ _ => trivial, ⟨fun _ _ _ _ _ => trivial, ⟨fun _ _ _ _ _ => trivial, ⟨fun _ _ _ _ _ => trivial, ⟨fun _ _ _ _ _ => trivial, ⟨fun _ _ _ _ _ => trivial, ⟨fun _ _ _ _ _ => trivial, ⟨fun _ _ _ _ _ => trivial, ⟨fun _ _ _ _ _ => trivial, ⟨fun _ _ _ _ _ => trivial, ⟨fun _ _ _ _ _ => trivial, ⟨fun _ _ _ _ _ => trivial, ⟨fun _ _ _ _ _ => trivial, trivial⟩⟩⟩⟩⟩⟩⟩⟩⟩⟩⟩⟩⟩⟩⟩⟩⟩⟩ (by kernel_rfl) (by kernel_rfl) (by kernel_rfl) (WpD.out ?_)
    rotate_left 18
    repeat (first
      | (refine wpD_skipv ?_ ?_ ?_
         focus rfl
         focus rfl
         simp only [Act.put, List.setIfInBounds_toArray, List.set_cons_succ, List.set_cons_zero])
      | (refine' wpD_val (c := _) ?_ (fun w => Kp.refl _ w) ?_ (fun wq hwq hfq => ?_) ?_
         rotate_left
         focus rfl
         focus rfl
         focus (have cs := (HO.out.cells hwq).1; obtain ⟨d0, d1, d2⟩ := cs; go_simp; first | done | rfl)
         simp only [Act.put, List.setIfInBounds_toArray, List.set_cons_succ, List.set_cons_zero])
      | (refine' wpD_con (c := _) ?_ ?_ (fun wq hwq hfq => ?_) ?_
         rotate_left
         focus rfl
         focus rfl
         focus (have cs := (HO.out.cells hwq).1; obtain ⟨d0, d1, d2⟩ := cs; go_simp; (try (rw [dUpon_enter])); fail)
         simp only [Act.put, List.setIfInBounds_toArray, List.set_cons_succ, List.set_cons_zero])
      | fail)
    refine wpD_nil ?_
    intro w1 hx1 _
    go_wp2_with (fail)
    go_ret
    go_light
    exact ⟨rfl, hx1⟩
  | some l =>
    obtain rfl := hl l rfl
    have HO := Lib.hid (show RRO w g bs k false a c from ho)
    have HR : Hid (decide ((some (bs.drop k) : Rd) = some []) = ((k : Int) == bs.length)) := by
      show _ = _
      rw [Bool.eq_iff_iff]
      simp only [decide_eq_true_eq, Option.some.injEq, List.drop_eq_nil_iff, beq_iff_eq]
      omega
    clear hl ho
    go_enter Tryd.func26, Tryd.ntmps26
    go_wp2_with (fail)
    refine' wp_region_dag0 [(3, .val _), (4, .val _), (5, .val _), (6, .val _), (7, .val _), (8, .val _), (9, .val _), (10, .val _), (11, .val _), (12, .val _), (13, .val _), (14, .val _), (15, .val _), (16, .val _), (17, .val _), (18, .val _), (19, .val _), (2, .val _)] ⟨fun _ _ _ _ _ => trivial, ⟨fun _ _ _ _ _ => trivial, ⟨fun _ _ _ _ _ => trivial, ⟨fun _ _ _ _ _ => trivial, ⟨fun _ _ _ _ _ => trivial, ⟨fun _ _ _ _ _ => trivial, ⟨fun _ _ _ _ _ => trivial, ⟨fun _ _ _ _ _ => trivial, ⟨fun _ _ _ _ _ => trivial, ⟨fun _ _ _ _ _ => trivial, ⟨fun _ _ _ _ _ => trivial, ⟨fun _ _ _ _ _ => trivial, ⟨fun _ _ _ _ _ => trivial, ⟨fun _ _ _ _ _ => trivial, ⟨fun _ _ _ _ _ => trivial, ⟨fun _ _ _ _ _ => trivial, ⟨fun _ _ _ _ _ => trivial, ⟨fun _ _ _ _ _ => trivial, trivial⟩⟩⟩⟩⟩⟩⟩⟩⟩⟩⟩⟩⟩⟩⟩⟩⟩⟩ (by kernel_rfl) (by kernel_rfl) (by kernel_rfl) (WpD.out ?_)
    rotate_left 18
    repeat (first
      | (refine wpD_skipv ?_ ?_ ?_
         focus rfl
         focus rfl
         simp only [Act.put, List.setIfInBounds_toArray, List.set_cons_succ, List.set_cons_zero])
      | (refine' wpD_val (c := _) ?_ (fun w => Kp.refl _ w) ?_ (fun wq hwq hfq => ?_) ?_
         rotate_left
         focus rfl
         focus rfl
         focus (have cs := (HO.out.cells hwq).1; obtain ⟨d0, d1, d2⟩ := cs; go_simp; first | done | rfl)
         simp only [Act.put, List.setIfInBounds_toArray, List.set_cons_succ, List.set_cons_zero])
      | (refine' wpD_con (c := _) ?_ ?_ (fun wq hwq hfq => ?_) ?_
         rotate_left
         focus rfl
         focus rfl
         focus (have cs := (HO.out.cells hwq).1; obtain ⟨d0, d1, d2⟩ := cs; go_simp; (try (rw [dUpon_enter])); fail)
         simp only [Act.put, List.setIfInBounds_toArray, List.set_cons_succ, List.set_cons_zero])
      | fail)
    refine wpD_nil ?_
    intro w1 hx1 _
    go_wp2_with (fail)
    go_ret
    go_light
    exact ⟨by rw [HR.out]; rfl, hx1⟩

set_option maxHeartbeats 1600000 in
theorem rrText_any (g : Nat) (bs : Bs) (s : Rd) (most : Int) (w : World) (hm0 : 0 ≤ most) (h : RRAt w g bs s) :
    Calls Tryd.prog 25 #[.pointer (some ⟨g, 0, none⟩), .int .i64 most] w fun e w' => e = .returned (.string ⟨(rdT most s).1.toArray⟩) ∧ RRAt w' g bs (rdT most s).2 ∧ Kp (fun i => i = g) w w' := by
  have HC := Lib.hid (rrCount_any g bs s most w hm0 h)
  clear h
  obtain ⟨⟨v, s'⟩, hv⟩ : ∃ p, rdC most s = p := ⟨_, rfl⟩
  rw [hv] at HC
  simp only at HC
  cases s' with
  | none =>
    obtain rfl := rdC_none' hv
    have HR : Hid (rdT most s = ([], none)) := by show _ = _; unfold rdT; rw [hv]
    clear hv
    go_enter Tryd.func25, Tryd.ntmps25
    go_wp2_with (fail)
    refine (HC.out).mono ?_
    rintro e w1 ⟨rfl, hr, hk⟩
    obtain ⟨k, a, c, ho, _⟩ := hr.open
    have HO := Lib.hid (show RRO w1 g bs k true a c from ho)
    have HK := Lib.hid hk
    clear hr ho hk
    go_wp2_with (fail)
    refine' wp_region_dag0 [(10, .val _), (11, .val _), (12, .val _), (13, .val _), (14, .val _), (15, .val _), (16, .val _), (17, .val _), (18, .val _), (19, .val _), (20, .val _), (21, .val _), (22, .val _), (23, .val _), (24, .val _), (25, .val _), (26, .val _), (27, .val _)] ⟨fun _ _ _ _ _ => trivial, ⟨fun _ _ _ _ _ => trivial, ⟨fun _ _ _ _ _ => trivial, ⟨fun _ _ _ _ _ => trivial, ⟨fun _ _ _ _ _ => trivial, ⟨fun _ _ _ _ _ => trivial, ⟨fun _ _ _ _ _ => trivial, ⟨fun _ _ _ _ _ => trivial, ⟨fun _ _ _ _ _ => trivial, ⟨fun _ _ _ _ _ => trivial, ⟨fun _ _ _ _ _ => trivial, ⟨fun _ _ _ _ _ => trivial, ⟨fun _ _ _ _ _ => trivial, ⟨fun _ _ _ _ _ => trivial, ⟨fun _ _ _ _ _ => trivial, ⟨fun _ _ _ _ _ => trivial, ⟨fun _ _ _ _ _ => trivial, ⟨fun _ _ _ _ _ => trivial, trivial⟩⟩⟩⟩⟩⟩⟩⟩⟩⟩⟩⟩⟩⟩⟩⟩⟩⟩ (by kernel_rfl) (by kernel_rfl) (by kernel_rfl) (WpD.out ?_)
    rotate_left 18
    repeat (first
      | (refine wpD_skipv ?_ ?_ ?_
         focus rfl
         focus rfl
         simp only [Act.put, List.setIfInBounds_toArray, List.set_cons_succ, List.set_cons_zero])
      | (refine' wpD_val (c := _) ?_ (fun w => Kp.refl _ w) ?_ (fun wq hwq hfq => ?_) ?_
         rotate_left
         focus rfl
         focus rfl
         focus (have cs := (HO.out.cells hwq).1; obtain ⟨d0, d1, d2⟩ := cs; go_simp; first | done | rfl)
         simp only [Act.put, List.setIfInBounds_toArray, List.set_cons_succ, List.set_cons_zero])
      | (refine' wpD_con (c := _) ?_ ?_ (fun wq hwq hfq => ?_) ?_
         rotate_left
         focus rfl
         focus rfl
         focus (have cs := (HO.out.cells hwq).1; obtain ⟨d0, d1, d2⟩ := cs; go_simp; (try (rw [dUpon_enter])); fail)
         simp only [Act.put, List.setIfInBounds_toArray, List.set_cons_succ, List.set_cons_zero])
      | fail)
    refine wpD_nil ?_
    intro w2 hx2 _
    obtain ⟨⟨d0, d1, d2⟩, f1, f2⟩ := HO.out.cells hx2
    have HX2 := Lib.hid hx2
    clear hx2
    go_wp2_with (fail)
    go_ret
    go_light
    have hb := (HO.out.ext HX2.out).bad
    rw [HR.out]
    exact ⟨rfl, hb.1, (HK.out.ext HX2.out).trans hb.2⟩
  | some l =>
    obtain ⟨n, rfl⟩ : ∃ n : Nat, v = n := ⟨v.toNat, by have := (rdC_some hv).2.2.1; omega⟩
    by_cases hn : l.length < n
    · have HR : Hid (rdT most s = ([], none)) := rdT_few hv hn
      have hn9 : (n : Int) ≤ 9223372036854775807 := (rdC_some hv).2.1.2
      clear hv
      go_enter Tryd.func25, Tryd.ntmps25
      go_wp2_with (fail)
      refine (HC.out).mono ?_
      rintro e w1 ⟨rfl, hr, hk⟩
      obtain ⟨k, a, c, ho, hl⟩ := hr.open
      obtain rfl := hl l rfl
      have hk1 := ho.le
      have hk2 := ho.small
      have HO := Lib.hid (show RRO w1 g bs k false a c from ho)
      have HK := Lib.hid hk
      have HW1 : Hid (IntKind.i64.wrap ((bs.length : Int) - k) = (bs.length : Int) - k) := IntWalk.i64_in _ (by omega)
      have hd : decide ((bs.length : Int) - k < n) = true := by rw [List.length_drop] at hn; simp; omega
      clear hr ho hk hl hn
      go_wp2_with (fail)
      refine' wp_region_dag0 [(10, .val _), (11, .val _), (12, .val _), (13, .val _), (14, .val _), (15, .val _), (16, .val _), (17, .val _), (18, .val _), (19, .val _), (20, .val _), (21, .val _), (22, .val _), (23, .val _), (24, .val _), (25, .val _), (26, .val _), (27, .val _)] ⟨fun _ _ _ _ _ => trivial, ⟨fun _ _ _ _ _ => trivial, ⟨fun _ _ _ _ _ => trivial, ⟨fun _ _ _ _ _ => trivial, ⟨fun _ _ _ _ _ => trivial, ⟨fun _ _ _ _ _ => trivial, ⟨fun _ _ _ _ _ => trivial, ⟨fun _ _ _ _ _ => trivial, ⟨fun _ _ _ _ _ => trivial, ⟨fun _ _ _ _ _ => trivial, ⟨fun _ _ _ _ _ => trivial, ⟨fun _ _ _ _ _ => trivial, ⟨fun _ _ _ _ _ => trivial, ⟨fun _ _ _ _ _ => trivial, ⟨fun _ _ _ _ _ => trivial, ⟨fun _ _ _ _ _ => trivial, ⟨fun _ _ _ _ _ => trivial, ⟨fun _ _ _ _ _ => trivial, trivial⟩⟩⟩⟩⟩⟩⟩⟩⟩⟩⟩⟩⟩⟩⟩⟩⟩⟩ (by kernel_rfl) (by kernel_rfl) (by kernel_rfl) (WpD.out ?_)
      rotate_left 18
      repeat (first
        | (refine wpD_skipv ?_ ?_ ?_
           focus rfl
           focus rfl
           simp only [Act.put, List.setIfInBounds_toArray, List.set_cons_succ, List.set_cons_zero])
        | (refine' wpD_val (c := _) ?_ (fun w => Kp.refl _ w) ?_ (fun wq hwq hfq => ?_) ?_
           rotate_left
           focus rfl
           focus rfl
           focus (have cs := (HO.out.cells hwq).1; obtain ⟨d0, d1, d2⟩ := cs; have e1 := HW1.out; go_simp; first | done | rfl)
           simp only [Act.put, List.setIfInBounds_toArray, List.set_cons_succ, List.set_cons_zero])
        | (refine' wpD_con (c := _) ?_ ?_ (fun wq hwq hfq => ?_) ?_
           rotate_left
           focus rfl
           focus rfl
           focus (have cs := (HO.out.cells hwq).1; obtain ⟨d0, d1, d2⟩ := cs; have e1 := HW1.out; go_simp; (try (rw [dUpon_enter])); fail)
           simp only [Act.put, List.setIfInBounds_toArray, List.set_cons_succ, List.set_cons_zero])
        | fail)
      refine wpD_nil ?_
      intro w2 hx2 _
      obtain ⟨⟨d0, d1, d2⟩, f1, f2⟩ := HO.out.cells hx2
      have HX2 := Lib.hid hx2
      clear hx2
      go_wp2_with (fail)
      go_ret
      go_light
      have hb := (HO.out.ext HX2.out).bad
      rw [HR.out]
      exact ⟨rfl, hb.1, (HK.out.ext HX2.out).trans hb.2⟩
    · have HR : Hid (rdT most s = (l.take n, some (l.drop n))) := rdT_of hv (by omega)
      clear hv
      go_enter Tryd.func25, Tryd.ntmps25
      go_wp2_with (fail)
      refine (HC.out).mono ?_
      rintro e w1 ⟨rfl, hr, hk⟩
      obtain ⟨k, a, c, ho, hl⟩ := hr.open
      obtain rfl := hl l rfl
      have hk1 := ho.le
      have hk2 := ho.small
      have hk3 := ho.cap
      have HO := Lib.hid (show RRO w1 g bs k false a c from ho)
      have HK := Lib.hid hk
      have HW1 : Hid (IntKind.i64.wrap ((bs.length : Int) - k) = (bs.length : Int) - k) := IntWalk.i64_in _ (by omega)
      have hkn : k + n ≤ bs.length := by rw [List.length_drop] at hn; omega
      have hd : decide ((bs.length : Int) - k < n) = false := by simp; omega
      have HW2 : Hid (IntKind.i64.wrap ((k : Int) + n) = (k : Int) + n) := IntWalk.i64_in _ (by omega)
      clear hr ho hk hl hn
      go_wp2_with (fail)
      refine' wp_region_dag0 [(10, .val _), (11, .val _), (12, .val _), (13, .val _), (14, .val _), (15, .val _), (16, .val _), (17, .val _), (18, .val _), (19, .val _), (20, .val _), (21, .val _), (22, .val _), (23, .val _), (24, .val _), (25, .val _), (26, .val _), (27, .val _)] ⟨fun _ _ _ _ _ => trivial, ⟨fun _ _ _ _ _ => trivial, ⟨fun _ _ _ _ _ => trivial, ⟨fun _ _ _ _ _ => trivial, ⟨fun _ _ _ _ _ => trivial, ⟨fun _ _ _ _ _ => trivial, ⟨fun _ _ _ _ _ => trivial, ⟨fun _ _ _ _ _ => trivial, ⟨fun _ _ _ _ _ => trivial, ⟨fun _ _ _ _ _ => trivial, ⟨fun _ _ _ _ _ => trivial, ⟨fun _ _ _ _ _ => trivial, ⟨fun _ _ _ _ _ => trivial, ⟨fun _ _ _ _ _ => trivial, ⟨fun _ _ _ _ _ => trivial, ⟨fun _ _ _ _ _ => trivial, ⟨fun _ _ _ _ _ => trivial, ⟨fun _ _ _ _ _ => trivial, trivial⟩⟩⟩⟩⟩⟩⟩⟩⟩⟩⟩⟩⟩⟩⟩⟩⟩⟩ (by kernel_rfl) (by kernel_rfl) (by kernel_rfl) (WpD.out ?_)
      rotate_left 18
      repeat (first
        | (refine wpD_skipv ?_ ?_ ?_
           focus rfl
           focus rfl
           simp only [Act.put, List.setIfInBounds_toArray, List.set_cons_succ, List.set_cons_zero])
        | (refine' wpD_val (c := _) ?_ (fun w => Kp.refl _ w) ?_ (fun wq hwq hfq => ?_) ?_
           rotate_left
           focus rfl
           focus rfl
           focus (have cs := (HO.out.cells hwq).1; obtain ⟨d0, d1, d2⟩ := cs; have e1 := HW1.out; go_simp; first | done | rfl)
           simp only [Act.put, List.setIfInBounds_toArray, List.set_cons_succ, List.set_cons_zero])
        | (refine' wpD_con (c := _) ?_ ?_ (fun wq hwq hfq => ?_) ?_
           rotate_left
           focus rfl
           focus rfl
           focus (have cs := (HO.out.cells hwq).1; obtain ⟨d0, d1, d2⟩ := cs; have e1 := HW1.out; go_simp; (try (rw [dUpon_enter])); fail)
           simp only [Act.put, List.setIfInBounds_toArray, List.set_cons_succ, List.set_cons_zero])
        | fail)
      refine wpD_nil ?_
      intro w2 hx2 _
      have HX2 := Lib.hid hx2
      clear hx2
      go_wp2_with (fail)
      have P1 : Hid ((0 : Int) ≤ (k : Int) + n ∧ (k : Int) + n ≤ c) := ⟨by omega, by omega⟩
      have P2 : Hid (((k : Int) + n).toNat = k + n) := by show _ = _; omega
      refine' wp_region_dag0 [(31, .val _), (32, .val _), (33, .val _), (34, .val _), (35, .val _), (36, .val _), (37, .val _), (38, .val _), (39, .val _), (40, .val _), (41, .val _), (42, .val _), (43, .val _), (44, .val _), (45, ⟨fun _ => True, fun v w => BytesR w v ((bs.drop k).take n)⟩), (46, .val _), (6, .val _)] ⟨fun _ _ _ _ _ => trivial, ⟨fun _ _ _ _ _ => trivial, ⟨fun _ _ _ _ _ => trivial, ⟨fun _ _ _ _ _ => trivial, ⟨fun _ _ _ _ _ => trivial, ⟨fun _ _ _ _ _ => trivial, ⟨fun _ _ _ _ _ => trivial, ⟨fun _ _ _ _ _ => trivial, ⟨fun _ _ _ _ _ => trivial, ⟨fun _ _ _ _ _ => trivial, ⟨fun _ _ _ _ _ => trivial, ⟨fun _ _ _ _ _ => trivial, ⟨fun _ _ _ _ _ => trivial, ⟨fun _ _ _ _ _ => trivial, ⟨fun _ _ _ hr hv => hv.ext hr, ⟨fun _ _ _ _ _ => trivial, ⟨fun _ _ _ _ _ => trivial, trivial⟩⟩⟩⟩⟩⟩⟩⟩⟩⟩⟩⟩⟩⟩⟩⟩⟩ (by kernel_rfl) (by kernel_rfl) (by kernel_rfl) (WpD.out ?_)
      rotate_left 16
      repeat (first
        | (refine wpD_skipv ?_ ?_ ?_
           focus rfl
           focus rfl
           simp only [Act.put, List.setIfInBounds_toArray, List.set_cons_succ, List.set_cons_zero])
        | (refine' wpD_val (c := _) ?_ (fun w => Kp.refl _ w) ?_ (fun wq hwq hfq => ?_) ?_
           rotate_left
           focus rfl
           focus rfl
           focus (have cs := (HO.out.cells (HX2.out.trans hwq)).1; obtain ⟨d0, d1, d2⟩ := cs; have e2 := HW2.out; (first | have kk := conv_bytes (v := v45) (hfq 45 rfl) | skip); go_simp; first | done | rfl)
           simp only [Act.put, List.setIfInBounds_toArray, List.set_cons_succ, List.set_cons_zero])
        | (refine' wpD_con (c := _) ?_ ?_ (fun wq hwq hfq => ?_) ?_
           rotate_left
           focus rfl
           focus rfl
           focus (have cs := (HO.out.cells (HX2.out.trans hwq)).1; obtain ⟨d0, d1, d2⟩ := cs; have e2 := HW2.out; (first | have kk := conv_bytes (v := v45) (hfq 45 rfl) | skip); go_simp; (try (rw [dUpon_enter])); fail)
           simp only [Act.put, List.setIfInBounds_toArray, List.set_cons_succ, List.set_cons_zero])
        | (refine wpD_made (A := fun _ => True) (V := fun v w => BytesR w v ((bs.drop k).take n)) 45 ?_ ?_ ?_ ?_ (fun wq hwq hfq => ?_) (fun v45 h45 => ?_)
           focus rfl
           focus rfl
           focus (exact ⟨undef, trivial⟩)
           focus rfl
           focus (have cs := (HO.out.cells (HX2.out.trans hwq)).1; obtain ⟨d0, d1, d2⟩ := cs; have e2 := HW2.out; (first | have kk := conv_bytes (v := v45) (hfq 45 rfl) | skip); go_simp; (try (rw [dUpon_enter])); rw [if_pos P1.out, P2.out, if_pos (Nat.le_add_right k n), dUpon_value]; exact mPost trivial (by have := (HO.out.ext (HX2.out.trans hwq)).bytes.cut k (k + n) (by omega) hkn; rw [Nat.add_sub_cancel_left] at this ⊢; exact this) (Kp.refl _ _))
           clear h45
           simp only [Act.put, List.setIfInBounds_toArray, List.set_cons_succ, List.set_cons_zero])
        | fail)
      refine wpD_nil ?_
      intro w3 hx3 _
      have HX3 := Lib.hid (HX2.out.trans hx3)
      obtain ⟨⟨d0, d1, d2⟩, f1, f2⟩ := HO.out.cells HX3.out
      clear hx3
      go_wp2_with (fail)
      go_ret
      go_light
      have hm := (HO.out.ext HX3.out).move (k + n) hkn
      rw [HR.out]
      refine ⟨rfl, ?_, (HK.out.ext HX3.out).trans (by simpa using hm.2)⟩
      simp only [List.drop_drop]
      simpa using hm.1
end Go.Proofs.YtlcbllgmnbhphaaDoor
