/- Walks of package pack, and of aviaryref1's I64, Txt: what writes bytes. -/
import Derived.Test.YtlcbllgmnbhphaaGreatDoorAvPackLaw
import Derived.Test.YtlcbllgmnbhphaaGreatDoorAvApp2
import Derived.Test.YtlcbllgmnbhphaaGreatDoorAvWPath
import Derived.IntWalk
namespace Go.Proofs.YtlcbllgmnbhphaaGreatDoor
set_option maxRecDepth 100000
open Go.RowKit Av

theorem byte_facts : ElemOk Tryz.prog 27 5 1 := ⟨by kernel_rfl, by kernel_rfl⟩
theorem bstr_facts : (Tryz.prog.underlying 27 = some (.slice 5) ∧ Tryz.prog.underlying 9 = some .string) ∧ (Tryz.prog.info? 5).map (fun i => (i.zero, i.size, i.bytes)) = some (some (.int .u8 0), 1, 1) := ⟨⟨by kernel_rfl, by kernel_rfl⟩, by kernel_rfl⟩
/-- A slice of bytes that a call owns from block base on. -/
def OwnBy (w : World) (base : Nat) (v : Value) (bs : Bs) : Prop := w.ownsRow base 5 1 v bs.length (bs.map byteV)
theorem OwnBy.bytes {w : World} {base : Nat} {v : Value} {bs : Bs} (h : OwnBy w base v bs) : BytesR w v bs := ⟨Sl.of_owns h, shp_owns h⟩
theorem OwnBy.ext {w w' : World} {base : Nat} {v : Value} {bs : Bs} (h : OwnBy w base v bs) (k : Ext w w') : OwnBy w' base v bs := ownsRow.ext h k
theorem OwnBy.low {w : World} {base base' : Nat} {v : Value} {bs : Bs} (h : OwnBy w base v bs) (hb : base' ≤ base) : OwnBy w base' v bs := ownsRow.base_mono h hb
theorem OwnBy.ge {w : World} {base : Nat} {v : Value} {bs : Bs} (h : OwnBy w base v bs) : ∀ b, v.ownBlock = some b → base ≤ b := by
  obtain ⟨_, h2⟩ := h
  rcases h2 with ⟨rfl, _⟩ | ⟨g, cap, cur, rfl, hb, _⟩
  · intro b hb; simp [Value.ownBlock] at hb
  · intro b hb'; simp [Value.ownBlock] at hb'; omega
/-- '[]byte{}', just laid. -/
theorem OwnBy.empty (w : World) : OwnBy (w.alloc (.cells #[] 5)) w.heap.size (.slice (some ⟨w.heap.size, 0, none⟩) 0 0) [] :=
  ⟨rfl, .inr ⟨w.heap.size, 0, #[], rfl, Nat.le_refl _, heap_alloc_new w _, Nat.le_refl _, by decide, rfl, rfl⟩⟩
/-- One byte, just laid. -/
theorem byte_one (w : World) (z : Int) (b : UInt8) (h : z = (b.toNat : Int)) : Sl (w.alloc (.cells #[.int .u8 z] 5)) 1 (.slice (some ⟨w.heap.size, 0, none⟩) 1 1) 1 ([b].map byteV) := by
  subst h
  exact Sl.of_block (xs := [byteV b]) (heap_alloc_new w _) rfl (by decide) (Nat.le_refl _)

/-- The loop that writes eight bytes: so many are still to come. -/
def PutRel (w : World) (base : Nat) (bs : Bs) (v : Int) (o i : Value) (wr : World) : Prop :=
  ∃ n : Nat, n ≤ 8 ∧ i = .int .i64 ((n : Int) - 1) ∧ OwnBy wr base o (bs ++ (be8 v).take (8 - n)) ∧ Ext w wr ∧ base ≤ wr.heap.size
theorem be8_at (v : Int) : ∀ n, n < 8 → (be8 v).take (8 - n) = (be8 v).take (7 - n) ++ [byteAt v n]
  | 0, _ => rfl
  | 1, _ => rfl
  | 2, _ => rfl
  | 3, _ => rfl
  | 4, _ => rfl
  | 5, _ => rfl
  | 6, _ => rfl
  | 7, _ => rfl
  | n + 8, h => absurd h (by omega)
theorem byte_of (v : Int) (n : Nat) (h : n < 8) : IntKind.u8.wrap (IntKind.u64.wrap v / 2 ^ (8 * n)) = ((byteAt v n).toNat : Int) := by
  rw [byteAt_toNat, IntKind.wrap_u8, IntKind.wrap_u64]
  match n, h with
  | 0, _ => simp only [Nat.reduceMul, Int.reducePow]; omega
  | 1, _ => simp only [Nat.reduceMul, Int.reducePow]; omega
  | 2, _ => simp only [Nat.reduceMul, Int.reducePow]; omega
  | 3, _ => simp only [Nat.reduceMul, Int.reducePow]; omega
  | 4, _ => simp only [Nat.reduceMul, Int.reducePow]; omega
  | 5, _ => simp only [Nat.reduceMul, Int.reducePow]; omega
  | 6, _ => simp only [Nat.reduceMul, Int.reducePow]; omega
  | 7, _ => simp only [Nat.reduceMul, Int.reducePow]; omega

set_option maxHeartbeats 800000 in
theorem packI64_any (vb : Value) (bs : Bs) (x : Int) (w : World) (hb : BytesR w vb bs) (hl : bs.length ≤ 1000000000) :
    Calls Tryz.prog 29 #[vb, .int .i64 x] w fun e w' => ∃ v, e = .returned v ∧ OwnBy w' w.heap.size v (bs ++ be8 x) ∧ Ext w w' := by
  have HB := Lib.hid (hb.ext ((Kp.refl _ w).alloc (.cells #[] 5)))
  have HSH := Lib.hid hb.2
  have hw := OwnBy.empty w
  clear hb
  go_enter Tryz.func29, Tryz.ntmps29
  go_wp2_with (at_builtin; refine wpList_appK 27 5 1 (by decide) byte_facts rfl _ _ rfl w.heap.size _ _ _ rfl hw _ bs.length (bs.map byteV) rfl HB.out.1 HSH.out (byteV_one bs) ?c1 ?c2 ?_)
  case c1 => simp only [List.length_nil]; omega
  case c2 => simp
  intro v1 w1 h1 k1
  have h1' : OwnBy w1 w.heap.size v1 bs := by unfold OwnBy; simpa using h1
  have hx1 : Ext w w1 := ((Kp.refl (fun _ => False) w).alloc (.cells #[] 5)).next k1 (fun i hi e => by simp [Value.ownBlock] at e; omega)
  have HX := Lib.hid hx1
  have H1 := Lib.hid h1'
  clear hw h1 k1 hx1 h1'
  go_wp2_with (fail)
  go_loopw [5, 6] (PutRel w w.heap.size bs x) (fun _ i _ => (intOf i + 1).toNat)
  case atStart =>
    refine ⟨8, Nat.le_refl _, rfl, ?_, HX.out, HX.out.size⟩
    rw [show 8 - 8 = 0 from rfl, List.take_zero, List.append_nil]
    exact H1.out
  case round =>
    clear H1 HX
    obtain ⟨n, hn, rfl, hown, hx, hbase⟩ := hrel
    by_cases h0 : n = 0
    · subst h0
      rw [show 8 - 0 = 8 from rfl, List.take_of_length_le (by simp [be8_len])] at hown
      have HO := Lib.hid hown
      clear hown
      go_wp2_with (fail)
      go_ret
      go_light
      exact ⟨_, rfl, HO.out, hx⟩
    · obtain ⟨j, rfl⟩ : ∃ j, n = j + 1 := ⟨n - 1, by omega⟩
      have hj : ((j + 1 : Nat) : Int) - 1 = j := by omega
      rw [hj]
      have hj8 : j < 8 := by omega
      have hle : (bs ++ (be8 x).take (8 - (j + 1))).length ≤ 1000000010 := by
        rw [List.length_append, List.length_take]
        omega
      obtain ⟨cur, hcur⟩ : ∃ cur, bs ++ (be8 x).take (8 - (j + 1)) = cur := ⟨_, rfl⟩
      have hnext : bs ++ (be8 x).take (8 - j) = cur ++ [byteAt x j] := by
        rw [be8_at x j hj8, ← List.append_assoc, ← hcur, show 8 - (j + 1) = 7 - j by omega]
      rw [hcur] at hown hle
      have e1 : (8 * (j : Int)).toNat = 8 * j := by omega
      have e2 := byte_of x j hj8
      have HN := Lib.hid hnext
      have hj63 : 8 * (j : Int) ≤ 64 := by omega
      have hb1 : ∀ W : World, Sl (W.alloc (.cells #[.int .u8 ((byteAt x j).toNat : Int)] 5)) 1 (.slice (some ⟨W.heap.size, 0, none⟩) 1 1) 1 ([byteAt x j].map byteV) := fun W => byte_one W _ _ rfl
      have HB1 := Lib.hid hb1
      clear hb1 hcur hnext hj
      go_wp2_with (at_builtin; refine wpList_appK 27 5 1 (by decide) byte_facts rfl _ _ rfl w.heap.size _ _ _ rfl (OwnBy.ext hown ((Kp.refl _ _).alloc _)) _ 1 ([byteAt x j].map byteV) rfl (HB1.out wr) Shp.some (byteV_one _) ?c1 ?c2 ?_)
      case c1 => omega
      case c2 => simp; omega
      intro v2 w2 h2 k2
      have h2' : OwnBy w2 w.heap.size v2 (bs ++ (be8 x).take (8 - j)) := by rw [HN.out]; unfold OwnBy; simpa using h2
      have hge := OwnBy.ge hown
      have hx2 : Ext w w2 := (hx.alloc _).next k2 (fun i hi e => by have := hge i e; omega)
      have hb2 : w.heap.size ≤ w2.heap.size := hx2.size
      have HO2 := Lib.hid h2'
      clear h2 h2' k2 hown hge
      go_wp2_with (fail)
      go_light
      refine ⟨⟨j, by omega, ?_, HO2.out, hx2, hb2⟩, by simp [intOf]⟩
      first | rfl | (congr 1; omega)
set_option maxHeartbeats 800000 in
theorem packText_any (vb : Value) (bs : Bs) (s : ByteArray) (w : World) (hb : BytesR w vb bs) (hl : bs.length ≤ 100000000) (hs : s.size ≤ 100000000) :
    Calls Tryz.prog 30 #[vb, .string s] w fun e w' => ∃ v, e = .returned v ∧ OwnBy w' w.heap.size v (bs ++ txt s.data.toList) ∧ Ext w w' := by
  have HC := Lib.hid (packI64_any vb bs (s.size : Int) w hb (by omega))
  have HT : Hid (bs ++ txt s.data.toList = bs ++ be8 (s.size : Int) ++ s.data.toList) := by
    show _ = _
    unfold txt
    rw [List.append_assoc, Lib.size_eq]
  clear hb
  go_enter Tryz.func30, Tryz.ntmps30
  go_wp2_with (fail)
  refine (HC.out).mono ?_
  rintro e w1 ⟨v1, rfl, h1, hx⟩
  have hsz := hx.size
  go_wp2_with (at_builtin; refine wpList_appStr 27 9 5 bstr_facts rfl _ _ rfl w.heap.size _ (bs ++ be8 (s.size : Int)) rfl h1 s rfl ?c1 ?c2 ?_)
  case c1 => simp only [List.length_append, be8_len]; omega
  case c2 => exact hsz
  intro v2 w2 h2 k2
  have hge := OwnBy.ge h1
  have hx2 : Ext w w2 := hx.next k2 (fun i hi e => by have := hge i e; omega)
  have h2' : OwnBy w2 w.heap.size v2 (bs ++ be8 (s.size : Int) ++ s.data.toList) := by
    unfold OwnBy
    simp only [List.length_append, List.map_append, List.append_assoc, ← Lib.size_eq]
    exact h2
  have HO2 := Lib.hid h2'
  clear h1 h2 h2' k2 hge
  go_wp2_with (fail)
  go_ret
  go_light
  refine ⟨_, rfl, ?_, hx2⟩
  rw [HT.out]
  exact HO2.out

/-- The loop of All. -/
def AllRel (w : World) (base : Nat) (bs : Bs) (xs : List Int) (o i : Value) (wr : World) : Prop :=
  ∃ k : Nat, k ≤ xs.length ∧ i = .int .i64 k ∧ OwnBy wr base o (bs ++ (xs.take k).flatMap be8) ∧ Ext w wr
set_option maxHeartbeats 800000 in
theorem packAll_any (vb vx : Value) (bs : Bs) (xs : List Int) (w : World) (hb : BytesR w vb bs) (hl : bs.length ≤ 10000000) (hv : Sl w 1 vx xs.length (xs.map (Value.int .i64))) (hn : xs.length ≤ 1000) :
    Calls Tryz.prog 28 #[vb, vx] w fun e w' => ∃ v, e = .returned v ∧ OwnBy w' w.heap.size v (bs ++ xs.flatMap be8) ∧ Ext w w' := by
  have HB := Lib.hid (hb.ext ((Kp.refl _ w).alloc (.cells #[] 5)))
  have HSH := Lib.hid hb.2
  have hw := OwnBy.empty w
  obtain ⟨ax, cx, rfl, hcx, hmx, _, hox⟩ := Sl.open hv
  have HX0 := Lib.hid hox
  unfold maxLen at hmx
  clear hb hv hox
  go_enter Tryz.func28, Tryz.ntmps28
  go_wp2_with (at_builtin; refine wpList_appK 27 5 1 (by decide) byte_facts rfl _ _ rfl w.heap.size _ _ _ rfl hw _ bs.length (bs.map byteV) rfl HB.out.1 HSH.out (byteV_one bs) ?c1 ?c2 ?_)
  case c1 => simp only [List.length_nil]; omega
  case c2 => simp
  intro v1 w1 h1 k1
  have h1' : OwnBy w1 w.heap.size v1 bs := by unfold OwnBy; simpa using h1
  have hx1 : Ext w w1 := ((Kp.refl (fun _ => False) w).alloc (.cells #[] 5)).next k1 (fun i hi e => by simp [Value.ownBlock] at e; omega)
  have HX := Lib.hid hx1
  have H1 := Lib.hid h1'
  clear hw h1 k1 hx1 h1'
  go_wp2_with (fail)
  go_loopw [5, 13] (AllRel w w.heap.size bs xs) (fun _ i _ => xs.length - (intOf i).toNat)
  case atStart =>
    refine ⟨0, Nat.zero_le _, rfl, ?_, HX.out⟩
    rw [List.take_zero, List.flatMap_nil, List.append_nil]
    exact H1.out
  case round =>
    clear H1 HX
    obtain ⟨k, hk, rfl, hown, hx⟩ := hrel
    have hlen : (bs ++ (xs.take k).flatMap be8).length ≤ 100000000 := by
      have : ((xs.take k).flatMap be8).length = 8 * (xs.take k).length := by
        generalize xs.take k = l
        induction l with
        | nil => rfl
        | cons a l ih => simp only [List.flatMap_cons, List.length_append, be8_len, ih, List.length_cons]; omega
      rw [List.length_append, this, List.length_take]
      omega
    have hge := OwnBy.ge hown
    have HO := Lib.hid hown
    by_cases hlt : k < xs.length
    · obtain ⟨b, off, rfl, _, hc⟩ := HX0.out (by omega)
      have hcell := hx.cell (hc k (.int .i64 xs[k]) (by rw [List.getElem?_map, List.getElem?_eq_getElem hlt]; rfl)) (fun f => f)
      have HC := Lib.hid (packI64_any _ _ xs[k] wr (OwnBy.bytes hown) (by omega))
      have HN : Hid (bs ++ (xs.take (k + 1)).flatMap be8 = bs ++ (xs.take k).flatMap be8 ++ be8 xs[k]) := by
        show _ = _
        rw [List.take_succ_eq_append_getElem hlt, List.flatMap_append, List.flatMap_singleton, List.append_assoc]
      clear hc hown
      go_wp2_with (fail)
      refine HC.out.mono ?_
      rintro e w2 ⟨v2, rfl, h2, hx2⟩
      have h2' := OwnBy.low h2 hx.size
      have HO2 := Lib.hid h2'
      clear h2 h2'
      go_wp2_with (fail)
      go_light
      exact ⟨⟨k + 1, by omega, by go_num, by rw [HN.out]; exact HO2.out, hx.ext hx2⟩, by simp [intOf]; omega⟩
    · have hke : xs.take k = xs := List.take_of_length_le (by omega)
      rw [hke] at HO
      clear hke hown
      go_wp2_with (fail)
      go_ret
      go_light
      exact ⟨_, rfl, HO.out, hx⟩
end Go.Proofs.YtlcbllgmnbhphaaGreatDoor
