/- Walks: watches: the closure of Fire. -/
import Derived.Test.YtiplmahjmkmddaaDoorAvWWatG
namespace Go.Proofs.YtiplmahjmkmddaaDoor
set_option maxRecDepth 100000
open Go.RowKit Av

abbrev evT : TypeId := 35
abbrev evsT : TypeId := 32
theorem ev_facts : ElemOk Tryd.prog evsT evT 3 := ⟨by kernel_rfl, by kernel_rfl⟩
theorem wt_one (xs : List Wt) : ∀ y ∈ xs.flatMap wcell, y.oneCell' = true := by
  intro y hy
  obtain ⟨e, _, he⟩ := List.mem_flatMap.1 hy
  exact wcell_one e y he
/-- What Fire's closure leans on. -/
structure FInv (pb ub cb ob : Nat) (p up : ByteArray) (ch : Int) (rb base : Nat) (seen : List Wt) (cur : Option Nat) (W : World) : Prop where
  pc : W.cell? ⟨pb, 0, none⟩ = some (.string p)
  uc : W.cell? ⟨ub, 0, none⟩ = some (.string up)
  cc : W.cell? ⟨cb, 0, none⟩ = some (.int .i64 ch)
  out : ∃ v, Blk W ob #[v] evsT ∧ W.ownsRow base evT 3 v (toldW (evG p up ch) seen).length ((toldW (evG p up ch) seen).flatMap wcell) ∧ cur = v.ownBlock
  ne : (ob ≠ pb ∧ ob ≠ ub ∧ ob ≠ cb) ∧ (pb < base ∧ ub < base ∧ cb < base ∧ ob < base) ∧ (pb ≠ rb ∧ ub ≠ rb ∧ cb ≠ rb ∧ ob ≠ rb) ∧ rb < base ∧ base ≤ W.heap.size
theorem own_at {w : World} {base k n : Nat} {e : TypeId} {v : Value} {xs : List Value} (h : w.ownsRow base e k v n xs) {i : Nat} (hi : v.ownBlock = some i) : base ≤ i ∧ i < w.heap.size := by
  obtain ⟨_, ⟨rfl, _⟩ | ⟨g, cap, cur, rfl, hb, hg, _⟩⟩ := h
  · simp [Value.ownBlock] at hi
  · simp only [Value.ownBlock, Option.some.injEq] at hi
    subst hi
    exact ⟨hb, (Array.getElem?_eq_some_iff.1 hg).1⟩
theorem FInv.kp {pb ub cb ob : Nat} {p up : ByteArray} {ch : Int} {rb base : Nat} {seen : List Wt} {cur : Option Nat} {W W' : World} {S : Nat → Prop} (h : FInv pb ub cb ob p up ch rb base seen cur W) (k : Kp S W W') (hs : ∀ i, S i → i = rb ∨ W.heap.size ≤ i) : FInv pb ub cb ob p up ch rb base seen cur W' := by
  obtain ⟨hp, hu, hc, ⟨v, h1, h2, h3⟩, hne⟩ := h
  obtain ⟨⟨n1, n2, n3⟩, ⟨m1, m2, m3, m4⟩, ⟨k1, k2, k3, k4⟩, hrb, hb⟩ := hne
  have key : ∀ i, i < base → i ≠ rb → ¬ S i := fun i hi hn hS => (hs i hS).elim (fun h => hn h) (fun h => by omega)
  refine ⟨k.cell hp (key pb m1 k1), k.cell hu (key ub m2 k2), k.cell hc (key cb m3 k3), ⟨v, h1.kp k (key ob m4 k4), ownsRow.kp h2 k (fun i hi hS => ?_), h3⟩, ⟨n1, n2, n3⟩, ⟨m1, m2, m3, m4⟩, ⟨k1, k2, k3, k4⟩, hrb, Nat.le_trans hb k.size⟩
  have := own_at h2 hi
  rcases hs i hS with h | h <;> omega
set_option maxHeartbeats 1600000 in
theorem fireAsk (pb ub cb ob : Nat) (p up : ByteArray) (ch : Int) (rb base : Nat) : Asked 24 #[.pointer (some ⟨pb, 0, none⟩), .pointer (some ⟨ub, 0, none⟩), .pointer (some ⟨cb, 0, none⟩), .pointer (some ⟨ob, 0, none⟩)] (fun x => decide (evG p up ch x ≠ 0)) (fun i => i = ob ∧ ob ≠ rb ∧ ob < base) base rb (FInv pb ub cb ob p up ch rb base) := by
  refine ⟨enters_of Tryd.func24 (by kernel_rfl) rfl, ?_, ?_, ?_, ?_⟩
  · intro seen cur x W hn hI
    have HI := Lib.hid hI
    have HTS := Lib.hid (toldW_snoc (evG p up ch) seen x)
    have htl : (toldW (evG p up ch) seen).length ≤ seen.length := List.length_filterMap_le _ _
    obtain ⟨r, hr⟩ : ∃ r, evG p up ch x = r := ⟨_, rfl⟩
    rw [hr] at HTS
    have HEV := Lib.hid (fun W => event_any x p up ch W)
    rw [hr] at HEV
    have HR := Lib.hid hr
    simp only [hr]
    obtain ⟨W1, hW1⟩ : ∃ W1, W.alloc (.cells (wcell x).toArray 51) = W1 := ⟨_, rfl⟩
    have hx1 : Ext W W1 := by rw [← hW1]; exact (Kp.refl _ _).alloc _
    have hb1 : Blk W1 W.heap.size (wcell x).toArray 51 := by rw [← hW1]; exact heap_alloc_new W _
    have hi1 := hI.kp (S := fun _ => False) hx1 (fun _ f => f.elim)
    have q1 := hi1.pc
    have q2 := hi1.uc
    have q3 := hi1.cc
    have HI1 := Lib.hid hi1
    have HX1 := Lib.hid hx1
    have HB1 := Lib.hid hb1
    obtain ⟨xs, xp, xk⟩ := x
    have b0 := hb1.cell 0 _ rfl
    have b1 := hb1.cell 1 _ rfl
    have b2 := hb1.cell 2 _ rfl
    clear hI hi1 hx1 hb1 hr
    go_enter Tryd.func24, Tryd.ntmps24
    go_wp2_with (fail)
    refine (HEV.out _).mono ?_
    rintro e W2 ⟨rfl, hx2⟩
    have hi2 := HI1.out.kp (S := fun _ => False) hx2 (fun _ f => f.elim)
    have hb2 := HB1.out.kp hx2 (fun f => f)
    have HX2 := Lib.hid (HX1.out.trans hx2)
    have HI2 := Lib.hid hi2
    clear HI1 HX1 HB1 HEV hx2 q1 q2 q3 b0 b1 b2
    by_cases h0 : r = 0
    · subst h0
      have HT : Hid (toldW (evG p up ch) (seen ++ [⟨xs, xp, xk⟩]) = toldW (evG p up ch) seen) := by show _ = _; rw [HTS.out, if_pos rfl]
      clear hi2 hb2 HTS
      go_wp2_with (fail)
      go_ret
      go_light
      refine ⟨ret_bool (by simp), cur, ?_, Ext.kp HX2.out⟩
      have h := HI2.out
      obtain ⟨v, h1, h2, h3⟩ := h.out
      exact ⟨h.pc, h.uc, h.cc, ⟨v, h1, by rw [HT.out]; exact h2, h3⟩, h.ne⟩
    · have HT : Hid (toldW (evG p up ch) (seen ++ [⟨xs, xp, xk⟩]) = toldW (evG p up ch) seen ++ [⟨xs, xp, r⟩]) := by show _ = _; rw [HTS.out, if_neg h0]
      obtain ⟨v, hob, how, hcu⟩ := hi2.out
      obtain ⟨a3, l3, c3, hv3⟩ : ∃ a3 l3 c3, v = .slice a3 l3 c3 := by obtain ⟨a3, c3, e, _⟩ := Sl.open (Sl.of_owns how); exact ⟨_, _, _, e⟩
      subst hv3
      have o0 := hob.cell 0 _ rfl
      have b0 := hb2.cell 0 _ rfl
      have b1 := hb2.cell 1 _ rfl
      have HOB := Lib.hid hob
      have HOW := Lib.hid how
      have HCU := Lib.hid hcu
      have hone := wt_one [(⟨xs, xp, r⟩ : Wt)]
      clear hi2 hb2 HTS hob how hcu
      go_wp2_with (at_builtin; refine wpList_appK evsT evT 3 (by decide) ev_facts rfl _ _ rfl base _ _ _ rfl (ownsRow.ext HOW.out ((Kp.refl _ _).alloc _)) _ 1 ([(⟨xs, xp, r⟩ : Wt)].flatMap wcell) rfl (Sl.of_block (heap_alloc_new W2 _) rfl (by decide) (Nat.le_refl _)) Shp.some hone ?c1 ?c2 ?_)
      case c1 => omega
      case c2 => have := HI2.out.ne.2.2.2.2; simp; omega
      intro v' w' h1 k2
      obtain ⟨a4, l4, c4, hv4⟩ : ∃ a4 l4 c4, v' = .slice a4 l4 c4 := by obtain ⟨a4, c4, e, _⟩ := Sl.open (Sl.of_owns h1); exact ⟨_, _, _, e⟩
      subst hv4
      have hob1 : Blk w' ob #[.slice a3 l3 c3] evsT := (HOB.out.kp (S := fun _ => False) ((Kp.refl _ _).alloc _) (fun f => f)).kp k2 (fun e => by
        have h5 := (own_at HOW.out e).1
        have := HI2.out.ne.2.1.2.2.2
        omega)
      have o1 := hob1.cell 0 _ rfl
      have f1 := hob1.free 0
      have hin : FInv pb ub cb ob p up ch rb base seen cur (W2.alloc (.cells #[.int .i64 xs, .string xp, .int .i64 r] 35)) := HI2.out.kp (S := fun _ => False) ((Kp.refl _ _).alloc _) (fun _ f => f.elim)
      have hkw : Kp (fun i => (i = ob ∧ ob ≠ rb ∧ ob < base) ∨ cur = some i) W w' := Kp.next (S := fun i => (i = ob ∧ ob ≠ rb ∧ ob < base) ∨ cur = some i) (Ext.kp (HX2.out.alloc _)) k2 (fun i _ e => .inr (by rw [HCU.out]; exact e))
      have hq : w'.cell? ⟨pb, 0, none⟩ = some (.string p) ∧ w'.cell? ⟨ub, 0, none⟩ = some (.string up) ∧ w'.cell? ⟨cb, 0, none⟩ = some (.int .i64 ch) ∧ base ≤ w'.heap.size := by
        have m := HI2.out.ne.2.1
        have z : ∀ i, i < base → (Value.slice a3 l3 c3).ownBlock = some i → False := fun i hi e => by have := (own_at HOW.out e).1; omega
        exact ⟨k2.cell hin.pc (z pb m.1), k2.cell hin.uc (z ub m.2.1), k2.cell hin.cc (z cb m.2.2.1), Nat.le_trans hin.ne.2.2.2.2 k2.size⟩
      have HQ := Lib.hid hq
      have HKW := Lib.hid hkw
      have HOB1 := Lib.hid hob1
      have HOW1 := Lib.hid h1
      clear h1 k2 hob1 hin hkw hq o0 b0 b1 hone
      go_wp2_with (fail)
      go_ret
      go_light
      have hne := HI2.out.ne
      have hst : Kp (fun i => i = ob) w' (w'.setCell ⟨ob, 0, none⟩ (.slice a4 l4 c4)) := Kp.set1 (S := fun i => i = ob) (Kp.refl _ _) ob 0 _ rfl
      refine ⟨ret_bool (by simp [h0]), (Value.slice a4 l4 c4).ownBlock, ⟨hst.cell HQ.out.1 (fun e => hne.1.1 e.symm), hst.cell HQ.out.2.1 (fun e => hne.1.2.1 e.symm), hst.cell HQ.out.2.2.1 (fun e => hne.1.2.2 e.symm), ⟨.slice a4 l4 c4, HOB1.out.set 0 _, ?_, rfl⟩, hne.1, hne.2.1, hne.2.2.1, hne.2.2.2.1, Nat.le_trans HQ.out.2.2.2 hst.size⟩, HKW.out.set1 ob 0 _ (.inl ⟨rfl, hne.2.2.1.2.2.2, hne.2.1.2.2.2⟩)⟩
      rw [HT.out]
      have h6 : w'.ownsRow base evT 3 (.slice a4 l4 c4) (toldW (evG p up ch) seen ++ [(⟨xs, xp, r⟩ : Wt)]).length ((toldW (evG p up ch) seen ++ [(⟨xs, xp, r⟩ : Wt)]).flatMap wcell) := by
        rw [flatMap_snoc, List.length_append]; simpa using HOW1.out
      exact ownsRow.kp h6 hst (fun i hi e => by have := (own_at HOW1.out hi).1; have := hne.2.1.2.2.2; omega)
  · intro seen cur W W' hI hk
    exact hI.kp hk (fun i hi => .inl hi)
  · intro seen cur W i hI he
    obtain ⟨v, h1, h2, h3⟩ := hI.out
    have hb := own_at h2 (i := i) (by rw [← h3, he])
    exact ⟨hb.1, hb.2, by have := hI.ne.2.2.2.1; omega⟩
  · rintro i ⟨rfl, h1, h2⟩
    exact ⟨h1, h2⟩
end Go.Proofs.YtiplmahjmkmddaaDoor
