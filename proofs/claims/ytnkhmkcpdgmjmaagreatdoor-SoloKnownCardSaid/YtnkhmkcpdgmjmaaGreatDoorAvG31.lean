/- Texts put together: AvWWatF, AvWWatG, AvWWatH, AvWWatI. -/
import Derived.Test.YtnkhmkcpdgmjmaaGreatDoorAvG30
import Derived.Ground.SlsfProg
import Derived.Test.YtnkhmkcpdgmjmaaGreatDoorShelfW
import Derived.Test.YtnkhmkcpdgmjmaaGreatDoorAvG7
import Derived.Deep.RegionHeld3
import Derived.Deep.AppendLies

/- Walks: slices.SortFunc at watches. -/
namespace Go.Proofs.YtnkhmkcpdgmjmaaGreatDoor
set_option maxRecDepth 100000
open Go.RowKit Av Go.Shelf Go.Sort
theorem wcell_one (x : Wt) (v : Value) (hv : v ∈ wcell x) : v.oneCell' = true := by
  simp [wcell] at hv
  rcases hv with rfl | rfl | rfl <;> rfl
theorem ltOf_ordW (x y : Wt) : ltOf ordW x y = ltW x y := ordW_lt x y
theorem ltOf_ordW' : ltOf ordW = ltW := funext fun x => funext fun y => ordW_lt x y
theorem swoW : SWO (ltOf ordW) where
  irrefl x := by rw [ltOf_ordW]; exact ltW_irrefl x
  trans x y z h1 h2 := by rw [ltOf_ordW] at *; exact ltW_trans h1 h2
  ntrans x y z h1 h2 := by rw [ltOf_ordW] at *; exact ltW_ntrans h1 h2
theorem sort_any (ad : Option Addr) (cap : Nat) (xs : List Wt) (w : World) (base : Nat) (hown : w.ownsRow base 215 3 (.slice ad xs.length cap) xs.length (xs.flatMap wcell)) (hn : xs.length ≤ 100000) :
    Calls Tryz.prog 208 #[.slice ad xs.length cap, .func (.func 209) #[] #[]] w fun e w' =>
      e = .returned (.tuple #[]) ∧ w'.ownsRow base 215 3 (.slice ad (sortW xs).length cap) (sortW xs).length ((sortW xs).flatMap wcell) ∧ Kp (fun i => ∃ a, ad = some a ∧ a.block = i) w w' := by
  cases xs with
  | nil =>
    have hcon := AnyF.slices_SortFunc_none { Tryz.sortFW with } ad cap (.func (.func 209) #[] #[]) w
    change Calls Tryz.prog 208 _ _ _ at hcon
    refine hcon.mono ?_
    rintro e w' ⟨rfl, rfl⟩
    refine ⟨rfl, ?_, Kp.refl _ _⟩
    have : sortW [] = [] := List.eq_nil_of_length_eq_zero (sortW_len [])
    rw [this]; exact hown
  | cons x r =>
    obtain ⟨a, rfl⟩ : ∃ a, ad = some a := by
      cases ad with
      | some a => exact ⟨a, rfl⟩
      | none => obtain ⟨_, h | ⟨g, c, cur, hv, _⟩⟩ := hown
                · simp at h
                · simp at hv
    obtain ⟨b, rfl, hrow, hlen, hnc, hcm, hbb⟩ := RowB.of_owns hown
    generalize hxs : x :: r = xs at *
    have eg : ∀ args w, (callFunc 209 args).run Tryz.prog w = .ok (.enter 209 args) w := enters_of Tryz.func209 (by kernel_rfl) rfl
    have hcmp : CmpLays Tryz.prog 209 #[] wcell 3 ordW b 0 xs.toArray.size w := fun m os dk _ x y => (order_any x y _).mono fun e w' h => ⟨h.1, h.2.grow⟩
    have hcon := AnyQ.slices_SortFunc_total Tryz.sortFW 3 Tryz.isAgg215 Tryz.sizeOf215 wcell (fun _ => rfl) wcell_one ordW swoW 209 #[] b 0 cap xs.toArray w eg hcmp (RowB.holds (f := wcell) (K := 3) (by decide) (fun _ => rfl) hrow) hrow.lt (by simp; omega) (fun x y h1 h2 => ltW_total (by rw [← ltOf_ordW]; exact h1) (by rw [← ltOf_ordW]; exact h2))
    change Calls Tryz.prog 208 #[.slice (some ⟨b, 0, none⟩) xs.length cap, .func (.func 209) #[] #[]] _ _ at hcon
    refine hcon.mono ?_
    rintro e w' ⟨rfl, n, os, rfl⟩
    have hs : (xs.toArray.toList.mergeSort fun x y => !(ltOf ordW) y x) = sortW xs := by
      unfold sortW; rw [ltOf_ordW']
    rw [hs]
    obtain ⟨h1, h2⟩ := RowB.sorted (f := wcell) (K := 3) (by decide) (fun _ => rfl) hrow (sortW_len xs) n os
    refine ⟨rfl, ?_, h2.mono (fun i _ e => ⟨_, rfl, e.symm⟩)⟩
    have := h1.owns (m := (sortW xs).length) (base := base) (by rw [flat_len wcell 3 (fun _ => rfl)]; exact Nat.le_refl _) (by rw [sortW_len]; exact hnc) hcm hbb
    rwa [flat_take wcell 3 (fun _ => rfl), List.take_length] at this
end Go.Proofs.YtnkhmkcpdgmjmaaGreatDoor

/- Walks: watches: New, Len, Drop. -/
namespace Go.Proofs.YtnkhmkcpdgmjmaaGreatDoor
set_option maxRecDepth 100000
open Go.RowKit Av

abbrev wlT : TypeId := 201
theorem own_slice (a : Option Addr) (n m c c' : Nat) : (Value.slice a n c).ownBlock = (Value.slice a m c').ownBlock := by cases a <;> rfl
/-- Watches at block b, the row in block ro. -/
def WL (w : World) (b : Nat) (ro : Option Nat) (room : Nat) (l : List Wt) : Prop :=
  ∃ v, Blk w b #[.int .i64 room, v] wlT ∧ w.ownsRow 0 215 3 v l.length (l.flatMap wcell) ∧ v.ownBlock = ro ∧ ∀ i, ro = some i → i ≠ b
theorem WL.kp {S : Nat → Prop} {w w' : World} {b room : Nat} {ro : Option Nat} {l : List Wt} (h : WL w b ro room l) (k : Kp S w w') (hb : ¬ S b) (hr : ∀ i, ro = some i → ¬ S i) : WL w' b ro room l := by
  obtain ⟨v, h1, h2, h3, h4⟩ := h
  exact ⟨v, h1.kp k hb, ownsRow.kp h2 k (fun i hi => hr i (by rw [← h3, hi])), h3, h4⟩
theorem WL.ext {w w' : World} {b room : Nat} {ro : Option Nat} {l : List Wt} (h : WL w b ro room l) (k : Ext w w') : WL w' b ro room l := h.kp k (fun f => f) (fun _ _ f => f)
theorem WL.lt {w : World} {b room : Nat} {ro : Option Nat} {l : List Wt} (h : WL w b ro room l) : b < w.heap.size ∧ ∀ i, ro = some i → i < w.heap.size := by
  obtain ⟨v, h1, h2, h3, h4⟩ := h
  refine ⟨h1.lt, fun i hi => ?_⟩
  subst h3
  obtain ⟨_, ⟨rfl, _⟩ | ⟨g, cap, cur, rfl, _, hg, _⟩⟩ := h2
  · simp [Value.ownBlock] at hi
  · simp only [Value.ownBlock, Option.some.injEq] at hi
    subst hi
    exact (Array.getElem?_eq_some_iff.1 hg).1
theorem WL.open {w : World} {b room : Nat} {ro : Option Nat} {l : List Wt} (h : WL w b ro room l) : ∃ a c, Blk w b #[.int .i64 room, .slice a l.length c] wlT ∧ w.ownsRow 0 215 3 (.slice a l.length c) l.length (l.flatMap wcell) ∧ (Value.slice a l.length c).ownBlock = ro ∧ (∀ i, ro = some i → i ≠ b) ∧ (∀ x, a = some x → ro = some x.block) := by
  obtain ⟨v, h1, h2, h3, h4⟩ := h
  obtain ⟨a, c, rfl, _⟩ := Sl.open (Sl.of_owns h2)
  refine ⟨a, c, h1, h2, h3, h4, fun x hx => ?_⟩
  subst hx
  rw [← h3]; rfl
theorem WL.mk {w : World} {b room : Nat} {ro : Option Nat} {l : List Wt} {v : Value} (h1 : Blk w b #[.int .i64 room, v] wlT) (h2 : w.ownsRow 0 215 3 v l.length (l.flatMap wcell)) (h3 : v.ownBlock = ro) (h4 : ∀ i, ro = some i → i ≠ b) : WL w b ro room l := ⟨v, h1, h2, h3, h4⟩
set_option maxHeartbeats 800000 in
theorem watNew_any (room : Nat) (w : World) (h1 : 1 ≤ room) (h2 : room ≤ 1000) : Calls Tryz.prog 75 #[.int .i64 room] w fun e w' => e = .returned (.tuple #[.pointer (some ⟨w.heap.size, 0, none⟩), .int .i64 0]) ∧ WL w' w.heap.size none room [] ∧ Ext w w' := by
  have a1 : ¬ (room : Int) < 1 := by omega
  have a2 : ¬ (1000 : Int) < room := by omega
  go_enter Tryz.func75, Tryz.ntmps75
  go_wp2_with (fail)
  go_ret2
  refine ⟨by simp, WL.mk (v := .slice none 0 0) (heap_alloc_new w _) ⟨rfl, .inl ⟨rfl, rfl⟩⟩ rfl (by simp), (Kp.refl _ _).alloc _⟩
/-- The closure of Drop. -/
def DInv (sb : Nat) (s : Int) (rb : Nat) (base : Nat) (_seen : List Wt) (cur : Option Nat) (W : World) : Prop := cur = none ∧ W.cell? ⟨sb, 0, none⟩ = some (.int .i64 s) ∧ sb ≠ rb ∧ base ≤ W.heap.size
set_option maxHeartbeats 800000 in
theorem dropAsk (sb : Nat) (s : Int) (rb base : Nat) : Asked 173 #[.pointer (some ⟨sb, 0, none⟩)] (fun x => decide (x.sess = s)) (fun _ => False) base rb (DInv sb s rb base) := by
  refine ⟨enters_of Tryz.func173 (by kernel_rfl) rfl, ?_, ?_, ?_, ?_⟩
  · intro seen cur x W _ hI
    obtain ⟨rfl, hc, hne, hbs⟩ := hI
    obtain ⟨xs, xp, xk⟩ := x
    have hlt := World.block_lt_of_cell? W _ hc
    have HH := Lib.hid (show ∀ W', Ext W W' → DInv sb s rb base (seen ++ [⟨xs, xp, xk⟩]) none W' from fun W' hx => ⟨rfl, hx.cell hc (fun f => f), hne, Nat.le_trans hbs hx.size⟩)
    have hcX : ∀ o : Obj, (W.alloc o).cell? ⟨sb, 0, none⟩ = some (.int .i64 s) := fun o => Lib.cell?_alloc_some o hc
    clear hbs hne
    go_enter Tryz.func173, Tryz.ntmps173
    go_wp2_with (fail)
    go_ret
    go_light
    refine ⟨ret_bool ?_, ⟨none, HH.out _ ((Kp.refl _ _).alloc _)⟩, (Kp.refl _ _).alloc _⟩
    first | rfl | (rw [Bool.eq_iff_iff]; simp)
  · intro seen cur W W' hI hk
    obtain ⟨rfl, hc, hne, hbs⟩ := hI
    exact ⟨rfl, hk.cell hc hne, hne, Nat.le_trans hbs hk.size⟩
  · intro seen cur W i hI he
    rw [hI.1] at he; cases he
  · intro i f; exact f.elim
set_option maxHeartbeats 1600000 in
theorem watDrop_any (b : Nat) (ro : Option Nat) (room : Nat) (l : List Wt) (s : Int) (w : World) (h : WL w b ro room l) (hn : l.length ≤ 100000) :
    Calls Tryz.prog 133 #[.pointer (some ⟨b, 0, none⟩), .int .i64 s] w fun e w' => e = .returned (.int .i64 ((l.length - (dropW s l).length : Nat) : Int)) ∧ WL w' b ro room (dropW s l) ∧ Kp (fun i => i = b ∨ ro = some i) w w' := by
  obtain ⟨hlt, hrl⟩ := h.lt
  obtain ⟨a, c, hb, hown, hro, hrb, had⟩ := h.open
  have hdl : (dropW s l).length ≤ l.length := List.length_filter_le _ _
  have e3 : IntKind.i64.wrap ((l.length : Int) - ((dropW s l).length : Int)) = ((l.length - (dropW s l).length : Nat) : Int) := by rw [IntWalk.i64_in _ (by omega)]; omega
  obtain ⟨W, hW⟩ : ∃ W, w.alloc (.cells #[.int .i64 s] 2) = W := ⟨_, rfl⟩
  have hx : Ext w W := by rw [← hW]; exact (Kp.refl _ _).alloc _
  have hs : Blk W w.heap.size #[.int .i64 s] 2 := by rw [← hW]; exact heap_alloc_new w _
  have hsz : W.heap.size = w.heap.size + 1 := by rw [← hW]; simp
  have c1 := (hb.kp hx (fun f => f)).cell 1 _ rfl
  have hcon : Calls Tryz.prog 172 #[.slice a l.length c, .func (.func 173) #[] #[.pointer (some ⟨w.heap.size, 0, none⟩)]] W fun e w' => ∃ v, e = .returned v ∧ Blk w' b #[.int .i64 room, .slice a l.length c] wlT ∧ w'.ownsRow 0 215 3 v (dropW s l).length ((dropW s l).flatMap wcell) ∧ v.ownBlock = ro ∧ Kp (fun i => i = b ∨ ro = some i) w w' := by
    have hrb2 : ∀ i, i = ro.getD W.heap.size → i < w.heap.size → ro = some i := by
      intro i hi hil
      cases hr : ro with
      | none => rw [hr] at hi; simp at hi; omega
      | some r => rw [hr] at hi; simp at hi; rw [hi]
    have hne : w.heap.size ≠ ro.getD W.heap.size := by
      cases hr : ro with
      | none => simp; omega
      | some r => have := hrl r hr; simp; omega
    refine (deleteFunc_any (dropAsk w.heap.size s (ro.getD W.heap.size) W.heap.size) 0 a l c W (ownsRow.ext hown hx) (fun x hx => by rw [had x hx]; rfl) (fun hn => ?_) (Nat.le_refl _) hn ⟨none, rfl, hs.cell 0 _ rfl, hne, Nat.le_refl _⟩).mono ?_
    · cases ha : a with
      | none => exact absurd ha hn
      | some x => have h1 := had x ha; have h2 := hrl _ h1; rw [h1]; simp; omega
    · rintro e w' ⟨⟨rfl, ho, _⟩, hk⟩
      have hd : (l.filter fun x => !(decide (x.sess = s))) = dropW s l := by unfold dropW; congr 1; funext x; simp
      rw [hd] at ho ⊢
      have hk2 : Kp (fun i => ro = some i) w w' := Kp.next (S := fun i => ro = some i) hx.kp hk (fun i hi h => by
        rcases h with (h | h) | h
        · exact h.elim
        · omega
        · exact hrb2 i h hi)
      refine ⟨_, rfl, hb.kp hk2 (fun h => hrb b h rfl), ho, by rw [← hro]; exact own_slice _ _ _ _ _, hk2.mono (fun i _ h => .inr h)⟩
  have HCON := Lib.hid hcon
  have HRB := Lib.hid hrb
  clear h hb hown had hcon hx hs hrb hrl hlt hsz hro
  go_enter Tryz.func133, Tryz.ntmps133
  go_wp2_with (fail)
  refine HCON.out.mono ?_
  rintro e w1 ⟨v, rfl, hb1, ho1, hr1, hk1⟩
  obtain ⟨a', c', rfl, _⟩ := Sl.open (Sl.of_owns ho1)
  have c1 := hb1.cell 1 _ rfl
  have f1 := hb1.free 1
  have hb2 := hb1.set 1 (.slice a' (dropW s l).length c')
  have c2 := hb2.cell 1 _ rfl
  have HB2 := Lib.hid hb2
  have HO := Lib.hid ho1
  have HK := Lib.hid hk1
  clear hb1 ho1 hk1 hb2
  go_wp2_with (fail)
  go_ret
  refine ⟨rfl, WL.mk HB2.out (ownsRow.kp HO.out (Kp.set1 (S := fun i => i = b) (Kp.refl _ _) b 1 _ rfl) (fun i hi => HRB.out i (by rw [← hr1]; exact hi))) hr1 HRB.out, Kp.set1 HK.out b 1 _ (.inl rfl)⟩
end Go.Proofs.YtnkhmkcpdgmjmaaGreatDoor

/- Walks: watches: the closure of Fire. -/
namespace Go.Proofs.YtnkhmkcpdgmjmaaGreatDoor
set_option maxRecDepth 100000
open Go.RowKit Av

abbrev evT : TypeId := 82
abbrev evsT : TypeId := 78
theorem ev_facts : ElemOk Tryz.prog evsT evT 3 := ⟨by kernel_rfl, by kernel_rfl⟩
theorem wt_one (xs : List Wt) : ∀ y ∈ xs.flatMap wcell, y.oneCell' = true := by
  intro y hy
  obtain ⟨e, _, he⟩ := List.mem_flatMap.1 hy
  exact wcell_one e y he
/-- What Fire's closure leans on. -/
structure FInv (pb ub cb ob : Nat) (p up : ByteArray) (ch : Int) (rb base : Nat) (seen : List Wt) (cur : Option Nat) (W : World) : Prop where
  pc : W.cell? ⟨pb, 0, none⟩ = some (.string p)
  uc : W.cell? ⟨ub, 0, none⟩ = some (.string up)
  cc : W.cell? ⟨cb, 0, none⟩ = some (.int .i64 ch)
  out : ∃ v, Blk W ob #[v] evsT ∧ W.ownsRow base evT 3 v (toldW (evG p up ch) seen).length ((toldW (evG p up ch) seen).flatMap wcell) ∧ cur = v.ownBlock
  ne : (ob ≠ pb ∧ ob ≠ ub ∧ ob ≠ cb) ∧ (pb < base ∧ ub < base ∧ cb < base ∧ ob < base) ∧ (pb ≠ rb ∧ ub ≠ rb ∧ cb ≠ rb ∧ ob ≠ rb) ∧ rb < base ∧ base ≤ W.heap.size
theorem own_at {w : World} {base k n : Nat} {e : TypeId} {v : Value} {xs : List Value} (h : w.ownsRow base e k v n xs) {i : Nat} (hi : v.ownBlock = some i) : base ≤ i ∧ i < w.heap.size := by
  obtain ⟨_, ⟨rfl, _⟩ | ⟨g, cap, cur, rfl, hb, hg, _⟩⟩ := h
  · simp [Value.ownBlock] at hi
  · simp only [Value.ownBlock, Option.some.injEq] at hi
    subst hi
    exact ⟨hb, (Array.getElem?_eq_some_iff.1 hg).1⟩
theorem FInv.kp {pb ub cb ob : Nat} {p up : ByteArray} {ch : Int} {rb base : Nat} {seen : List Wt} {cur : Option Nat} {W W' : World} {S : Nat → Prop} (h : FInv pb ub cb ob p up ch rb base seen cur W) (k : Kp S W W') (hs : ∀ i, S i → i = rb ∨ W.heap.size ≤ i) : FInv pb ub cb ob p up ch rb base seen cur W' := by
  obtain ⟨hp, hu, hc, ⟨v, h1, h2, h3⟩, hne⟩ := h
  obtain ⟨⟨n1, n2, n3⟩, ⟨m1, m2, m3, m4⟩, ⟨k1, k2, k3, k4⟩, hrb, hb⟩ := hne
  have key : ∀ i, i < base → i ≠ rb → ¬ S i := fun i hi hn hS => (hs i hS).elim (fun h => hn h) (fun h => by omega)
  refine ⟨k.cell hp (key pb m1 k1), k.cell hu (key ub m2 k2), k.cell hc (key cb m3 k3), ⟨v, h1.kp k (key ob m4 k4), ownsRow.kp h2 k (fun i hi hS => ?_), h3⟩, ⟨n1, n2, n3⟩, ⟨m1, m2, m3, m4⟩, ⟨k1, k2, k3, k4⟩, hrb, Nat.le_trans hb k.size⟩
  have := own_at h2 hi
  rcases hs i hS with h | h <;> omega
set_option maxHeartbeats 1600000 in
theorem fireAsk (pb ub cb ob : Nat) (p up : ByteArray) (ch : Int) (rb base : Nat) : Asked 210 #[.pointer (some ⟨pb, 0, none⟩), .pointer (some ⟨ub, 0, none⟩), .pointer (some ⟨cb, 0, none⟩), .pointer (some ⟨ob, 0, none⟩)] (fun x => decide (evG p up ch x ≠ 0)) (fun i => i = ob ∧ ob ≠ rb ∧ ob < base) base rb (FInv pb ub cb ob p up ch rb base) := by
  refine ⟨enters_of Tryz.func210 (by kernel_rfl) rfl, ?_, ?_, ?_, ?_⟩
  · intro seen cur x W hn hI
    have HI := Lib.hid hI
    have HTS := Lib.hid (toldW_snoc (evG p up ch) seen x)
    have htl : (toldW (evG p up ch) seen).length ≤ seen.length := List.length_filterMap_le _ _
    obtain ⟨r, hr⟩ : ∃ r, evG p up ch x = r := ⟨_, rfl⟩
    rw [hr] at HTS
    have HEV := Lib.hid (fun W => event_any x p up ch W)
    rw [hr] at HEV
    have HR := Lib.hid hr
    simp only [hr]
    obtain ⟨W1, hW1⟩ : ∃ W1, W.alloc (.cells (wcell x).toArray 215) = W1 := ⟨_, rfl⟩
    have hx1 : Ext W W1 := by rw [← hW1]; exact (Kp.refl _ _).alloc _
    have hb1 : Blk W1 W.heap.size (wcell x).toArray 215 := by rw [← hW1]; exact heap_alloc_new W _
    have hi1 := hI.kp (S := fun _ => False) hx1 (fun _ f => f.elim)
    have q1 := hi1.pc
    have q2 := hi1.uc
    have q3 := hi1.cc
    have HI1 := Lib.hid hi1
    have HX1 := Lib.hid hx1
    have HB1 := Lib.hid hb1
    obtain ⟨xs, xp, xk⟩ := x
    have b0 := hb1.cell 0 _ rfl
    have b1 := hb1.cell 1 _ rfl
    have b2 := hb1.cell 2 _ rfl
    clear hI hi1 hx1 hb1 hr
    go_enter Tryz.func210, Tryz.ntmps210
    go_wp2_with (fail)
    refine (HEV.out _).mono ?_
    rintro e W2 ⟨rfl, hx2⟩
    have hi2 := HI1.out.kp (S := fun _ => False) hx2 (fun _ f => f.elim)
    have hb2 := HB1.out.kp hx2 (fun f => f)
    have HX2 := Lib.hid (HX1.out.trans hx2)
    have HI2 := Lib.hid hi2
    clear HI1 HX1 HB1 HEV hx2 q1 q2 q3 b0 b1 b2
    by_cases h0 : r = 0
    · subst h0
      have HT : Hid (toldW (evG p up ch) (seen ++ [⟨xs, xp, xk⟩]) = toldW (evG p up ch) seen) := by show _ = _; rw [HTS.out, if_pos rfl]
      clear hi2 hb2 HTS
      go_wp2_with (fail)
      go_ret
      go_light
      refine ⟨ret_bool (by simp), cur, ?_, Ext.kp HX2.out⟩
      have h := HI2.out
      obtain ⟨v, h1, h2, h3⟩ := h.out
      exact ⟨h.pc, h.uc, h.cc, ⟨v, h1, by rw [HT.out]; exact h2, h3⟩, h.ne⟩
    · have HT : Hid (toldW (evG p up ch) (seen ++ [⟨xs, xp, xk⟩]) = toldW (evG p up ch) seen ++ [⟨xs, xp, r⟩]) := by show _ = _; rw [HTS.out, if_neg h0]
      obtain ⟨v, hob, how, hcu⟩ := hi2.out
      obtain ⟨a3, l3, c3, hv3⟩ : ∃ a3 l3 c3, v = .slice a3 l3 c3 := by obtain ⟨a3, c3, e, _⟩ := Sl.open (Sl.of_owns how); exact ⟨_, _, _, e⟩
      subst hv3
      have o0 := hob.cell 0 _ rfl
      have b0 := hb2.cell 0 _ rfl
      have b1 := hb2.cell 1 _ rfl
      have HOB := Lib.hid hob
      have HOW := Lib.hid how
      have HCU := Lib.hid hcu
      have hone := wt_one [(⟨xs, xp, r⟩ : Wt)]
      clear hi2 hb2 HTS hob how hcu
      go_wp2_with (at_builtin; refine wpList_appK evsT evT 3 (by decide) ev_facts rfl _ _ rfl base _ _ _ rfl (ownsRow.ext HOW.out ((Kp.refl _ _).alloc _)) _ 1 ([(⟨xs, xp, r⟩ : Wt)].flatMap wcell) rfl (Sl.of_block (heap_alloc_new W2 _) rfl (by decide) (Nat.le_refl _)) Shp.some hone ?c1 ?c2 ?_)
      case c1 => omega
      case c2 => have := HI2.out.ne.2.2.2.2; simp; omega
      intro v' w' h1 k2
      obtain ⟨a4, l4, c4, hv4⟩ : ∃ a4 l4 c4, v' = .slice a4 l4 c4 := by obtain ⟨a4, c4, e, _⟩ := Sl.open (Sl.of_owns h1); exact ⟨_, _, _, e⟩
      subst hv4
      have hob1 : Blk w' ob #[.slice a3 l3 c3] evsT := (HOB.out.kp (S := fun _ => False) ((Kp.refl _ _).alloc _) (fun f => f)).kp k2 (fun e => by
        have h5 := (own_at HOW.out e).1
        have := HI2.out.ne.2.1.2.2.2
        omega)
      have o1 := hob1.cell 0 _ rfl
      have f1 := hob1.free 0
      have hin : FInv pb ub cb ob p up ch rb base seen cur (W2.alloc (.cells #[.int .i64 xs, .string xp, .int .i64 r] 82)) := HI2.out.kp (S := fun _ => False) ((Kp.refl _ _).alloc _) (fun _ f => f.elim)
      have hkw : Kp (fun i => (i = ob ∧ ob ≠ rb ∧ ob < base) ∨ cur = some i) W w' := Kp.next (S := fun i => (i = ob ∧ ob ≠ rb ∧ ob < base) ∨ cur = some i) (Ext.kp (HX2.out.alloc _)) k2 (fun i _ e => .inr (by rw [HCU.out]; exact e))
      have hq : w'.cell? ⟨pb, 0, none⟩ = some (.string p) ∧ w'.cell? ⟨ub, 0, none⟩ = some (.string up) ∧ w'.cell? ⟨cb, 0, none⟩ = some (.int .i64 ch) ∧ base ≤ w'.heap.size := by
        have m := HI2.out.ne.2.1
        have z : ∀ i, i < base → (Value.slice a3 l3 c3).ownBlock = some i → False := fun i hi e => by have := (own_at HOW.out e).1; omega
        exact ⟨k2.cell hin.pc (z pb m.1), k2.cell hin.uc (z ub m.2.1), k2.cell hin.cc (z cb m.2.2.1), Nat.le_trans hin.ne.2.2.2.2 k2.size⟩
      have HQ := Lib.hid hq
      have HKW := Lib.hid hkw
      have HOB1 := Lib.hid hob1
      have HOW1 := Lib.hid h1
      clear h1 k2 hob1 hin hkw hq o0 b0 b1 hone
      go_wp2_with (fail)
      go_ret
      go_light
      have hne := HI2.out.ne
      have hst : Kp (fun i => i = ob) w' (w'.setCell ⟨ob, 0, none⟩ (.slice a4 l4 c4)) := Kp.set1 (S := fun i => i = ob) (Kp.refl _ _) ob 0 _ rfl
      refine ⟨ret_bool (by simp [h0]), (Value.slice a4 l4 c4).ownBlock, ⟨hst.cell HQ.out.1 (fun e => hne.1.1 e.symm), hst.cell HQ.out.2.1 (fun e => hne.1.2.1 e.symm), hst.cell HQ.out.2.2.1 (fun e => hne.1.2.2 e.symm), ⟨.slice a4 l4 c4, HOB1.out.set 0 _, ?_, rfl⟩, hne.1, hne.2.1, hne.2.2.1, hne.2.2.2.1, Nat.le_trans HQ.out.2.2.2 hst.size⟩, HKW.out.set1 ob 0 _ (.inl ⟨rfl, hne.2.2.1.2.2.2, hne.2.1.2.2.2⟩)⟩
      rw [HT.out]
      have h6 : w'.ownsRow base evT 3 (.slice a4 l4 c4) (toldW (evG p up ch) seen ++ [(⟨xs, xp, r⟩ : Wt)]).length ((toldW (evG p up ch) seen ++ [(⟨xs, xp, r⟩ : Wt)]).flatMap wcell) := by
        rw [flatMap_snoc, List.length_append]; simpa using HOW1.out
      exact ownsRow.kp h6 hst (fun i hi e => by have := (own_at HOW1.out hi).1; have := hne.2.1.2.2.2; omega)
  · intro seen cur W W' hI hk
    exact hI.kp hk (fun i hi => .inl hi)
  · intro seen cur W i hI he
    obtain ⟨v, h1, h2, h3⟩ := hI.out
    have hb := own_at h2 (i := i) (by rw [← h3, he])
    exact ⟨hb.1, hb.2, by have := hI.ne.2.2.2.1; omega⟩
  · rintro i ⟨rfl, h1, h2⟩
    exact ⟨h1, h2⟩
end Go.Proofs.YtnkhmkcpdgmjmaaGreatDoor

/- Walks: watches: Fire. -/
namespace Go.Proofs.YtnkhmkcpdgmjmaaGreatDoor
set_option maxRecDepth 100000
open Go.RowKit Av

set_option maxHeartbeats 800000 in
theorem indexFunc_none (a : Option Addr) (c : Nat) (fv : Value) (w : World) : Calls Tryz.prog 214 #[.slice a 0 c, fv] w fun e w' => e = .returned (.int .i64 (-1)) ∧ w = w' := by
  go_enter Tryz.func214, Tryz.ntmps214
  go_wp2_with (fail)
  refine wp_loop_rounds 1 ?_
  rw [rounds_succ]
  go_wp2_with (fail)
  go_ret
  exact ⟨rfl, rfl⟩
set_option maxHeartbeats 800000 in
theorem deleteFunc_none (a : Option Addr) (c : Nat) (fv : Value) (w : World) : Calls Tryz.prog 172 #[.slice a 0 c, fv] w fun e w' => e = .returned (.slice a 0 c) ∧ w = w' := by
  go_enter Tryz.func172, Tryz.ntmps172
  go_wp2_with (fail)
  refine (indexFunc_none a c fv w).mono ?_
  rintro e w1 ⟨rfl, rfl⟩
  go_wp2_with (fail)
  go_ret
  exact ⟨rfl, rfl⟩
/-- What the deletion makes, whatever the length. -/
theorem fireDel (b room : Nat) (ro : Option Nat) (a : Option Addr) (c : Nat) (l : List Wt) (pb ub cb ob : Nat) (p up : ByteArray) (ch : Int) (W : World)
    (hb : Blk W b #[.int .i64 room, .slice a l.length c] wlT) (hown : W.ownsRow 0 215 3 (.slice a l.length c) l.length (l.flatMap wcell)) (had : ∀ x, a = some x → ro = some x.block) (hro : ∀ i, ro = some i → i ≠ b ∧ i < W.heap.size ∧ i ≠ pb ∧ i ≠ ub ∧ i ≠ cb ∧ i ≠ ob)
    (hn : l.length ≤ 100000) (hpc : W.cell? ⟨pb, 0, none⟩ = some (.string p)) (huc : W.cell? ⟨ub, 0, none⟩ = some (.string up)) (hcc : W.cell? ⟨cb, 0, none⟩ = some (.int .i64 ch)) (hoc : Blk W ob #[.slice none 0 0] evsT) (hne : ob ≠ pb ∧ ob ≠ ub ∧ ob ≠ cb) (hob : ob ≠ b) :
    Calls Tryz.prog 172 #[.slice a l.length c, .func (.func 210) #[] #[.pointer (some ⟨pb, 0, none⟩), .pointer (some ⟨ub, 0, none⟩), .pointer (some ⟨cb, 0, none⟩), .pointer (some ⟨ob, 0, none⟩)]] W fun e w' =>
      ∃ a' c' v, e = .returned (.slice a' (restW (evG p up ch) l).length c') ∧ Blk w' b #[.int .i64 room, .slice a l.length c] wlT ∧ w'.ownsRow 0 215 3 (.slice a' (restW (evG p up ch) l).length c') (restW (evG p up ch) l).length ((restW (evG p up ch) l).flatMap wcell) ∧ (Value.slice a' (restW (evG p up ch) l).length c').ownBlock = (Value.slice a l.length c).ownBlock ∧
        Blk w' ob #[v] evsT ∧ w'.ownsRow W.heap.size evT 3 v (toldW (evG p up ch) l).length ((toldW (evG p up ch) l).flatMap wcell) ∧ Kp (fun i => i = ob ∨ ro = some i) W w' := by
  cases l with
  | nil =>
    refine (deleteFunc_none a c _ W).mono ?_
    rintro e w' ⟨rfl, rfl⟩
    exact ⟨a, c, .slice none 0 0, rfl, hb, hown, rfl, hoc, ⟨rfl, .inl ⟨rfl, rfl⟩⟩, Kp.refl _ _⟩
  | cons x r =>
    obtain ⟨ad, rfl⟩ : ∃ ad, a = some ad := by
      cases a with
      | some ad => exact ⟨ad, rfl⟩
      | none => obtain ⟨_, h | ⟨g, c, cur, hv, _⟩⟩ := hown
                · simp at h
                · simp at hv
    generalize x :: r = l at *
    have hr := had ad rfl
    obtain ⟨k1, k2, k3, k4, k5, k6⟩ := hro _ hr
    have hpl := World.block_lt_of_cell? W _ hpc
    have hul := World.block_lt_of_cell? W _ huc
    have hcl := World.block_lt_of_cell? W _ hcc
    have hol := hoc.lt
    have hI : FInv pb ub cb ob p up ch ad.block W.heap.size [] none W := ⟨hpc, huc, hcc, ⟨.slice none 0 0, hoc, ⟨rfl, .inl ⟨rfl, rfl⟩⟩, rfl⟩, hne, ⟨hpl, hul, hcl, hol⟩, ⟨Ne.symm k3, Ne.symm k4, Ne.symm k5, Ne.symm k6⟩, k2, Nat.le_refl _⟩
    refine (deleteFunc_any (fireAsk pb ub cb ob p up ch ad.block W.heap.size) 0 (some ad) l c W hown (fun y hy => by cases hy; rfl) (fun _ => k2) (Nat.le_refl _) hn ⟨none, hI⟩).mono ?_
    rintro e w' ⟨⟨rfl, ho, cur, hi⟩, hk⟩
    have hd : (l.filter fun x => !(decide (evG p up ch x ≠ 0))) = restW (evG p up ch) l := by unfold restW; congr 1; funext x; by_cases h : evG p up ch x = 0 <;> simp [h]
    rw [hd] at ho ⊢
    obtain ⟨v, h1, h2, h3⟩ := hi.out
    have hk2 : Kp (fun i => i = ob ∨ ro = some i) W w' := hk.mono (fun i hi h => by
      rcases h with (h | h) | h
      · exact .inl h.1
      · omega
      · exact .inr (by rw [hr, h]))
    refine ⟨_, _, v, rfl, hb.kp hk2 (fun h => ?_), ho, rfl, h1, h2, hk2⟩
    rcases h with h | h
    · exact hob h.symm
    · exact (hro _ h).1 rfl
theorem fireOk_no {p : ByteArray} {ch : Int} {l : List Wt} (h : fireOk p ch = false) : fireT p ch l = [] ∧ fireG p ch l = l := by unfold fireT fireG; simp [h]
theorem fireOk_yes {p : ByteArray} {ch : Int} {l : List Wt} (h : fireOk p ch = true) : fireT p ch l = toldW (evG p (optS (parentL p.data.toList)) ch) (sortW l) ∧ fireG p ch l = restW (evG p (optS (parentL p.data.toList)) ch) (sortW l) := by unfold fireT fireG; simp [h]
set_option maxHeartbeats 3200000 in
theorem watFire_any (b : Nat) (ro : Option Nat) (room : Nat) (l : List Wt) (p : ByteArray) (ch : Int) (w : World) (h : WL w b ro room l) (hG : GL w) (hp : p.size ≤ maxLen) (hn : l.length ≤ 100000) :
    Calls Tryz.prog 168 #[.pointer (some ⟨b, 0, none⟩), .string p, .int .i64 ch] w fun e w' =>
      ∃ v, e = .returned v ∧ w'.ownsRow w.heap.size evT 3 v (fireT p ch l).length ((fireT p ch l).flatMap wcell) ∧ WL w' b ro room (fireG p ch l) ∧ Kp (fun i => i = b ∨ ro = some i) w w' := by
  obtain ⟨W1, hW1⟩ : ∃ W1, (w.alloc (.cells #[.string p] 9)).alloc (.cells #[.int .i64 ch] 3) = W1 := ⟨_, rfl⟩
  have hx1 : Ext w W1 := by rw [← hW1]; exact ((Kp.refl _ _).alloc _).alloc _
  have hs1 : W1.heap.size = w.heap.size + 2 := by rw [← hW1]; simp
  have hp1 : Blk W1 w.heap.size #[.string p] 9 := by rw [← hW1]; exact Blk.kp (S := fun _ => False) (heap_alloc_new w _) ((Kp.refl _ _).alloc _) (fun f => f)
  have hc1 : Blk W1 (w.heap.size + 1) #[.int .i64 ch] 3 := by
    rw [← hW1]
    have := heap_alloc_new (w.alloc (.cells #[.string p] 9)) (.cells #[.int .i64 ch] 3)
    simpa [Blk] using this
  have HGd := Lib.hid (Good_any p W1 (hG.ext hx1) hp)
  cases hok : fireOk p ch with
  | false =>
    obtain ⟨e1, e2⟩ := fireOk_no (l := l) hok
    have HH := Lib.hid (show ∀ w', Ext w w' → ∃ v, Ending.returned (.slice none 0 0) = .returned v ∧ w'.ownsRow w.heap.size evT 3 v (fireT p ch l).length ((fireT p ch l).flatMap wcell) ∧ WL w' b ro room (fireG p ch l) ∧ Kp (fun i => i = b ∨ ro = some i) w w' from fun w' hx => by
      rw [e1, e2]; exact ⟨_, rfl, ⟨rfl, .inl ⟨rfl, rfl⟩⟩, h.ext hx, hx.kp⟩)
    have p1 := hp1.cell 0 _ rfl
    have q1 := hc1.cell 0 _ rfl
    cases hgd : goodL p.data.toList with
    | false =>
      rw [hgd] at HGd
      have HX1 := Lib.hid hx1
      have HP1 := Lib.hid hp1
      have HC1 := Lib.hid hc1
      clear h hG hok e1 e2 hgd hx1 hp1 hc1 hs1
      go_enter Tryz.func168, Tryz.ntmps168
      go_wp2_with (fail)
      refine HGd.out.mono ?_
      rintro e W2 ⟨rfl, hx2⟩
      have HX2 := Lib.hid (HX1.out.trans hx2)
      clear hx2
      go_wp2_with (fail)
      go_ret
      exact HH.out _ HX2.out
    | true =>
      rw [hgd] at HGd
      have hch : ch < 1 ∨ 3 < ch := by
        by_cases h1 : ch < 1
        · exact .inl h1
        · by_cases h2 : 3 < ch
          · exact .inr h2
          · have := (fireOk_iff p ch).2 ⟨hgd, by omega, by omega⟩
            rw [hok] at this; cases this
      have HX1 := Lib.hid hx1
      have HP1 := Lib.hid hp1
      have HC1 := Lib.hid hc1
      clear h hG hok e1 e2 hgd hx1 hp1 hc1 hs1
      go_enter Tryz.func168, Tryz.ntmps168
      go_wp2_with (fail)
      refine HGd.out.mono ?_
      rintro e W2 ⟨rfl, hx2⟩
      have p2 := (HP1.out.kp hx2 (fun f => f)).cell 0 _ rfl
      have q2 := (HC1.out.kp hx2 (fun f => f)).cell 0 _ rfl
      have HX2 := Lib.hid (HX1.out.trans hx2)
      clear hx2 p1 q1
      by_cases h1 : ch < 1
      · clear hch
        go_wp2_with (fail)
        go_ret
        exact HH.out _ HX2.out
      · have h2 : 3 < ch := by omega
        clear hch
        go_wp2_with (fail)
        go_ret
        exact HH.out _ HX2.out
  | true =>
    obtain ⟨e1, e2⟩ := fireOk_yes (l := l) hok
    obtain ⟨hgd, hc1', hc3'⟩ := (fireOk_iff p ch).1 hok
    have a1 : ¬ ch < 1 := by omega
    have a2 : ¬ 3 < ch := by omega
    have HE1 := Lib.hid e1
    have HE2 := Lib.hid e2
    rw [hgd] at HGd
    have HPar := Lib.hid (fun W (hW : Ext w W) => Parent_any p W (hG.ext hW) hp)
    obtain ⟨up, hup⟩ : ∃ up, optS (parentL p.data.toList) = up := ⟨_, rfl⟩
    obtain ⟨un, hun⟩ : ∃ un, (parentL p.data.toList).isSome = un := ⟨_, rfl⟩
    rw [hup, hun] at HPar
    rw [hup] at HE1 HE2
    have hlt := h.lt
    have HLT := Lib.hid hlt
    have HW := Lib.hid h
    have HX1 := Lib.hid hx1
    have HP1 := Lib.hid hp1
    have HC1 := Lib.hid hc1
    have HS1 := Lib.hid hs1
    have p1 := hp1.cell 0 _ rfl
    have q1 := hc1.cell 0 _ rfl
    clear h hG hok e1 e2 hgd hx1 hp1 hc1 hs1 hup hun hc1' hc3' hlt
    go_enter Tryz.func168, Tryz.ntmps168
    go_wp2_with (fail)
    refine HGd.out.mono ?_
    rintro e W2 ⟨rfl, hx2⟩
    have p2 := (HP1.out.kp hx2 (fun f => f)).cell 0 _ rfl
    have q2 := (HC1.out.kp hx2 (fun f => f)).cell 0 _ rfl
    have HX2 := Lib.hid (HX1.out.trans hx2)
    have HP2 := Lib.hid (HP1.out.kp hx2 (fun f => f))
    have HC2 := Lib.hid (HC1.out.kp hx2 (fun f => f))
    have HS2 : Hid (w.heap.size + 2 ≤ W2.heap.size) := by show _ ≤ _; have := hx2.size; have := HS1.out; omega
    clear hx2 p1 q1 HX1 HP1 HC1 HGd HS1
    go_wp2_with (fail)
    refine (HPar.out W2 HX2.out).mono ?_
    rintro e W3 ⟨rfl, hx3⟩
    have HX3 := Lib.hid (HX2.out.trans hx3)
    have HP3 := Lib.hid (HP2.out.kp hx3 (fun f => f))
    have HC3 := Lib.hid (HC2.out.kp hx3 (fun f => f))
    have HS3 : Hid (w.heap.size + 2 ≤ W3.heap.size) := by show _ ≤ _; have := hx3.size; have := HS2.out; omega
    clear hx3 p2 q2 HX2 HP2 HC2 HS2 HPar
    obtain ⟨W4, hW4⟩ : ∃ W4, W3.alloc (.cells #[.string up] 9) = W4 := ⟨_, rfl⟩
    have hx4 : Ext W3 W4 := by rw [← hW4]; exact (Kp.refl _ _).alloc _
    have hu4 : Blk W4 W3.heap.size #[.string up] 9 := by rw [← hW4]; exact heap_alloc_new W3 _
    have hs4 : W4.heap.size = W3.heap.size + 1 := by rw [← hW4]; simp
    obtain ⟨a, c, hb4, hown4, hro4, hrb4, had4⟩ := (HW.out.ext (HX3.out.trans hx4)).open
    have c1 := hb4.cell 1 _ rfl
    have HSRT := Lib.hid (sort_any a c l W4 0 hown4 hn)
    have HB4 := Lib.hid hb4
    have HRO := Lib.hid hro4
    have HRB := Lib.hid hrb4
    have HAD := Lib.hid had4
    have HX4 := Lib.hid (HX3.out.trans hx4)
    have HP4 := Lib.hid (HP3.out.kp hx4 (fun f => f))
    have HC4 := Lib.hid (HC3.out.kp hx4 (fun f => f))
    have HU4 := Lib.hid hu4
    have HS4 := Lib.hid hs4
    have hsl := sortW_len l
    clear hx4 hu4 hs4 hb4 hown4 hro4 hrb4 had4 HX3 HP3 HC3
    go_wp2_with (fail)
    refine HSRT.out.mono ?_
    rintro e W5 ⟨rfl, ho5, hk5⟩
    rw [hsl] at ho5
    have hk5' : Kp (fun i => ro = some i) W4 W5 := hk5.mono (fun i _ h => by obtain ⟨x, hx, rfl⟩ := h; exact HAD.out x hx)
    have hnr : ∀ i, w.heap.size ≤ i → ¬ ro = some i := fun i hi h => by have := HLT.out.2 i h; omega
    obtain ⟨W6, hW6⟩ : ∃ W6, W5.alloc (.cells #[.slice none 0 0] evsT) = W6 := ⟨_, rfl⟩
    have hx6 : Ext W5 W6 := by rw [← hW6]; exact (Kp.refl _ _).alloc _
    have ho6 : Blk W6 W5.heap.size #[.slice none 0 0] evsT := by rw [← hW6]; exact heap_alloc_new W5 _
    have hs6 : W6.heap.size = W5.heap.size + 1 := by rw [← hW6]; simp
    have hk6 : Kp (fun i => ro = some i) W4 W6 := hk5'.ext hx6
    have hb6 : Blk W6 b #[.int .i64 room, .slice a l.length c] wlT := HB4.out.kp hk6 (fun h => HRB.out b h rfl)
    have hp6 := HP4.out.kp hk6 (hnr _ (Nat.le_refl _))
    have hc6 := HC4.out.kp hk6 (hnr _ (by omega))
    have hu6 := HU4.out.kp hk6 (hnr _ (by have := HS3.out; omega))
    have hs5 : W4.heap.size ≤ W5.heap.size := hk5.size
    have hs3 := HS3.out
    have hs4 := HS4.out
    have hlt := HLT.out
    have hdel := fireDel b room ro a c (sortW l) w.heap.size W3.heap.size (w.heap.size + 1) W5.heap.size p up ch W6 (by rw [hsl]; exact hb6) (by rw [hsl]; exact ownsRow.ext ho5 hx6) HAD.out (fun i hi => by have := hlt.2 i hi; exact ⟨HRB.out i hi, by omega, by omega, by omega, by omega, by omega⟩) (by rw [hsl]; exact hn) (hp6.cell 0 _ rfl) (hu6.cell 0 _ rfl) (hc6.cell 0 _ rfl) ho6 ⟨by omega, by omega, by omega⟩ (by omega)
    rw [hsl] at hdel
    have HDEL := Lib.hid hdel
    have HKW : Hid (Kp (fun i => ro = some i) w W6) := Kp.next (S := fun i => ro = some i) (Ext.kp HX4.out) hk6 (fun i _ h => h)
    have HSZ : Hid (w.heap.size ≤ W6.heap.size ∧ w.heap.size ≤ W5.heap.size) := ⟨by omega, by omega⟩
    have c1 := hb6.cell 1 _ rfl
    clear hdel hk5 hk5' hx6 ho6 hs6 hk6 hp6 hc6 hu6 hs5 hs3 hs4 hlt hb6 ho5 HSRT HX4 HP4 HC4 HU4 HB4 HS4 hnr hsl
    go_wp2_with (fail)
    refine HDEL.out.mono ?_
    rintro e W7 ⟨a', c', v, rfl, hb7, ho7, hr7, hob7, hev7, hk7⟩
    have g1 := hb7.cell 1 _ rfl
    have f1 := hb7.free 1
    have hobb : W5.heap.size ≠ b := by have := HLT.out.1; have := HSZ.out.2; omega
    obtain ⟨av, cv, hv⟩ : ∃ av cv, v = .slice av (toldW (evG p up ch) (sortW l)).length cv := by obtain ⟨a4, c4, e, _⟩ := Sl.open (Sl.of_owns hev7); exact ⟨_, _, e⟩
    subst hv
    have g2 := hob7.cell 0 _ rfl
    have hst : ∀ u, Kp (fun i => i = b) W7 (W7.setCell ⟨b, 1, none⟩ u) := fun u => Kp.set1 (S := fun i => i = b) (Kp.refl _ _) b 1 _ rfl
    have g3 := fun u => (hst u).cell g2 hobb
    have HB7 := Lib.hid hb7
    have HO7 := Lib.hid ho7
    have HR7 := Lib.hid hr7
    have HEV7 := Lib.hid hev7
    have HST := Lib.hid hst
    have HK7 : Hid (Kp (fun i => i = b ∨ ro = some i) w W7) := Kp.next (S := fun i => i = b ∨ ro = some i) (HKW.out.mono (fun i _ h => .inr h)) hk7 (fun i hi h => by
      rcases h with h | h
      · have := HSZ.out.2; omega
      · exact .inr h)
    clear hb7 ho7 hr7 hob7 hev7 hk7 hst HDEL HKW c1
    go_wp2_with (fail)
    go_ret
    refine ⟨_, rfl, ?_, WL.mk (v := .slice a' (restW (evG p up ch) (sortW l)).length c') (HB7.out.set 1 _) ?_ (HR7.out.trans HRO.out) HRB.out, HK7.out.set1 b 1 _ (.inl rfl)⟩
    · rw [HE1.out]
      refine ownsRow.base_mono (ownsRow.kp HEV7.out (HST.out _) (fun i hi e => ?_)) HSZ.out.1
      have := (own_at HEV7.out hi).1
      have := HLT.out.1
      have := HSZ.out.1
      omega
    · rw [HE2.out]
      exact ownsRow.kp HO7.out (HST.out _) (fun i hi e => HRB.out i (by rw [← HRO.out, ← HR7.out]; exact hi) e)
end Go.Proofs.YtnkhmkcpdgmjmaaGreatDoor
