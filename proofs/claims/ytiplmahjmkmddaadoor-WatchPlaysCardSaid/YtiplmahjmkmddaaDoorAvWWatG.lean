/- Walks: watches: New, Len, Drop. -/
import Derived.Test.YtiplmahjmkmddaaDoorAvWWatF
import Derived.Test.YtiplmahjmkmddaaDoorAvWPathB
import Derived.Deep.RegionHeld3
import Derived.Deep.AppendLies
namespace Go.Proofs.YtiplmahjmkmddaaDoor
set_option maxRecDepth 100000
open Go.RowKit Av

abbrev wlT : TypeId := 49
theorem own_slice (a : Option Addr) (n m c c' : Nat) : (Value.slice a n c).ownBlock = (Value.slice a m c').ownBlock := by cases a <;> rfl
/-- Watches at block b, the row in block ro. -/
def WL (w : World) (b : Nat) (ro : Option Nat) (room : Nat) (l : List Wt) : Prop :=
  ∃ v, Blk w b #[.int .i64 room, v] wlT ∧ w.ownsRow 0 51 3 v l.length (l.flatMap wcell) ∧ v.ownBlock = ro ∧ ∀ i, ro = some i → i ≠ b
theorem WL.kp {S : Nat → Prop} {w w' : World} {b room : Nat} {ro : Option Nat} {l : List Wt} (h : WL w b ro room l) (k : Kp S w w') (hb : ¬ S b) (hr : ∀ i, ro = some i → ¬ S i) : WL w' b ro room l := by
  obtain ⟨v, h1, h2, h3, h4⟩ := h
  exact ⟨v, h1.kp k hb, ownsRow.kp h2 k (fun i hi => hr i (by rw [← h3, hi])), h3, h4⟩
theorem WL.ext {w w' : World} {b room : Nat} {ro : Option Nat} {l : List Wt} (h : WL w b ro room l) (k : Ext w w') : WL w' b ro room l := h.kp k (fun f => f) (fun _ _ f => f)
theorem WL.lt {w : World} {b room : Nat} {ro : Option Nat} {l : List Wt} (h : WL w b ro room l) : b < w.heap.size ∧ ∀ i, ro = some i → i < w.heap.size := by
  obtain ⟨v, h1, h2, h3, h4⟩ := h
  refine ⟨h1.lt, fun i hi => ?_⟩
  subst h3
  obtain ⟨_, ⟨rfl, _⟩ | ⟨g, cap, cur, rfl, _, hg, _⟩⟩ := h2
  · simp [Value.ownBlock] at hi
  · simp only [Value.ownBlock, Option.some.injEq] at hi
    subst hi
    exact (Array.getElem?_eq_some_iff.1 hg).1
theorem WL.open {w : World} {b room : Nat} {ro : Option Nat} {l : List Wt} (h : WL w b ro room l) : ∃ a c, Blk w b #[.int .i64 room, .slice a l.length c] wlT ∧ w.ownsRow 0 51 3 (.slice a l.length c) l.length (l.flatMap wcell) ∧ (Value.slice a l.length c).ownBlock = ro ∧ (∀ i, ro = some i → i ≠ b) ∧ (∀ x, a = some x → ro = some x.block) := by
  obtain ⟨v, h1, h2, h3, h4⟩ := h
  obtain ⟨a, c, rfl, _⟩ := Sl.open (Sl.of_owns h2)
  refine ⟨a, c, h1, h2, h3, h4, fun x hx => ?_⟩
  subst hx
  rw [← h3]; rfl
theorem WL.mk {w : World} {b room : Nat} {ro : Option Nat} {l : List Wt} {v : Value} (h1 : Blk w b #[.int .i64 room, v] wlT) (h2 : w.ownsRow 0 51 3 v l.length (l.flatMap wcell)) (h3 : v.ownBlock = ro) (h4 : ∀ i, ro = some i → i ≠ b) : WL w b ro room l := ⟨v, h1, h2, h3, h4⟩
set_option maxHeartbeats 800000 in
theorem watNew_any (room : Nat) (w : World) (h1 : 1 ≤ room) (h2 : room ≤ 1000) : Calls Tryd.prog 9 #[.int .i64 room] w fun e w' => e = .returned (.tuple #[.pointer (some ⟨w.heap.size, 0, none⟩), .int .i64 0]) ∧ WL w' w.heap.size none room [] ∧ Ext w w' := by
  have a1 : ¬ (room : Int) < 1 := by omega
  have a2 : ¬ (1000 : Int) < room := by omega
  go_enter Tryd.func9, Tryd.ntmps9
  go_wp2_with (fail)
  go_ret2
  refine ⟨by simp, WL.mk (v := .slice none 0 0) (heap_alloc_new w _) ⟨rfl, .inl ⟨rfl, rfl⟩⟩ rfl (by simp), (Kp.refl _ _).alloc _⟩
set_option maxHeartbeats 800000 in
theorem watNew_bad (room : Int) (w : World) (h : room < 1 ∨ 1000 < room) : Calls Tryd.prog 9 #[.int .i64 room] w fun e w' => e = .returned (.tuple #[.pointer none, .int .i64 1]) ∧ w = w' := by
  by_cases a1 : room < 1
  · go_enter Tryd.func9, Tryd.ntmps9
    go_wp2_with (fail)
    go_ret2
    exact ⟨rfl, rfl⟩
  · have a2 : 1000 < room := by omega
    go_enter Tryd.func9, Tryd.ntmps9
    go_wp2_with (fail)
    go_ret2
    exact ⟨rfl, rfl⟩
/-- The closure of Drop. -/
def DInv (sb : Nat) (s : Int) (rb : Nat) (base : Nat) (_seen : List Wt) (cur : Option Nat) (W : World) : Prop := cur = none ∧ W.cell? ⟨sb, 0, none⟩ = some (.int .i64 s) ∧ sb ≠ rb ∧ base ≤ W.heap.size
set_option maxHeartbeats 800000 in
theorem dropAsk (sb : Nat) (s : Int) (rb base : Nat) : Asked 26 #[.pointer (some ⟨sb, 0, none⟩)] (fun x => decide (x.sess = s)) (fun _ => False) base rb (DInv sb s rb base) := by
  refine ⟨enters_of Tryd.func26 (by kernel_rfl) rfl, ?_, ?_, ?_, ?_⟩
  · intro seen cur x W _ hI
    obtain ⟨rfl, hc, hne, hbs⟩ := hI
    obtain ⟨xs, xp, xk⟩ := x
    have hlt := World.block_lt_of_cell? W _ hc
    have HH := Lib.hid (show ∀ W', Ext W W' → DInv sb s rb base (seen ++ [⟨xs, xp, xk⟩]) none W' from fun W' hx => ⟨rfl, hx.cell hc (fun f => f), hne, Nat.le_trans hbs hx.size⟩)
    have hcX : ∀ o : Obj, (W.alloc o).cell? ⟨sb, 0, none⟩ = some (.int .i64 s) := fun o => Lib.cell?_alloc_some o hc
    clear hbs hne
    go_enter Tryd.func26, Tryd.ntmps26
    go_wp2_with (fail)
    go_ret
    go_light
    refine ⟨ret_bool ?_, ⟨none, HH.out _ ((Kp.refl _ _).alloc _)⟩, (Kp.refl _ _).alloc _⟩
    first | rfl | (rw [Bool.eq_iff_iff]; simp)
  · intro seen cur W W' hI hk
    obtain ⟨rfl, hc, hne, hbs⟩ := hI
    exact ⟨rfl, hk.cell hc hne, hne, Nat.le_trans hbs hk.size⟩
  · intro seen cur W i hI he
    rw [hI.1] at he; cases he
  · intro i f; exact f.elim
set_option maxHeartbeats 1600000 in
theorem watDrop_any (b : Nat) (ro : Option Nat) (room : Nat) (l : List Wt) (s : Int) (w : World) (h : WL w b ro room l) (hn : l.length ≤ 100000) :
    Calls Tryd.prog 13 #[.pointer (some ⟨b, 0, none⟩), .int .i64 s] w fun e w' => e = .returned (.int .i64 ((l.length - (dropW s l).length : Nat) : Int)) ∧ WL w' b ro room (dropW s l) ∧ Kp (fun i => i = b ∨ ro = some i) w w' := by
  obtain ⟨hlt, hrl⟩ := h.lt
  obtain ⟨a, c, hb, hown, hro, hrb, had⟩ := h.open
  have hdl : (dropW s l).length ≤ l.length := List.length_filter_le _ _
  have e3 : IntKind.i64.wrap ((l.length : Int) - ((dropW s l).length : Int)) = ((l.length - (dropW s l).length : Nat) : Int) := by rw [IntWalk.i64_in _ (by omega)]; omega
  obtain ⟨W, hW⟩ : ∃ W, w.alloc (.cells #[.int .i64 s] 2) = W := ⟨_, rfl⟩
  have hx : Ext w W := by rw [← hW]; exact (Kp.refl _ _).alloc _
  have hs : Blk W w.heap.size #[.int .i64 s] 2 := by rw [← hW]; exact heap_alloc_new w _
  have hsz : W.heap.size = w.heap.size + 1 := by rw [← hW]; simp
  have c1 := (hb.kp hx (fun f => f)).cell 1 _ rfl
  have hcon : Calls Tryd.prog 23 #[.slice a l.length c, .func (.func 26) #[] #[.pointer (some ⟨w.heap.size, 0, none⟩)]] W fun e w' => ∃ v, e = .returned v ∧ Blk w' b #[.int .i64 room, .slice a l.length c] wlT ∧ w'.ownsRow 0 51 3 v (dropW s l).length ((dropW s l).flatMap wcell) ∧ v.ownBlock = ro ∧ Kp (fun i => i = b ∨ ro = some i) w w' := by
    have hrb2 : ∀ i, i = ro.getD W.heap.size → i < w.heap.size → ro = some i := by
      intro i hi hil
      cases hr : ro with
      | none => rw [hr] at hi; simp at hi; omega
      | some r => rw [hr] at hi; simp at hi; rw [hi]
    have hne : w.heap.size ≠ ro.getD W.heap.size := by
      cases hr : ro with
      | none => simp; omega
      | some r => have := hrl r hr; simp; omega
    refine (deleteFunc_any (dropAsk w.heap.size s (ro.getD W.heap.size) W.heap.size) 0 a l c W (ownsRow.ext hown hx) (fun x hx => by rw [had x hx]; rfl) (fun hn => ?_) (Nat.le_refl _) hn ⟨none, rfl, hs.cell 0 _ rfl, hne, Nat.le_refl _⟩).mono ?_
    · cases ha : a with
      | none => exact absurd ha hn
      | some x => have h1 := had x ha; have h2 := hrl _ h1; rw [h1]; simp; omega
    · rintro e w' ⟨⟨rfl, ho, _⟩, hk⟩
      have hd : (l.filter fun x => !(decide (x.sess = s))) = dropW s l := by unfold dropW; congr 1; funext x; simp
      rw [hd] at ho ⊢
      have hk2 : Kp (fun i => ro = some i) w w' := Kp.next (S := fun i => ro = some i) hx.kp hk (fun i hi h => by
        rcases h with (h | h) | h
        · exact h.elim
        · omega
        · exact hrb2 i h hi)
      refine ⟨_, rfl, hb.kp hk2 (fun h => hrb b h rfl), ho, by rw [← hro]; exact own_slice _ _ _ _ _, hk2.mono (fun i _ h => .inr h)⟩
  have HCON := Lib.hid hcon
  have HRB := Lib.hid hrb
  clear h hb hown had hcon hx hs hrb hrl hlt hsz hro
  go_enter Tryd.func13, Tryd.ntmps13
  go_wp2_with (fail)
  refine HCON.out.mono ?_
  rintro e w1 ⟨v, rfl, hb1, ho1, hr1, hk1⟩
  obtain ⟨a', c', rfl, _⟩ := Sl.open (Sl.of_owns ho1)
  have c1 := hb1.cell 1 _ rfl
  have f1 := hb1.free 1
  have hb2 := hb1.set 1 (.slice a' (dropW s l).length c')
  have c2 := hb2.cell 1 _ rfl
  have HB2 := Lib.hid hb2
  have HO := Lib.hid ho1
  have HK := Lib.hid hk1
  clear hb1 ho1 hk1 hb2
  go_wp2_with (fail)
  go_ret
  refine ⟨rfl, WL.mk HB2.out (ownsRow.kp HO.out (Kp.set1 (S := fun i => i = b) (Kp.refl _ _) b 1 _ rfl) (fun i hi => HRB.out i (by rw [← hr1]; exact hi))) hr1 HRB.out, Kp.set1 HK.out b 1 _ (.inl rfl)⟩
end Go.Proofs.YtiplmahjmkmddaaDoor
