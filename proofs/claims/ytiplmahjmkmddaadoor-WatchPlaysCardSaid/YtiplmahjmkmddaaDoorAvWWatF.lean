/- Walks: slices.SortFunc at watches. -/
import Derived.Test.YtiplmahjmkmddaaDoorAvWWatE
import Derived.Test.YtiplmahjmkmddaaDoorAvRowS
import Derived.Ground.SlsfProg
import Derived.Test.YtiplmahjmkmddaaDoorShelfW
namespace Go.Proofs.YtiplmahjmkmddaaDoor
set_option maxRecDepth 100000
open Go.RowKit Av Go.Shelf Go.Sort
theorem wcell_one (x : Wt) (v : Value) (hv : v ∈ wcell x) : v.oneCell' = true := by
  simp [wcell] at hv
  rcases hv with rfl | rfl | rfl <;> rfl
theorem ltOf_ordW (x y : Wt) : ltOf ordW x y = ltW x y := ordW_lt x y
theorem ltOf_ordW' : ltOf ordW = ltW := funext fun x => funext fun y => ordW_lt x y
theorem swoW : SWO (ltOf ordW) where
  irrefl x := by rw [ltOf_ordW]; exact ltW_irrefl x
  trans x y z h1 h2 := by rw [ltOf_ordW] at *; exact ltW_trans h1 h2
  ntrans x y z h1 h2 := by rw [ltOf_ordW] at *; exact ltW_ntrans h1 h2
theorem sort_any (ad : Option Addr) (cap : Nat) (xs : List Wt) (w : World) (base : Nat) (hown : w.ownsRow base 51 3 (.slice ad xs.length cap) xs.length (xs.flatMap wcell)) (hn : xs.length ≤ 100000) :
    Calls Tryd.prog 21 #[.slice ad xs.length cap, .func (.func 22) #[] #[]] w fun e w' =>
      e = .returned (.tuple #[]) ∧ w'.ownsRow base 51 3 (.slice ad (sortW xs).length cap) (sortW xs).length ((sortW xs).flatMap wcell) ∧ Kp (fun i => ∃ a, ad = some a ∧ a.block = i) w w' := by
  cases xs with
  | nil =>
    have hcon := AnyF.slices_SortFunc_none { Tryd.sortFW with } ad cap (.func (.func 22) #[] #[]) w
    change Calls Tryd.prog 21 _ _ _ at hcon
    refine hcon.mono ?_
    rintro e w' ⟨rfl, rfl⟩
    refine ⟨rfl, ?_, Kp.refl _ _⟩
    have : sortW [] = [] := List.eq_nil_of_length_eq_zero (sortW_len [])
    rw [this]; exact hown
  | cons x r =>
    obtain ⟨a, rfl⟩ : ∃ a, ad = some a := by
      cases ad with
      | some a => exact ⟨a, rfl⟩
      | none => obtain ⟨_, h | ⟨g, c, cur, hv, _⟩⟩ := hown
                · simp at h
                · simp at hv
    obtain ⟨b, rfl, hrow, hlen, hnc, hcm, hbb⟩ := RowB.of_owns hown
    generalize hxs : x :: r = xs at *
    have eg : ∀ args w, (callFunc 22 args).run Tryd.prog w = .ok (.enter 22 args) w := enters_of Tryd.func22 (by kernel_rfl) rfl
    have hcmp : CmpLays Tryd.prog 22 #[] wcell 3 ordW b 0 xs.toArray.size w := fun m os dk _ x y => (order_any x y _).mono fun e w' h => ⟨h.1, h.2.grow⟩
    have hcon := AnyQ.slices_SortFunc_total Tryd.sortFW 3 Tryd.isAgg51 Tryd.sizeOf51 wcell (fun _ => rfl) wcell_one ordW swoW 22 #[] b 0 cap xs.toArray w eg hcmp (RowB.holds (f := wcell) (K := 3) (by decide) (fun _ => rfl) hrow) hrow.lt (by simp; omega) (fun x y h1 h2 => ltW_total (by rw [← ltOf_ordW]; exact h1) (by rw [← ltOf_ordW]; exact h2))
    change Calls Tryd.prog 21 #[.slice (some ⟨b, 0, none⟩) xs.length cap, .func (.func 22) #[] #[]] _ _ at hcon
    refine hcon.mono ?_
    rintro e w' ⟨rfl, n, os, rfl⟩
    have hs : (xs.toArray.toList.mergeSort fun x y => !(ltOf ordW) y x) = sortW xs := by
      unfold sortW; rw [ltOf_ordW']
    rw [hs]
    obtain ⟨h1, h2⟩ := RowB.sorted (f := wcell) (K := 3) (by decide) (fun _ => rfl) hrow (sortW_len xs) n os
    refine ⟨rfl, ?_, h2.mono (fun i _ e => ⟨_, rfl, e.symm⟩)⟩
    have := h1.owns (m := (sortW xs).length) (base := base) (by rw [flat_len wcell 3 (fun _ => rfl)]; exact Nat.le_refl _) (by rw [sortW_len]; exact hnc) hcm hbb
    rwa [flat_take wcell 3 (fun _ => rfl), List.take_length] at this
end Go.Proofs.YtiplmahjmkmddaaDoor
