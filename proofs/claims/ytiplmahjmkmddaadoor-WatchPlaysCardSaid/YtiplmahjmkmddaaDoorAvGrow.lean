/- Regions as in XAvDag, where draws are counted too: what comes of a call is the old world, some draws and some blocks on. No program. -/
import Derived.Test.YtiplmahjmkmddaaDoorAvDag
import Derived.Sort.Grow
namespace Av
set_option maxRecDepth 100000
open Go Go.RowKit Go.Sort
/-- Nothing that lay there has turned, and draws were only added. -/
structure Gw (a b : World) : Prop where
  ext : Ext a b
  drawn : a.drawn ≤ b.drawn
theorem Gw.refl (w : World) : Gw w w := ⟨Kp.refl _ w, Nat.le_refl _⟩
theorem Gw.trans {a b c : World} (h : Gw a b) (k : Gw b c) : Gw a c := ⟨h.ext.trans k.ext, Nat.le_trans h.drawn k.drawn⟩
theorem Gw.drew {a w : World} (h : Gw a w) : Gw a w.drew := ⟨h.ext.drew, Nat.le_trans h.drawn (Nat.le_succ _)⟩
theorem Gw.drewN {a w : World} (h : Gw a w) (n : Nat) : Gw a (w.drewN n) := ⟨h.ext.drewN n, Nat.le_trans h.drawn (Nat.le_add_right _ _)⟩
theorem Gw.alloc {a w : World} (h : Gw a w) (o : Obj) : Gw a (w.alloc o) := ⟨h.ext.alloc o, h.drawn⟩
theorem Gw.grow {a b : World} (h : Gw a b) : ∃ q os, b = Go.Sort.grow (a.drewN q) os := by
  refine ⟨b.drawn - a.drawn, b.heap.extract a.heap.size b.heap.size, ?_⟩
  have hh : b.heap = a.heap ++ b.heap.extract a.heap.size b.heap.size := by
    have hs := h.ext.size
    apply Array.ext_getElem?
    intro i
    rw [Array.getElem?_append]
    split
    · rename_i hi; exact h.ext.block i hi (fun f => f)
    · rename_i hi
      rw [Array.getElem?_extract]
      split
      · congr 1; omega
      · rw [Array.getElem?_eq_none (by omega)]
  have hd : b.drawn = a.drawn + (b.drawn - a.drawn) := by have := h.drawn; omega
  have h1 := h.ext.os; have h2 := h.ext.tape; have h3 := h.ext.output
  cases a; cases b
  simp only [Go.Sort.grow, World.drewN] at *
  subst h1 h2 h3
  simp only [World.mk.injEq, true_and, and_true]
  exact ⟨hh, hd⟩
theorem wp_region_dagG {P : Program} {id : Nat} {Q : Exit → Act → World → Prop} {a : Act} {w : World} {l : List Oper} (S : List (Tmp × TSpec)) (hst : Stab (fun a b => Gw a b) S) (hm : P.follows .mixedOrders = true) (hB : dagB .any l.toArray [] l.length = true) (hsz : dstB l.toArray a.tmps.size = true)
    (h : WpD P l.toArray (fun a b => Gw a b) (fun a b => Gw a b) w S [] (fun a' => ∀ w', Gw w w' → Ends l.toArray S [] l.length a' w' → Q .normal a' w') l 0 a) : (Code.region id l.toArray true).wp P Q a w := by
  refine wp_region_dagR l.length S [] (fun a b => Gw a b) (fun w => Gw.refl w) (fun _ _ _ h k => h.trans k) (Gw.refl w).drew hm hB hsz ?_
  rw [List.take_length, List.drop_length]
  exact h.out hst (fun _ _ h => h)
end Av
