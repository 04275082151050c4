/- Walks: is a watch among the watches? -/
import Derived.Test.YtiplmahjmkmddaaDoorAvWWatB
import Derived.Shelf.SlicesQ.Contains
import Derived.Laws.StructEq
import Derived.Ground.SlgqProg
import Derived.Test.YtiplmahjmkmddaaDoorShelfW
namespace Go.Proofs.YtiplmahjmkmddaaDoor
set_option maxRecDepth 100000
open Go.RowKit Av Go.Shelf Go.Lib
theorem eqWt : EqlAt Tryd.prog 51 (fun x : Wt => .agg (wcell x).toArray) (fun x y => decide (x = y)) := by
  refine ⟨fun x y w => ?_, GuardAt.agg _ (by kernel_rfl)⟩
  have u2 := Tryd.underlying2
  have a2 := Tryd.isAgg2
  have z2 := Tryd.sizeOf2
  have u3 := Tryd.underlying3
  have a3 := Tryd.isAgg3
  have z3 := Tryd.sizeOf3
  have u9 := Tryd.underlying9
  have a9 := Tryd.isAgg9
  have z9 := Tryd.sizeOf9
  have hS : Tryd.prog.underlying 51 = some (.struct (Tryd.prog.fieldsOf 51)) := by kernel_rfl
  have hp : Tryd.prog.stoodInHeld 51 = false := by kernel_rfl
  obtain ⟨xs, xp, xk⟩ := x
  obtain ⟨ys, yp, yk⟩ := y
  have hq := str_eq xp yp
  rw [run_eql_struct, show (10000 : Nat) = 9999 + 1 from rfl, run_equalIn_agg w 9999 51 _ _ hS hp]
  simp only [Program.fieldsOf, Tryd.underlying51]
  go_simp
  by_cases h1 : xs = ys <;> by_cases h2 : xp = yp <;> by_cases h3 : xk = yk <;> simp [h1, h2, h3] at hq ⊢
  all_goals simp [hq]
set_option maxHeartbeats 800000 in
theorem index_none (a : Option Addr) (c : Nat) (x : Wt) (w : World) : Calls Tryd.prog 33 #[.slice a 0 c, .agg (wcell x).toArray] w fun e w' => e = .returned (.int .i64 (-1)) ∧ Ext w w' := by
  go_enter Tryd.func33, Tryd.ntmps33
  go_wp2_with (fail)
  refine wp_loop_rounds 1 ?_
  rw [rounds_succ]
  go_wp2_with (fail)
  go_ret
  exact ⟨rfl, (Kp.refl _ _).alloc _⟩
set_option maxHeartbeats 800000 in
theorem contains_any (v : Value) (xs : List Wt) (x : Wt) (w : World) (h : Sl w 3 v xs.length (xs.flatMap wcell)) :
    Calls Tryd.prog 19 #[v, .agg (wcell x).toArray] w fun e w' => e = .returned (.bool (decide (x ∈ xs))) ∧ Ext w w' := by
  obtain ⟨a, c, rfl, hcc, hm, hop⟩ := Sl.rows (f := wcell) (K := 3) (fun _ => rfl) h
  unfold maxLen at hm
  by_cases h0 : 0 < xs.length
  · obtain ⟨b, off, rfl, hb, hc⟩ := hop h0
    have hcon := AnyQ.slices_Contains Tryd.containsW 3 Tryd.isAgg51 Tryd.sizeOf51 wcell (fun _ => rfl) _ eqWt b off xs.length c xs x w (Nat.le_refl _) (by omega) (fun j hj i v hi => by
      have hi3 : i < 3 := by have := (List.getElem?_eq_some_iff.1 hi).1; simpa using this
      rw [getElem!_pos xs j hj] at hi
      exact hc j hj i v hi3 hi)
    change Calls Tryd.prog 19 _ _ _ at hcon
    refine hcon.mono ?_
    rintro e w' ⟨rfl, hbw⟩
    refine ⟨?_, Kp.of_below hbw⟩
    congr 2
    rw [List.take_length, Bool.eq_iff_iff]
    simp
  · have hn : xs = [] := List.eq_nil_of_length_eq_zero (by omega)
    subst hn
    clear hop h0 h
    obtain ⟨xs, xp, xk⟩ := x
    have HI := Lib.hid (fun W => index_none a c ⟨xs, xp, xk⟩ W)
    go_enter Tryd.func19, Tryd.ntmps19
    go_wp2_with (fail)
    refine (HI.out _).mono ?_
    rintro e w1 ⟨rfl, hx1⟩
    go_wp2_with (fail)
    go_ret
    exact ⟨by simp, ((Kp.refl _ _).alloc _).trans hx1⟩
end Go.Proofs.YtiplmahjmkmddaaDoor
