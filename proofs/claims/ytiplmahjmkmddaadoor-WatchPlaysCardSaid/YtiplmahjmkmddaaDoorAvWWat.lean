/- Walks: the order of watches. -/
import Derived.Test.YtiplmahjmkmddaaDoorShelf
import Derived.Test.YtiplmahjmkmddaaDoorAvWatLaw
import Derived.Test.YtiplmahjmkmddaaDoorAvGrow
import Derived.Test.YtiplmahjmkmddaaDoorAvRows
import Derived.Handy
namespace Go.Proofs.YtiplmahjmkmddaaDoor
set_option maxRecDepth 100000
open Go.RowKit Av

abbrev wcell (e : Wt) : List Value := [.int .i64 e.sess, .string e.path, .int .i64 e.kind]
theorem lessB_eq (x y : Bs) : Op.bytesLess x y = decide (x < y) := by
  induction x generalizing y with
  | nil => cases y <;> simp [Op.bytesLess]
  | cons a x ih =>
    cases y with
    | nil => simp [Op.bytesLess]
    | cons b y =>
      rw [Op.bytesLess, ih, Bool.eq_iff_iff]
      simp [List.cons_lt_cons_iff]
set_option maxHeartbeats 400000 in
theorem nanI64 (x : Int) (w : World) : Calls Tryd.prog 60 #[.int .i64 x] w fun e w' => e = .returned (.bool false) ∧ w = w' := by
  go_enter Tryd.func60, Tryd.ntmps60
  go_wp2_with (fail)
  go_ret
  go_light
  exact ⟨by simp, rfl⟩
set_option maxHeartbeats 400000 in
theorem nanInt (x : Int) (w : World) : Calls Tryd.prog 61 #[.int .i64 x] w fun e w' => e = .returned (.bool false) ∧ w = w' := by
  go_enter Tryd.func61, Tryd.ntmps61
  go_wp2_with (fail)
  go_ret
  go_light
  exact ⟨by simp, rfl⟩
set_option maxHeartbeats 400000 in
theorem nanStr (x : ByteArray) (w : World) : Calls Tryd.prog 62 #[.string x] w fun e w' => e = .returned (.bool false) ∧ w = w' := by
  go_enter Tryd.func62, Tryd.ntmps62
  go_wp2_with (fail)
  go_ret
  go_light
  exact ⟨by simp, rfl⟩
set_option maxHeartbeats 800000 in
theorem cmpI64_any (x y : Int) (w : World) : Calls Tryd.prog 39 #[.int .i64 x, .int .i64 y] w fun e w' => e = .returned (.int .i64 (cmpI x y)) ∧ w = w' := by
  rcases Int.lt_trichotomy x y with h1 | h1 | h1
  · rw [(cmpI_lt _ _).1 h1]
    go_enter Tryd.func39, Tryd.ntmps39
    go_wp2_with (fail)
    refine (nanI64 _ _).mono ?_
    rintro e w1 ⟨rfl, rfl⟩
    go_wp2_with (fail)
    refine (nanI64 _ _).mono ?_
    rintro e w1 ⟨rfl, rfl⟩
    go_wp2_with (fail)
    go_ret
    go_light
    exact ⟨rfl, rfl⟩
  · rw [(cmpI_lt _ _).2.1 h1]
    subst h1
    have h2 : ¬ x < x := Int.lt_irrefl x
    go_enter Tryd.func39, Tryd.ntmps39
    go_wp2_with (fail)
    refine (nanI64 _ _).mono ?_
    rintro e w1 ⟨rfl, rfl⟩
    go_wp2_with (fail)
    refine (nanI64 _ _).mono ?_
    rintro e w1 ⟨rfl, rfl⟩
    go_wp2_with (fail)
    go_ret
    go_light
    exact ⟨rfl, rfl⟩
  · rw [(cmpI_lt _ _).2.2 h1]
    have h2 : ¬ x < y := by omega
    go_enter Tryd.func39, Tryd.ntmps39
    go_wp2_with (fail)
    refine (nanI64 _ _).mono ?_
    rintro e w1 ⟨rfl, rfl⟩
    go_wp2_with (fail)
    refine (nanI64 _ _).mono ?_
    rintro e w1 ⟨rfl, rfl⟩
    go_wp2_with (fail)
    go_ret
    go_light
    exact ⟨rfl, rfl⟩
set_option maxHeartbeats 800000 in
theorem cmpInt_any (x y : Int) (w : World) : Calls Tryd.prog 40 #[.int .i64 x, .int .i64 y] w fun e w' => e = .returned (.int .i64 (cmpI x y)) ∧ w = w' := by
  rcases Int.lt_trichotomy x y with h1 | h1 | h1
  · rw [(cmpI_lt _ _).1 h1]
    go_enter Tryd.func40, Tryd.ntmps40
    go_wp2_with (fail)
    refine (nanInt _ _).mono ?_
    rintro e w1 ⟨rfl, rfl⟩
    go_wp2_with (fail)
    refine (nanInt _ _).mono ?_
    rintro e w1 ⟨rfl, rfl⟩
    go_wp2_with (fail)
    go_ret
    go_light
    exact ⟨rfl, rfl⟩
  · rw [(cmpI_lt _ _).2.1 h1]
    subst h1
    have h2 : ¬ x < x := Int.lt_irrefl x
    go_enter Tryd.func40, Tryd.ntmps40
    go_wp2_with (fail)
    refine (nanInt _ _).mono ?_
    rintro e w1 ⟨rfl, rfl⟩
    go_wp2_with (fail)
    refine (nanInt _ _).mono ?_
    rintro e w1 ⟨rfl, rfl⟩
    go_wp2_with (fail)
    go_ret
    go_light
    exact ⟨rfl, rfl⟩
  · rw [(cmpI_lt _ _).2.2 h1]
    have h2 : ¬ x < y := by omega
    go_enter Tryd.func40, Tryd.ntmps40
    go_wp2_with (fail)
    refine (nanInt _ _).mono ?_
    rintro e w1 ⟨rfl, rfl⟩
    go_wp2_with (fail)
    refine (nanInt _ _).mono ?_
    rintro e w1 ⟨rfl, rfl⟩
    go_wp2_with (fail)
    go_ret
    go_light
    exact ⟨rfl, rfl⟩
theorem strCmp (x y : ByteArray) : (Op.bytesLess x.toList y.toList = true ∧ cmpS x y = -1) ∨ (Op.bytesLess x.toList y.toList = false ∧ (x.toList == y.toList) = true ∧ cmpS x y = 0) ∨ (Op.bytesLess x.toList y.toList = false ∧ (x.toList == y.toList) = false ∧ cmpS x y = 1) := by
  have l1 : Op.bytesLess x.toList y.toList = decide (x.data.toList < y.data.toList) := by rw [Lib.toList_data, Lib.toList_data, lessB_eq]
  rw [l1, str_eq]
  unfold cmpS
  by_cases h1 : x.data.toList < y.data.toList
  · left; simp [h1, cmpV]
  · right
    by_cases h2 : y.data.toList < x.data.toList
    · right
      refine ⟨by simp [h1], decide_eq_false (fun e => by subst e; exact List.lt_irrefl _ h2), by simp [h1, h2, cmpV]⟩
    · left
      have : x = y := Av.bs_inj (List.le_antisymm h2 h1)
      exact ⟨by simp [h1], by simp [this], by simp [h1, h2, cmpV]⟩
set_option maxHeartbeats 800000 in
theorem cmpStr_any (x y : ByteArray) (w : World) : Calls Tryd.prog 41 #[.string x, .string y] w fun e w' => e = .returned (.int .i64 (cmpS x y)) ∧ w = w' := by
  rcases strCmp x y with ⟨l1, hr⟩ | ⟨l1, l2, hr⟩ | ⟨l1, l2, hr⟩
  all_goals rw [hr]
  all_goals clear hr
  all_goals go_enter Tryd.func41, Tryd.ntmps41
  all_goals go_wp2_with (fail)
  all_goals refine (nanStr _ _).mono ?_
  all_goals rintro e w1 ⟨rfl, rfl⟩
  all_goals go_wp2_with (fail)
  all_goals refine (nanStr _ _).mono ?_
  all_goals rintro e w1 ⟨rfl, rfl⟩
  all_goals
    go_wp2_with (fail)
    go_ret
    go_light
    exact ⟨rfl, rfl⟩
theorem or_ne {x : Int} {r : List Int} (h : x ≠ 0) : orI (x :: r) = x := by unfold orI; rw [show (x == 0) = false from beq_eq_false_iff_ne.2 h]; rfl
def OrRel (l : List Int) (i : Value) : Prop := ∃ k : Nat, k ≤ l.length ∧ i = .int .i64 k ∧ orI (l.drop k) = orI l
set_option maxHeartbeats 800000 in
theorem or_any (v : Value) (l : List Int) (w : World) (h : Sl w 1 v l.length (l.map (Value.int .i64))) : Calls Tryd.prog 38 #[v] w fun e w' => e = .returned (.int .i64 (orI l)) ∧ w = w' := by
  obtain ⟨a, c, rfl, hcc, hm, hl, hop⟩ := Sl.open h
  unfold maxLen at hm
  have HOP := Lib.hid hop
  clear h hop hl
  go_enter Tryd.func38, Tryd.ntmps38
  go_wp2_with (fail)
  go_loop [8] (fun i => OrRel l i) (fun i => l.length - (intOf i).toNat)
  case atStart => exact ⟨0, Nat.zero_le _, rfl, rfl⟩
  case round =>
    obtain ⟨k, hk, rfl, hor⟩ := hrel
    have HO := Lib.hid hor
    clear hor
    by_cases hlt : k < l.length
    · obtain ⟨g, off, rfl, hg, hcl⟩ := HOP.out (by omega)
      have s0 := hcl k (.int .i64 l[k]) (by rw [List.getElem?_map, List.getElem?_eq_getElem hlt]; rfl)
      have hd := List.drop_eq_getElem_cons hlt
      by_cases h0 : l[k] = 0
      · have HR : Hid (orI (l.drop (k + 1)) = orI l) := by show _ = _; rw [← HO.out, hd, orI, h0]; rfl
        rw [h0] at s0
        clear hcl hd
        go_wp2_with (fail)
        go_light
        exact ⟨⟨k + 1, by omega, by go_num, HR.out⟩, by simp [intOf]; omega⟩
      · have HR : Hid (l[k] = orI l) := by show _ = _; rw [← HO.out, hd, or_ne h0]
        clear hcl hd
        go_wp2_with (fail)
        go_ret
        go_light
        exact ⟨by first | rfl | (rw [HR.out]; rfl), rfl⟩
    · have HR : Hid (orI l = 0) := by show _ = _; rw [← HO.out, List.drop_of_length_le (by omega)]; rfl
      clear HO
      go_wp2_with (fail)
      go_ret
      go_light
      exact ⟨by first | rfl | (rw [HR.out]; rfl), rfl⟩
end Go.Proofs.YtiplmahjmkmddaaDoor
