/- Walks: slices.IndexFunc, slices.DeleteFunc at watches, with a closure that has a memory of its own. -/
import Derived.Test.YtiplmahjmkmddaaDoorAvWWatC
import Derived.Test.YtiplmahjmkmddaaDoorAvRowB
import Derived.Shelf.AbstractIn
namespace Go.Proofs.YtiplmahjmkmddaaDoor
set_option maxRecDepth 100000
open Go.RowKit Av

/-- What a closure that is asked of one watch after the other does: Inv: what stands behind so many; cur: the block of its own that it may write besides S0; rb: the row's block. -/
structure Asked (g : Nat) (lb : Array Value) (p : Wt → Bool) (S0 : Nat → Prop) (base rb : Nat) (Inv : List Wt → Option Nat → World → Prop) : Prop where
  eg : ∀ args w, (callFunc g args).run Tryd.prog w = .ok (.enter g args) w
  call : ∀ seen cur x W, seen.length < 100000 → Inv seen cur W → Calls Tryd.prog g (#[.agg (wcell x).toArray] ++ lb) W fun e w' => e = .returned (.bool (p x)) ∧ ∃ cur', Inv (seen ++ [x]) cur' w' ∧ Kp (fun i => S0 i ∨ cur = some i) W w'
  kp : ∀ seen cur W W', Inv seen cur W → Kp (fun i => i = rb) W W' → Inv seen cur W'
  cur : ∀ seen cur W i, Inv seen cur W → cur = some i → base ≤ i ∧ i < W.heap.size ∧ i ≠ rb
  s0 : ∀ i, S0 i → i ≠ rb ∧ i < base
/-- Where the search ends. -/
def FoundW (p : Wt → Bool) (Inv : List Wt → Option Nat → World → Prop) (xs : List Wt) (e : Ending) (w' : World) : Prop :=
  (e = .returned (.int .i64 (-1)) ∧ (∀ x ∈ xs, p x = false) ∧ ∃ cur, Inv xs cur w') ∨ ∃ k : Nat, ∃ hk : k < xs.length, e = .returned (.int .i64 k) ∧ (∀ x ∈ xs.take k, p x = false) ∧ p xs[k] = true ∧ ∃ cur, Inv (xs.take (k + 1)) cur w'
def IFRel (p : Wt → Bool) (S0 : Nat → Prop) (base : Nat) (Inv : List Wt → Option Nat → World → Prop) (xs : List Wt) (w : World) (i : Value) (wr : World) : Prop :=
  ∃ k : Nat, k ≤ xs.length ∧ i = .int .i64 k ∧ (∀ x ∈ xs.take k, p x = false) ∧ (∃ cur, Inv (xs.take k) cur wr) ∧ Kp (fun i => S0 i ∨ base ≤ i) w wr
set_option maxHeartbeats 1600000 in
theorem indexFunc_any {g : Nat} {lb : Array Value} {p : Wt → Bool} {S0 : Nat → Prop} {base rb : Nat} {Inv : List Wt → Option Nat → World → Prop} (hA : Asked g lb p S0 base rb Inv) (ad : Option Addr) (xs : List Wt) (cap : Nat) (w : World)
    (had : xs ≠ [] → ad = some ⟨rb, 0, none⟩ ∧ rb < base ∧ RowB w rb 51 3 cap (xs.flatMap wcell)) (hm : xs.length ≤ 100000) (h0 : ∃ cur, Inv [] cur w) :
    Calls Tryd.prog 42 #[.slice ad xs.length cap, .func (.func g) #[] lb] w fun e w' => FoundW p Inv xs e w' ∧ Kp (fun i => S0 i ∨ base ≤ i) w w' := by
  have eg := hA.eg
  have HAD := Lib.hid had
  have H0 := Lib.hid h0
  have HA := Lib.hid hA
  clear had h0 hA
  go_enter Tryd.func42, Tryd.ntmps42
  go_wp2_with (fail)
  go_loopw [8] (fun i wr => IFRel p S0 base Inv xs w i wr) (fun i _ => xs.length - (intOf i).toNat)
  case atStart => exact ⟨0, Nat.zero_le _, rfl, by simp, by simpa using H0.out, Kp.refl _ _⟩
  case round =>
    obtain ⟨k, hk, rfl, hall, ⟨cur, hinv⟩, hkp⟩ := hrel
    have HALL := Lib.hid hall
    have HK := Lib.hid hkp
    have HI := Lib.hid hinv
    clear hall hkp hinv
    by_cases hlt : k < xs.length
    · have hne : xs ≠ [] := by rintro rfl; simp at hlt
      obtain ⟨rfl, hrb, hrow⟩ := HAD.out hne
      have hrow2 : RowB wr rb 51 3 cap (xs.flatMap wcell) := hrow.kp HK.out (fun f => Or.elim f (fun h => (HA.out.s0 rb h).1 rfl) (fun h => by omega))
      have c0 := hrow2.cell (i := k * 3) (v := .int .i64 xs[k].sess) (rowK_cell wcell 3 (fun _ => rfl) xs k hlt 0 (by decide))
      have c1 := hrow2.cell (i := k * 3 + 1) (v := .string xs[k].path) (rowK_cell wcell 3 (fun _ => rfl) xs k hlt 1 (by decide))
      have c2 := hrow2.cell (i := k * 3 + 2) (v := .int .i64 xs[k].kind) (rowK_cell wcell 3 (fun _ => rfl) xs k hlt 2 (by decide))
      have HC := Lib.hid (HA.out.call (xs.take k) cur xs[k] wr (by rw [List.length_take]; omega) HI.out)
      have HCUR := Lib.hid (HA.out.cur (xs.take k) cur wr)
      have hcon : Calls Tryd.prog g (#[.agg #[.int .i64 xs[k].sess, .string xs[k].path, .int .i64 xs[k].kind]] ++ lb) wr fun e w' => e = .returned (.bool (p xs[k])) ∧ ∃ cur', Inv (xs.take (k + 1)) cur' w' ∧ Kp (fun i => S0 i ∨ base ≤ i) w w' := by
        refine HC.out.mono ?_
        rintro e w' ⟨rfl, cur', h1, h2⟩
        refine ⟨rfl, cur', by rw [List.take_succ_eq_append_getElem hlt]; exact h1, HK.out.next h2 ?_⟩
        rintro i hi (h | h)
        · exact .inl h
        · exact .inr (HCUR.out i HI.out h).1
      have HCON := Lib.hid hcon
      clear hcon hrow hrow2 hrb HC HCUR
      cases hp : p xs[k] with
      | true =>
        have HP := Lib.hid hp
        rw [hp] at HCON
        clear hp
        go_wp2_with (go_at_fn g; refine HCON.out.mono ?_; rintro e w1 ⟨rfl, cur', h1, h2⟩; have H1 := Lib.hid h1; have H2 := Lib.hid h2; clear h1 h2)
        go_ret
        go_light
        exact ⟨.inr ⟨k, hlt, rfl, HALL.out, HP.out, cur', H1.out⟩, H2.out⟩
      | false =>
        have HP := Lib.hid hp
        rw [hp] at HCON
        clear hp
        go_wp2_with (go_at_fn g; refine HCON.out.mono ?_; rintro e w1 ⟨rfl, cur', h1, h2⟩; have H1 := Lib.hid h1; have H2 := Lib.hid h2; clear h1 h2)
        go_light
        refine ⟨⟨k + 1, by omega, by go_num, fun x hx => ?_, ⟨cur', H1.out⟩, H2.out⟩, by simp [intOf]; omega⟩
        rw [List.take_succ_eq_append_getElem hlt] at hx
        rcases List.mem_append.1 hx with hx | hx
        · exact HALL.out x hx
        · simp only [List.mem_singleton] at hx; subst hx; exact HP.out
    · have e1 : xs.take k = xs := List.take_of_length_le (by omega)
      rw [e1] at HALL HI
      clear e1 HAD
      go_wp2_with (fail)
      go_ret
      go_light
      exact ⟨.inl ⟨rfl, HALL.out, cur, HI.out⟩, HK.out⟩
end Go.Proofs.YtiplmahjmkmddaaDoor
