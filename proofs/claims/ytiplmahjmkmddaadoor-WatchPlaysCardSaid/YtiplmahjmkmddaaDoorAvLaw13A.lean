/- Walks of package aviarylaw13: what all lean on; awake. -/
import Derived.Test.YtiplmahjmkmddaaDoorAvWWatJ
import Derived.Test.YtiplmahjmkmddaaDoorAvWWatL
namespace Go.Proofs.YtiplmahjmkmddaaDoor
set_option maxRecDepth 100000
open Go.RowKit Av Go.Shelf Go.Lib

abbrev gML : Nat := 0
/-- Watches that a law has made, since w0. -/
def WS (w0 w : World) (b : Nat) (ro : Option Nat) (room : Nat) (l : List Wt) : Prop := WL w b ro room l ∧ w0.heap.size ≤ b ∧ (∀ i, ro = some i → w0.heap.size ≤ i) ∧ Ext w0 w
theorem WS.step {w0 w w' : World} {b room : Nat} {ro : Option Nat} {l : List Wt} (h : WS w0 w b ro room l) (k : Kp (fun i => i = b ∨ ro = some i) w w') : Ext w0 w' :=
  Kp.next (S := fun _ => False) h.2.2.2 k (fun i hi hs => by
    have h1 := h.2.1
    have h2 := h.2.2.1 i
    rcases hs with hs | hs
    · omega
    · have := h2 hs; omega)
theorem WS.ext {w0 w w' : World} {b room : Nat} {ro : Option Nat} {l : List Wt} (h : WS w0 w b ro room l) (k : Ext w w') : WS w0 w' b ro room l := ⟨h.1.ext k, h.2.1, h.2.2.1, h.2.2.2.trans k⟩
/-- How the row's block may have turned. -/
def Aft (w : World) (ro ro' : Option Nat) : Prop := ∀ i, ro' = some i → ro = some i ∨ w.heap.size ≤ i
/-- Events that were told, apart from the watches. -/
def Evs (w : World) (b : Nat) (ro : Option Nat) (v : Value) (xs : List Wt) : Prop := Sl w 3 v xs.length (xs.flatMap wcell) ∧ ∀ i, v.ownBlock = some i → i < w.heap.size ∧ i ≠ b ∧ ¬ ro = some i
theorem Evs.step {w w' : World} {b : Nat} {ro ro' : Option Nat} {v : Value} {xs : List Wt} (h : Evs w b ro v xs) (k : Kp (fun i => i = b ∨ ro = some i) w w') (ha : Aft w ro ro') : Evs w' b ro' v xs := by
  refine ⟨Sl.kp h.1 k (fun i hi _ hs => ?_), fun i hi => ?_⟩
  · obtain ⟨_, h2, h3⟩ := h.2 i hi
    rcases hs with hs | hs
    · exact h2 hs
    · exact h3 hs
  · obtain ⟨h1, h2, h3⟩ := h.2 i hi
    refine ⟨Nat.lt_of_lt_of_le h1 k.size, h2, fun e => ?_⟩
    rcases ha i e with h | h
    · exact h3 h
    · omega
theorem Evs.ext {w w' : World} {b : Nat} {ro : Option Nat} {v : Value} {xs : List Wt} (h : Evs w b ro v xs) (k : Ext w w') : Evs w' b ro v xs := ⟨Sl.ext h.1 k, fun i hi => ⟨Nat.lt_of_lt_of_le (h.2 i hi).1 k.size, (h.2 i hi).2⟩⟩
theorem Evs.open {w : World} {b : Nat} {ro : Option Nat} {v : Value} {xs : List Wt} (h : Evs w b ro v xs) : ∃ a c, v = .slice a xs.length c ∧ (0 < xs.length → ∃ g off, a = some ⟨g, off, none⟩ ∧ g < w.heap.size ∧ ∀ k (hk : k < xs.length), w.cell? ⟨g, off + k * 3, none⟩ = some (.int .i64 xs[k].sess) ∧ w.cell? ⟨g, off + k * 3 + 1, none⟩ = some (.string xs[k].path) ∧ w.cell? ⟨g, off + k * 3 + 2, none⟩ = some (.int .i64 xs[k].kind)) := by
  obtain ⟨a, c, rfl, _, _, hop⟩ := Sl.rows (f := wcell) (K := 3) (fun _ => rfl) h.1
  refine ⟨a, c, rfl, fun h0 => ?_⟩
  obtain ⟨g, off, rfl, hg, hcl⟩ := hop h0
  exact ⟨g, off, rfl, hg, fun k hk => ⟨hcl k hk 0 _ (by decide) rfl, hcl k hk 1 _ (by decide) rfl, hcl k hk 2 _ (by decide) rfl⟩⟩
theorem wsNew (room : Nat) (w0 w : World) (hx : Ext w0 w) (h1 : 1 ≤ room) (h2 : room ≤ 1000) : Calls Tryd.prog 9 #[.int .i64 room] w fun e w' => e = .returned (.tuple #[.pointer (some ⟨w.heap.size, 0, none⟩), .int .i64 0]) ∧ WS w0 w' w.heap.size none room [] :=
  (watNew_any room w h1 h2).mono fun _ _ ⟨he, hw, hk⟩ => ⟨he, hw, hx.size, by simp, hx.trans hk⟩
theorem wsArm {w0 w : World} {b room : Nat} {ro : Option Nat} {l : List Wt} (h : WS w0 w b ro room l) (hG : GL w0) (x : Wt) (hp : x.path.size ≤ maxLen) (hn : l.length ≤ 100000) :
    Calls Tryd.prog 11 #[.pointer (some ⟨b, 0, none⟩), .int .i64 x.sess, .string x.path, .int .i64 x.kind] w fun e w' => e = .returned (.int .i64 (armE room l x)) ∧ ∃ ro', WS w0 w' b ro' room (armG room l x) ∧ Aft w ro ro' ∧ Kp (fun i => i = b ∨ ro = some i) w w' := by
  refine (watArm_any b ro room l x w h.1 (hG.ext h.2.2.2) hp hn).mono ?_
  rintro e w' ⟨rfl, ⟨ro', hw, ha⟩, hk⟩
  refine ⟨rfl, ro', ⟨hw, h.2.1, fun i hi => ?_, h.step hk⟩, ha, hk⟩
  rcases ha i hi with h1 | h1
  · exact h.2.2.1 i h1
  · exact Nat.le_trans h.2.2.2.size h1
theorem wsFire {w0 w : World} {b room : Nat} {ro : Option Nat} {l : List Wt} (h : WS w0 w b ro room l) (hG : GL w0) (p : ByteArray) (ch : Int) (hp : p.size ≤ maxLen) (hn : l.length ≤ 100000) :
    Calls Tryd.prog 12 #[.pointer (some ⟨b, 0, none⟩), .string p, .int .i64 ch] w fun e w' => ∃ v, e = .returned v ∧ Evs w' b ro v (fireT p ch l) ∧ WS w0 w' b ro room (fireG p ch l) ∧ Kp (fun i => i = b ∨ ro = some i) w w' := by
  refine (watFire_any b ro room l p ch w h.1 (hG.ext h.2.2.2) hp hn).mono ?_
  rintro e w' ⟨v, rfl, ho, hw, hk⟩
  refine ⟨v, rfl, ⟨Sl.of_owns ho, fun i hi => ?_⟩, ⟨hw, h.2.1, h.2.2.1, h.step hk⟩, hk⟩
  have h1 := own_at ho hi
  have h2 := h.1.lt
  exact ⟨h1.2, by omega, fun e => by have := h2.2 i e; omega⟩
theorem wsDrop {w0 w : World} {b room : Nat} {ro : Option Nat} {l : List Wt} (h : WS w0 w b ro room l) (s : Int) (hn : l.length ≤ 100000) :
    Calls Tryd.prog 13 #[.pointer (some ⟨b, 0, none⟩), .int .i64 s] w fun e w' => e = .returned (.int .i64 ((l.length - (dropW s l).length : Nat) : Int)) ∧ WS w0 w' b ro room (dropW s l) ∧ Kp (fun i => i = b ∨ ro = some i) w w' :=
  (watDrop_any b ro room l s w h.1 hn).mono fun _ _ ⟨he, hw, hk⟩ => ⟨he, ⟨hw, h.2.1, h.2.2.1, h.step hk⟩, hk⟩
theorem wsLen {w0 w : World} {b room : Nat} {ro : Option Nat} {l : List Wt} (h : WS w0 w b ro room l) : Calls Tryd.prog 10 #[.pointer (some ⟨b, 0, none⟩)] w fun e w' => e = .returned (.int .i64 l.length) ∧ w = w' := watLen_any b ro room l w h.1
theorem eqEv : EqlAt Tryd.prog evT (fun x : Wt => .agg (wcell x).toArray) (fun x y => decide (x = y)) := by
  refine ⟨fun x y w => ?_, GuardAt.agg _ (by kernel_rfl)⟩
  have u2 := Tryd.underlying2
  have a2 := Tryd.isAgg2
  have z2 := Tryd.sizeOf2
  have u3 := Tryd.underlying3
  have a3 := Tryd.isAgg3
  have z3 := Tryd.sizeOf3
  have u9 := Tryd.underlying9
  have a9 := Tryd.isAgg9
  have z9 := Tryd.sizeOf9
  have hS : Tryd.prog.underlying evT = some (.struct (Tryd.prog.fieldsOf evT)) := by kernel_rfl
  have hp : Tryd.prog.stoodInHeld evT = false := by kernel_rfl
  obtain ⟨xs, xp, xk⟩ := x
  obtain ⟨ys, yp, yk⟩ := y
  have hq := str_eq xp yp
  rw [run_eql_struct, show (10000 : Nat) = 9999 + 1 from rfl, run_equalIn_agg w 9999 evT _ _ hS hp]
  simp only [evT, Program.fieldsOf, Tryd.underlying35]
  go_simp
  by_cases h1 : xs = ys <;> by_cases h2 : xp = yp <;> by_cases h3 : xk = yk <;> simp [h1, h2, h3] at hq ⊢
  all_goals simp [hq]
theorem eqEv_run (xs ys xk yk : Int) (xp yp : ByteArray) (w : World) : Sem.run Tryd.prog (binOp .eql evT (.agg #[.int .i64 xs, .string xp, .int .i64 xk]) (.agg #[.int .i64 ys, .string yp, .int .i64 yk])) w = .ok (.bool (decide ((⟨xs, xp, xk⟩ : Wt) = ⟨ys, yp, yk⟩))) w := eqEv.1 ⟨xs, xp, xk⟩ ⟨ys, yp, yk⟩ w
theorem eqEv_gd (op : BinOp) (a b : Operand) (xs ys xk yk : Int) (xp yp : ByteArray) (w : World) : Sem.run Tryd.prog (eqGuard op evT a b (.agg #[.int .i64 xs, .string xp, .int .i64 xk]) (.agg #[.int .i64 ys, .string yp, .int .i64 yk])) w = .ok () w := eqEv.2 op a b ⟨xs, xp, xk⟩ ⟨ys, yp, yk⟩ w
/-! The list in its order, reckoned by insertion. -/
theorem foldl_ins : ∀ (l m : List Wt), RisW m → l.Nodup → (∀ x ∈ l, x ∉ m) → RisW (l.foldl insW m) ∧ ∀ x, x ∈ l.foldl insW m ↔ x ∈ m ∨ x ∈ l
  | [], m, h, _, _ => ⟨h, fun x => by simp⟩
  | s :: l, m, h, hn, hd => by
    obtain ⟨hs, hn'⟩ := List.nodup_cons.1 hn
    have h1 := insW_ris h (hd s (by simp))
    obtain ⟨h3, h4⟩ := foldl_ins l (insW m s) h1 hn' (fun x hx => by
      rw [insW_mem]
      rintro (h | h)
      · exact hd x (by simp [hx]) h
      · subst h; exact hs hx)
    refine ⟨h3, fun x => ?_⟩
    rw [List.foldl_cons, h4 x, insW_mem]
    simp only [List.mem_cons]
    constructor
    · rintro ((a | a) | a)
      · exact .inl a
      · exact .inr (.inl a)
      · exact .inr (.inr a)
    · rintro (a | a | a)
      · exact .inl (.inl a)
      · exact .inl (.inr a)
      · exact .inr a
theorem sortW_ins {l : List Wt} (h : l.Nodup) : sortW l = l.foldl insW [] := by
  obtain ⟨h1, h2⟩ := foldl_ins l [] List.Pairwise.nil h (by simp)
  exact risW_ext (sortW_ris h) h1 fun x => by rw [sortW_mem, h2]; simp
def sA1 : ByteArray := ⟨#[47, 97]⟩
theorem fire1 : fireT sA1 3 [⟨1, sA1, 1⟩] = [⟨1, sA1, 3⟩] ∧ fireG sA1 3 [⟨1, sA1, 1⟩] = [] := by
  unfold fireT fireG
  rw [sortW_ins (by decide +kernel)]
  decide +kernel
theorem sortW_nil : sortW [] = [] := by rw [sortW_ins (by decide)]; rfl
theorem fire2 (p : ByteArray) (ch : Int) : fireT p ch [] = [] ∧ fireG p ch [] = [] := by
  unfold fireT fireG
  rw [sortW_nil]
  split <;> exact ⟨rfl, rfl⟩
theorem arm1 : armE 5 [] ⟨1, sA1, 1⟩ = 0 ∧ armG 5 [] ⟨1, sA1, 1⟩ = [⟨1, sA1, 1⟩] := by decide +kernel
set_option maxHeartbeats 1600000 in
theorem awake_any (w : World) (hG : GL w) : Calls Tryd.prog 8 #[] w fun e w' => e = .returned (.bool true) ∧ Ext w w' := by
  have hq := eqEv_run
  have hgd := eqEv_gd
  have HG := Lib.hid hG
  clear hG
  go_enter Tryd.func8, Tryd.ntmps8
  go_wp2_with (fail)
  refine (wsNew 5 w w (Kp.refl _ _) (by decide) (by decide)).mono ?_
  rintro e w1 ⟨rfl, h1⟩
  obtain ⟨b, hb⟩ : ∃ b, w.heap.size = b := ⟨_, rfl⟩
  rw [hb] at h1 ⊢
  have H1 := Lib.hid h1
  have hA := wsArm h1 HG.out ⟨1, sA1, 1⟩ (by decide) (by decide)
  rw [arm1.1, arm1.2] at hA
  clear h1
  go_wp2_with (fail)
  refine hA.mono ?_
  rintro e w2 ⟨rfl, ro, h2, _, _⟩
  have hF := wsFire h2 HG.out sA1 3 (by decide) (by decide)
  rw [fire1.1, fire1.2] at hF
  clear h2 hA H1
  go_wp2_with (fail)
  refine hF.mono ?_
  rintro e w3 ⟨v, rfl, he3, h3, _⟩
  have hF := wsFire h3 HG.out sA1 3 (by decide) (by decide)
  rw [(fire2 sA1 3).1, (fire2 sA1 3).2] at hF
  have HE3 := Lib.hid he3
  clear h3 he3
  go_wp2_with (fail)
  refine hF.mono ?_
  rintro e w4 ⟨v', rfl, he4, h4, hk4⟩
  have he3 := HE3.out.step hk4 (fun i hi => .inl hi)
  have hL := wsLen h4
  obtain ⟨a, c, rfl, hop⟩ := he3.open
  obtain ⟨g, off, rfl, _, hc⟩ := hop (by decide)
  obtain ⟨a', c', rfl, _⟩ := he4.open
  obtain ⟨c0, c1, c2⟩ := hc 0 (by decide)
  simp only [Nat.zero_mul, Nat.add_zero] at c0 c1 c2
  have HX := Lib.hid h4.2.2.2
  clear hF HE3 he3 he4 hop hc h4 hk4
  go_wp2_with (fail)
  refine hL.mono ?_
  rintro e w5 ⟨rfl, rfl⟩
  go_wp2_with (fail)
  go_ret
  exact ⟨rfl, HX.out⟩
end Go.Proofs.YtiplmahjmkmddaaDoor
