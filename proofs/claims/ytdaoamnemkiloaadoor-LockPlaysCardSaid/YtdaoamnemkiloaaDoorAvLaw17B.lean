/- Walk of package aviarylaw17: LockKnown. -/
import Derived.Test.YtdaoamnemkiloaaDoorAvLaw17A
namespace Go.Proofs.YtdaoamnemkiloaaDoor
set_option maxRecDepth 100000
open Go.RowKit Av

/-- A Locks of the call's own: made behind w0, nothing older turned. -/
structure LS (w0 w : World) (b m : Nat) (st : St) : Prop where
  here : LockAt w b m st
  gl : GL w
  ext : Ext w0 w
  new : w0.heap.size ≤ m

theorem LS.next {w0 w w' : World} {b m : Nat} {st st' : St} (h : LS w0 w b m st) (k : Kp (fun i => i = m) w w') (h' : LockAt w' b m st') (hg : m ≠ 0) : LS w0 w' b m st' :=
  ⟨h', h.gl.kp k (fun e => hg e.symm), h.ext.next k (fun i hi e => by subst e; have := h.new; omega), h.new⟩
theorem LS.more {w0 w w' : World} {b m : Nat} {st : St} (h : LS w0 w b m st) (k : Ext w w') : LS w0 w' b m st := ⟨h.here.ext k, h.gl.ext k, h.ext.ext k, h.new⟩
theorem LS.ne {w0 w : World} {b m : Nat} {st : St} (h : LS w0 w b m st) (hG : GL w0) : m ≠ 0 := by
  obtain ⟨x, hx⟩ := hG
  have := World.block_lt_of_cell? w0 _ hx
  have h2 := h.new
  intro e
  subst e
  exact absurd this (by simp; omega)
theorem LS.start {w0 w : World} {b m : Nat} (hG : GL w0) (h : LockAt w b m []) (hm : w0.heap.size ≤ m) (k : Ext w0 w) : LS w0 w b m [] := ⟨h, hG.ext k, k, hm⟩
/-- Take of strings written out in the call. -/
theorem LS.takeLit {w0 w : World} {b m : Nat} {st : St} (hG : GL w0) (h : LS w0 w b m st) (who : Int) (ps : List ByteArray) (r : Option ByteArray) (st' : St) (hps : ∀ p ∈ ps, p.size ≤ 1000) (hl : ps.length ≤ 1000) (hr : wrongL st who ps = r) (hs : takeL st who ps = st') :
    Calls Tryd.prog 12 #[.pointer (some ⟨b, 0, none⟩), .int .i64 who, .slice (some ⟨w.heap.size, 0, none⟩) ps.length ps.length] (w.alloc (.cells (ps.map Value.string).toArray 9)) fun e w' =>
      e = .returned (.tuple #[.string (r.getD ⟨#[]⟩), .bool (!r.isSome)]) ∧ LS w0 w' b m st' := by
  have hx : Ext w (w.alloc (.cells (ps.map Value.string).toArray 9)) := (Kp.refl _ w).alloc _
  have h1 := h.more hx
  have hlt := h.here.lt
  have hlm := hl
  refine (take_any b m st who _ ps _ h1.here h1.gl (Strs.of_block (heap_alloc_new w _) (by unfold maxLen; omega) (Nat.le_refl _)) (fun p hp => by have := hps p hp; unfold maxLen; omega) ?_).mono ?_
  · intro _ x hx; simp [Value.ownBlock] at hx; omega
  · rintro e w' ⟨rfl, h2, h3⟩
    rw [hr, hs] at *
    exact ⟨rfl, h1.next h3 h2 (h.ne hG)⟩

def kX : ByteArray := ⟨#[47, 120]⟩
def kABC : ByteArray := ⟨#[47, 97, 47, 98, 47, 99]⟩
def kBad : ByteArray := ⟨#[98, 97, 100]⟩
def kAC : ByteArray := ⟨#[47, 97, 47, 99]⟩

set_option maxHeartbeats 1000000 in
theorem lockKnown_any (w : World) (hG : GL w) : Calls Tryd.prog 4 #[] w fun e w' => e = .returned (.bool true) ∧ Ext w w' := by
  have t1 : kABC.toList = [47, 97, 47, 98, 47, 99] := by decide +kernel
  have t2 : kBad.toList = [98, 97, 100] := by decide +kernel
  go_enter Tryd.func4, Tryd.ntmps4
  go_wp2_with (fail)
  refine (awake_any w hG).mono ?_
  rintro e w1 ⟨rfl, hx1⟩
  go_wp2_with (fail)
  refine (lockNew_any w1).mono ?_
  rintro e w2 ⟨b, m, rfl, h2, hb, hm, hx2⟩
  have s2 : LS w w2 b m [] := LS.start hG h2 (by have := hx1.size; omega) (hx1.ext hx2)
  clear h2 hb hm hx1 hx2
  go_wp2_with (fail)
  refine (LS.takeLit hG s2 1 [sAB, sAB] none [(sAB, 1)] (by decide) (by decide) (by decide +kernel) (by decide +kernel)).mono ?_
  rintro e w3 ⟨rfl, s3⟩
  go_wp2_with (fail)
  refine (LS.takeLit hG s3 2 [kX, kABC, sA] (some kABC) [(sAB, 1)] (by decide) (by decide) (by decide +kernel) (by decide +kernel)).mono ?_
  rintro e w4 ⟨rfl, s4⟩
  go_wp2_with (fail)
  refine (LS.takeLit hG s4 2 [kX, sAB, kBad] (some kBad) [(sAB, 1)] (by decide) (by decide) (by decide +kernel) (by decide +kernel)).mono ?_
  rintro e w5 ⟨rfl, s5⟩
  go_wp2_with (fail)
  refine (LS.takeLit hG s5 2 [kAC, kX] none [(sAB, 1), (kAC, 2), (kX, 2)] (by decide) (by decide) (by decide +kernel) (by decide +kernel)).mono ?_
  rintro e w6 ⟨rfl, s6⟩
  go_wp2_with (fail)
  refine (held_any b m _ kAC w6 s6.here).mono ?_
  rintro e w7 ⟨rfl, rfl⟩
  rw [show mget [(sAB, (1 : Int)), (kAC, 2), (kX, 2)] kAC = some 2 by decide +kernel]
  go_wp2_with (fail)
  refine (held_any b m _ sA w6 s6.here).mono ?_
  rintro e w7 ⟨rfl, rfl⟩
  rw [show mget [(sAB, (1 : Int)), (kAC, 2), (kX, 2)] sA = none by decide +kernel]
  go_wp2_with (fail)
  refine (free_any b m _ 1 w6 s6.here (by decide)).mono ?_
  rw [show freeN [(sAB, 1), (kAC, 2), (kX, 2)] 1 = 1 by decide +kernel, show freeL [(sAB, 1), (kAC, 2), (kX, 2)] 1 = [(kAC, 2), (kX, 2)] by decide +kernel]
  rintro e w8 ⟨rfl, h8, k8⟩
  have s8 := s6.next k8 h8 (s6.ne hG)
  clear h8 k8
  go_wp2_with (fail)
  refine (take_any b m _ 2 _ [] w8 s8.here s8.gl (Strs.nil _) (by simp) (by simp [Value.ownBlock])).mono ?_
  rw [show wrongL [(kAC, 2), (kX, 2)] 2 [] = none by decide +kernel, show takeL [(kAC, 2), (kX, 2)] 2 [] = [(kAC, 2), (kX, 2)] by decide +kernel]
  rintro e w9 ⟨rfl, h9, k9⟩
  have s9 := s8.next k9 h9 (s8.ne hG)
  clear h9 k9
  go_wp2_with (fail)
  refine (lockLen_any b m _ w9 s9.here).mono ?_
  rintro e w10 ⟨rfl, rfl⟩
  go_wp2_with (fail)
  refine (blocks_any b m _ 1 kBad w9 s9.here s9.gl (by decide)).mono ?_
  rw [show blocksL [(kAC, 2), (kX, 2)] 1 kBad = false by decide +kernel]
  rintro e w11 ⟨rfl, hx11⟩
  go_wp2_with (fail)
  go_ret
  exact ⟨rfl, s9.ext.ext hx11⟩
end Go.Proofs.YtdaoamnemkiloaaDoor
