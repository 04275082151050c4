/- Walks of package route: Split. -/
import Derived.Test.YtmgnndhhpnedkaaGreatDoorAvWRouB
import Derived.Test.YtmgnndhhpnedkaaGreatDoorAvNest
import Derived.Test.YtmgnndhhpnedkaaGreatDoorAvOps
import Derived.Test.YtmgnndhhpnedkaaGreatDoorAvDagRow
namespace Go.Proofs.YtmgnndhhpnedkaaGreatDoor
set_option maxRecDepth 100000
open Go.RowKit Av

abbrev isT : TypeId := 22
abbrev issT : TypeId := 33
abbrev inT : TypeId := 3
theorem is_facts : ElemOk Tryz.prog isT inT 1 := ⟨by kernel_rfl, by kernel_rfl⟩
theorem iss_facts : ElemOk Tryz.prog issT isT 1 := ⟨by kernel_rfl, by kernel_rfl⟩
/-- Whose each op is. -/
def fT (sh : Nat) (mv : Moved) (xs : List OpV) (i : Nat) : Int := match xs[i]? with
  | some o => ofT sh mv o.path
  | none => -1
theorem fT_at {sh : Nat} {mv : Moved} {xs : List OpV} {i : Nat} (hi : i < xs.length) : fT sh mv xs i = ofT sh mv xs[i].path := by unfold fT; rw [List.getElem?_eq_getElem hi]
def splL (sh : Nat) (mv : Moved) (xs : List OpV) (k : Nat) : List (List Nat) := (List.range sh).map (splitTo (fT sh mv xs) k)
theorem splL_len (sh : Nat) (mv : Moved) (xs : List OpV) (k : Nat) : (splL sh mv xs k).length = sh := by simp [splL]
theorem splL_get (sh : Nat) (mv : Moved) (xs : List OpV) (k s : Nat) (hs : s < (splL sh mv xs k).length) : (splL sh mv xs k)[s] = splitTo (fT sh mv xs) k s := by simp [splL]
theorem splL_none {sh : Nat} {mv : Moved} {xs : List OpV} {k : Nat} (h : fT sh mv xs k = -1) : splL sh mv xs (k + 1) = splL sh mv xs k := by
  unfold splL
  refine List.map_congr_left fun s _ => ?_
  rw [splitTo_snoc, if_neg (by omega)]
theorem splL_some {sh : Nat} {mv : Moved} {xs : List OpV} {k s : Nat} (hs : s < (splL sh mv xs k).length) (h : fT sh mv xs k = (s : Int)) : splL sh mv xs (k + 1) = (splL sh mv xs k).set s ((splL sh mv xs k)[s] ++ [k]) := by
  apply List.ext_getElem
  · simp [splL]
  · intro j h1 h2
    rw [splL_get, splitTo_snoc, List.getElem_set]
    by_cases hj : s = j
    · subst hj; rw [if_pos h, if_pos rfl, splL_get]
    · rw [if_neg (by omega), if_neg hj, splL_get]
def SplRel (w : World) (sh : Nat) (mv : Moved) (xs : List OpV) (i : Value) (wr : World) : Prop :=
  ∃ k : Nat, k ≤ xs.length ∧ i = .int .i64 k ∧ (∃ vs, vs.length = sh ∧ SplS wr w.heap.size isT inT vs (splL sh mv xs k)) ∧ Ext w wr
theorem mk_rows1 (w : World) : (Instr.makeSlice issT (.int .i64 1) (.int .i64 1)).run Tryz.prog w = .ok (.slice (some ⟨w.heap.size, 0, none⟩) 1 1) (w.alloc (.cells (List.replicate 1 (.slice none 0 0)).toArray isT)) := by kernel_rfl
theorem mk_rows2 (w : World) : (Instr.makeSlice issT (.int .i64 2) (.int .i64 2)).run Tryz.prog w = .ok (.slice (some ⟨w.heap.size, 0, none⟩) 2 2) (w.alloc (.cells (List.replicate 2 (.slice none 0 0)).toArray isT)) := by kernel_rfl
theorem mk_rows3 (w : World) : (Instr.makeSlice issT (.int .i64 3) (.int .i64 3)).run Tryz.prog w = .ok (.slice (some ⟨w.heap.size, 0, none⟩) 3 3) (w.alloc (.cells (List.replicate 3 (.slice none 0 0)).toArray isT)) := by kernel_rfl
theorem mk_rows4 (w : World) : (Instr.makeSlice issT (.int .i64 4) (.int .i64 4)).run Tryz.prog w = .ok (.slice (some ⟨w.heap.size, 0, none⟩) 4 4) (w.alloc (.cells (List.replicate 4 (.slice none 0 0)).toArray isT)) := by kernel_rfl
theorem mk_rows (sh : Nat) (h1 : 1 ≤ sh) (h4 : sh ≤ 4) (w : World) : (Instr.makeSlice issT (.int .i64 sh) (.int .i64 sh)).run Tryz.prog w = .ok (.slice (some ⟨w.heap.size, 0, none⟩) sh sh) (w.alloc (.cells (List.replicate sh (.slice none 0 0)).toArray isT)) := by
  have : sh = 1 ∨ sh = 2 ∨ sh = 3 ∨ sh = 4 := by omega
  rcases this with rfl | rfl | rfl | rfl
  · exact mk_rows1 w
  · exact mk_rows2 w
  · exact mk_rows3 w
  · exact mk_rows4 w
set_option maxHeartbeats 3200000 in
theorem rouSplit_any (b m sh : Nat) (mv : Moved) (v : Value) (xs : List OpV) (w : World) (h : TabAt w b m sh mv) (hG : GL w) (ho : OpsAt w v xs) (hsz : OpsSz xs) (hn : xs.length ≤ 1000) :
    Calls Tryz.prog 31 #[.pointer (some ⟨b, 0, none⟩), v] w fun e w' => ∃ vs, e = .returned (.slice (some ⟨w.heap.size, 0, none⟩) sh sh) ∧ RowsR w' (.slice (some ⟨w.heap.size, 0, none⟩) sh sh) vs (splL sh mv xs xs.length) ∧ (∀ x ∈ vs, ∀ i, x.ownBlock = some i → w.heap.size ≤ i) ∧ Ext w w' := by
  have HL := Lib.hid h
  have HG := Lib.hid hG
  have HSZ := Lib.hid hsz
  have hmk := mk_rows sh h.ok.sh1 h.ok.sh4
  have HSH := Lib.hid (And.intro h.ok.sh1 h.ok.sh4)
  obtain ⟨a, c, rfl, hcc, hm, hop⟩ := OpsAt.open ho
  have HO := Lib.hid hop
  unfold maxLen at hm
  have c0 := h.head
  clear h hG hop hsz ho
  go_enter Tryz.func31, Tryz.ntmps31
  go_wp2_with (fail)
  go_loopw [16] (fun i wr => SplRel w sh mv xs i wr) (fun i _ => xs.length - (intOf i).toNat)
  case atStart => exact ⟨0, Nat.zero_le _, rfl, ⟨List.replicate sh (.slice none 0 0), by simp, by
    have e : splL sh mv xs 0 = List.replicate sh [] := by
      apply List.ext_getElem
      · simp [splL]
      · intro j h1 h2; rw [splL_get, splitTo_zero, List.getElem_replicate]
    rw [e]
    exact SplS.start sh (heap_alloc_new w _)⟩, (Kp.refl _ _).alloc _⟩
  case round =>
    obtain ⟨k, hk, rfl, ⟨vs, hvl, hsp⟩, hxr⟩ := hrel
    have HXR := Lib.hid hxr
    have HSP := Lib.hid hsp
    have HVL := Lib.hid hvl
    clear hxr hsp hvl
    by_cases hlt : k < xs.length
    · obtain ⟨ob, off, rfl, hb, hc⟩ := HO.out (by omega)
      obtain ⟨q0, q1, q2, q3, q4⟩ := hc k hlt
      have d0 := HXR.out.cell q0 (fun f => f)
      have d1 := HXR.out.cell q1 (fun f => f)
      have d2 := HXR.out.cell q2 (fun f => f)
      have d3 := HXR.out.cell q3 (fun f => f)
      have d4 := HXR.out.cell q4 (fun f => f)
      have k1 : (k : Int) < xs.length := by omega
      have hps := (HSZ.out _ (List.getElem_mem hlt)).1
      have hfk := fT_at (sh := sh) (mv := mv) hlt
      obtain ⟨⟨kk, p, dd, vv, ff⟩, hx⟩ : ∃ o, xs[k] = o := ⟨_, rfl⟩
      rw [hx] at d0 d1 d2 d3 d4 hps hfk
      simp only at d0 d1 d2 d3 d4 hps hfk
      obtain ⟨wX, hwX⟩ : ∃ wX, wr.alloc (.cells #[.int .i64 kk, .string p, .string dd, .int .i64 vv, .int .i64 ff] 59) = wX := ⟨_, rfl⟩
      have hxX : Ext wr wX := by rw [← hwX]; exact (Kp.refl _ _).alloc _
      have hbX : Blk wX wr.heap.size #[.int .i64 kk, .string p, .string dd, .int .i64 vv, .int .i64 ff] 59 := by rw [← hwX]; exact heap_alloc_new wr _
      have e1 := hbX.cell 1 _ rfl
      have HCON := Lib.hid (rouOf_any b m sh mv p wX (HL.out.ext (HXR.out.ext hxX)) (HG.out.ext (HXR.out.ext hxX)) hps)
      have HXX := Lib.hid hxX
      have HWX := Lib.hid hwX
      have hin := ofT_in HL.out.ok p
      rw [← hfk] at HCON hin
      have HFK := Lib.hid hfk
      clear q0 q1 q2 q3 q4 hc hx hxX hbX hwX hps hfk
      go_upto_region 5 with (fail)
      rw [HWX.out]
      go_wp2_with (fail)
      refine HCON.out.mono ?_
      rintro e w1 ⟨rfl, hx1⟩
      have HX1 := Lib.hid (HXX.out.ext hx1)
      clear hx1 HCON
      rcases hin with hz | ⟨hz1, hz2⟩
      · have HZ := Lib.hid hz
        rw [hz]
        clear hz
        go_wp2_with (fail)
        go_light
        exact ⟨⟨k + 1, by omega, by go_num, ⟨vs, HVL.out, by rw [splL_none HZ.out]; exact HSP.out.ext HX1.out⟩, HXR.out.ext HX1.out⟩, by simp [intOf]; omega⟩
      · obtain ⟨s, hs⟩ : ∃ s : Nat, fT sh mv xs k = (s : Int) := ⟨_, (Int.toNat_of_nonneg hz1).symm⟩
        have hsv : s < vs.length := by rw [HVL.out]; omega
        have hsl : s < (splL sh mv xs k).length := by rw [splL_len]; omega
        have hss : (s : Int) < sh := by omega
        have HS := Lib.hid hs
        rw [hs]
        have HP1 := Lib.hid (HSP.out.ext HX1.out)
        obtain ⟨a2, c2, ve, f1, f2, f3⟩ := HP1.out.shape hsv hsl
        have HVE := Lib.hid ve
        have hown := HP1.out.inn s hsv hsl
        rw [ve] at hown f3
        have HOW := Lib.hid hown
        have HF3 := Lib.hid f3
        have HLE : Hid (((splL sh mv xs k)[s]).length ≤ 1000) := by
          show _ ≤ _
          rw [splL_get]
          have := splitTo_len (fT sh mv xs) k s
          omega
        have hgl := HP1.out.lt
        have hone := nat_one [k]
        clear hz1 hz2 hs ve hown f3
        generalize hpl : (splL sh mv xs k)[s] = pl at f1 f2 HLE HOW HF3 HVE
        have HPL := Lib.hid hpl
        clear hpl
        go_wp2_with (at_builtin; refine wpList_appAt isT inT 1 (by decide) is_facts rfl _ _ rfl (w.heap.size + 1) _ _ _ rfl (ownsRow.ext HOW.out ((Kp.refl _ w1).alloc _)) w1.heap.size 1 ([k].map natV) rfl (heap_alloc_new w1 _) rfl hone ?c1 ?c2 ?_)
        case c1 => have := HLE.out; omega
        case c2 => simp; omega
        intro v' w' h1 k2 h3
        have hWa : Ext w1 (w1.alloc (.cells ([k].map natV).toArray inT)) := (Kp.refl _ w1).alloc _
        have h1' : w'.ownsRow (w.heap.size + 1) inT 1 v' ((splL sh mv xs k)[s].length + 1) ((splL sh mv xs k)[s].map natV ++ [natV k]) := by rw [HPL.out]; exact h1
        have hst := (HP1.out.ext hWa).step hsv hsl (x := k) (v' := v') h1' (by rw [HVE.out]; exact k2) (by rw [HVE.out, World.size_alloc]; exact h3)
        have f1' := k2.cell (hWa.cell f1 (fun f => f)) (fun e => HF3.out e)
        have f2' : w'.frozen? ⟨w.heap.size, s, none⟩ = false := by
          have e1 := k2.frozen (p := ⟨w.heap.size, s, none⟩) (by rw [World.size_alloc]; show w.heap.size < _; omega) (fun e => HF3.out e)
          have e2 := hWa.frozen (p := ⟨w.heap.size, s, none⟩) (by show w.heap.size < _; omega) (fun f => f)
          exact (e1.trans e2).trans f2
        have hxw : Ext w (w'.setCell ⟨w.heap.size, s, none⟩ v') := by
          have a1 : Ext w (w1.alloc (.cells ([k].map natV).toArray inT)) := (HXR.out.ext HX1.out).ext hWa
          have a2 : Ext w w' := a1.next k2 (fun i hi e => by have := (own_in HOW.out e).1; omega)
          exact a2.setCell _ _ (fun h => absurd h (Nat.lt_irrefl _))
        obtain ⟨va, vc, hv', _⟩ := Sl.open (Sl.of_owns h1)
        subst hv'
        have HST := Lib.hid hst
        have HXW := Lib.hid hxw
        clear h1 h1' k2 h3 hst hWa hxw f1 f2
        go_wp2_with (fail)
        go_light
        exact ⟨⟨k + 1, by omega, by go_num, ⟨vs.set s (.slice va (pl.length + 1) vc), by rw [List.length_set]; exact HVL.out, by rw [splL_some hsl HS.out]; exact HST.out⟩, HXW.out⟩, by simp [intOf]; omega⟩
    · have hke : k = xs.length := by omega
      subst hke
      have hsl := HSH.out
      have hrd := HSP.out.read (by rw [HVL.out]; unfold maxLen; omega) HVL.out
      have HRD := Lib.hid hrd
      have HOB : Hid (∀ x ∈ vs, ∀ i, x.ownBlock = some i → w.heap.size ≤ i) := by
        intro x hx i hi
        obtain ⟨j, hj, rfl⟩ := List.getElem_of_mem hx
        have := (own_in (HSP.out.inn j hj (by rw [← HSP.out.len]; exact hj)) hi).1
        omega
      clear hrd
      go_wp2_with (fail)
      go_ret
      exact ⟨vs, rfl, HRD.out, HOB.out, HXR.out⟩
end Go.Proofs.YtmgnndhhpnedkaaGreatDoor
