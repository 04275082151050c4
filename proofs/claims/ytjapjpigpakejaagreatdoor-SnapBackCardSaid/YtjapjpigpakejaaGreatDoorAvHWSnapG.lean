/- Walks: a node off a reader: stat.Get. -/
import Derived.Test.YtjapjpigpakejaaGreatDoorAvG27
import Derived.Test.YtjapjpigpakejaaGreatDoorAvG28
import Derived.Test.YtjapjpigpakejaaGreatDoorAvG25
import Derived.Test.YtjapjpigpakejaaGreatDoorAvHDagX
namespace Go.Proofs.YtjapjpigpakejaaGreatDoor
set_option maxRecDepth 100000
open Go.RowKit Av

theorem str_factsG : ElemOk Tryz.prog 33 strT 1 := ⟨by kernel_rfl, by kernel_rfl⟩
structure NGet (w W : World) (gr : Nat) (c : Array Value) (t : Rd) : Prop where
  res : Blk W w.heap.size ndZA ndT
  blk : Blk W (w.heap.size + 1) c ndT
  rd : RdAt W gr t
  kp : Kp (fun i => i = gr) w W
  lt : gr < w.heap.size
theorem NGet.call {w W w' : World} {gr : Nat} {c : Array Value} {t t' : Rd} (h : NGet w W gr c t) (k : Kp (fun i => i = gr) W w') (hr : RdAt w' gr t') : NGet w w' gr c t' := by
  have := h.lt
  exact ⟨h.res.kp k (by omega), h.blk.kp k (by omega), hr, h.kp.trans k, h.lt⟩
theorem NGet.ext {w W w' : World} {gr : Nat} {c : Array Value} {t : Rd} (h : NGet w W gr c t) (k : Ext W w') : NGet w w' gr c t :=
  ⟨h.res.kp k (fun f => f), h.blk.kp k (fun f => f), h.rd.ext k, h.kp.ext k, h.lt⟩
theorem NGet.put {w W : World} {gr : Nat} {c : Array Value} {t : Rd} (h : NGet w W gr c t) (i : Nat) (u : Value) : NGet w (W.setCell ⟨w.heap.size + 1, i, none⟩ u) gr (c.setIfInBounds i u) t := by
  have := h.lt
  have k : Kp (fun j => j = w.heap.size + 1) W (W.setCell ⟨w.heap.size + 1, i, none⟩ u) := (Kp.refl _ W).set1 _ i u rfl
  exact ⟨h.res.kp k (by omega), h.blk.set i u, h.rd.kp k (by omega) (fun j hj (e : j = w.heap.size + 1) => by omega), h.kp.next k (fun j hj (e : j = w.heap.size + 1) => by omega), h.lt⟩
/-- What an append to names of its own leaves. -/
theorem NGet.app {w W w' : World} {gr : Nat} {c : Array Value} {t : Rd} (h : NGet w W gr c t) {v : Value} (hv : ∀ i, v.ownBlock = some i → w.heap.size + 2 ≤ i) (k : Kp (fun i => v.ownBlock = some i) W w') : NGet w w' gr c t := by
  have := h.lt
  exact ⟨h.res.kp k (fun e => by have := hv _ e; omega), h.blk.kp k (fun e => by have := hv _ e; omega), h.rd.kp k (fun e => by have := hv _ e; omega) (fun j hj e => by have := hv _ e; omega), h.kp.next k (fun j hj e => by have := hv _ e; omega), h.lt⟩
theorem NGet.reg {w W w' : World} {gr : Nat} {c : Array Value} {t t' : Rd} (h : NGet w W gr c t) {v : Value} (hv : ∀ i, v.ownBlock = some i → w.heap.size + 2 ≤ i ∧ i < W.heap.size) (k : Kp (fun i => W.heap.size ≤ i ∨ (v.ownBlock = some i ∨ i = gr)) W w') (hr : RdAt w' gr t') : NGet w w' gr c t' := by
  have h1 := h.lt
  have h2 := h.blk.lt
  refine ⟨h.res.kp k (fun f => ?_), h.blk.kp k (fun f => ?_), hr, h.kp.next k (fun i hi f => ?_), h.lt⟩
  · rcases f with f | f | f
    · omega
    · have := (hv _ f).1; omega
    · omega
  · rcases f with f | f | f
    · omega
    · have := (hv _ f).1; omega
    · omega
  · rcases f with f | f | f
    · have := h.kp.size; omega
    · have := (hv _ f).1; omega
    · exact f
theorem rdBad_any (g : Nat) (s : Rd) (w : World) (h : RdAt w g s) :
    Calls Tryz.prog 113 #[.pointer (some ⟨g, 0, none⟩)] w fun e w' => e = .returned (.bool s.isNone) ∧ w = w' := by
  obtain ⟨v, h1, _⟩ := h
  have c1 := h1.cell 1 (.bool s.isNone) rfl
  clear h1
  go_enter Tryz.func113, Tryz.ntmps113
  go_wp2_with (fail)
  go_ret
  go_light
  exact ⟨rfl, rfl⟩
def NmRel (w : World) (gr : Nat) (n : NodeV) (r : Bs) (s5 s35 : Value) (W : World) : Prop :=
  ∃ (k : Nat) (v : Value), k ≤ n.names.length ∧ s5 = .bool true ∧ s35 = .int .i64 k ∧ NGet w W gr #[.int .i64 n.made, .int .i64 n.chg, .int .i64 n.ver, .int .i64 n.kids, .int .i64 n.own, .int .i64 0, .int .i64 0, .string n.data, .int .i64 n.next, v] (some ((n.names.drop k).flatMap txt ++ r)) ∧ W.ownsRow (w.heap.size + 2) strT 1 v k ((n.names.take k).map encStr)
set_option maxHeartbeats 6400000 in
theorem statGet_any (gr : Nat) (n : NodeV) (r : Bs) (w : World) (hr : RdAt w gr (some (encN n ++ r))) (hn : NodeB n) (hu : Rising n.names) :
    Calls Tryz.prog 89 #[.pointer (some ⟨gr, 0, none⟩)] w fun e w' => ∃ nv, e = .returned (.tuple #[.agg (ndA n nv), .bool true]) ∧ w'.ownsRow w.heap.size strT 1 nv n.names.length (n.names.map encStr) ∧ RdAt w' gr (some r) ∧ Kp (fun i => i = gr) w w' := by
  obtain ⟨wA, hWA⟩ : ∃ wA, (w.alloc (.cells ndZA ndT)).alloc (.cells ndZA ndT) = wA := ⟨_, rfl⟩
  have hxA : Ext w wA := by rw [← hWA]; exact ((Kp.refl _ _).alloc _).alloc _
  have hA : Blk wA w.heap.size ndZA ndT := by
    rw [← hWA]
    exact Blk.kp (heap_alloc_new w _) ((Kp.refl (fun _ => False) _).alloc _) (fun f => f)
  have hB : Blk wA (w.heap.size + 1) ndZA ndT := by
    rw [← hWA]
    have := heap_alloc_new (w.alloc (.cells ndZA ndT)) (.cells ndZA ndT)
    rw [World.size_alloc] at this
    exact this
  have hd : n.data.data.toList.length ≤ 1000 := by have := hn.parts.2.2.1; rwa [Lib.size_eq] at this
  have HLEN : Hid (n.len = n.data.size ∧ n.cnt = n.names.length) := ⟨hn.parts.1, hn.parts.2.1⟩
  have HSM : Hid (∀ x ∈ n.names, x.length ≤ 40) := fun x hx => name_len (hn.parts.2.2.2 x hx)
  have HUP := Lib.hid hu
  have hfew := hn.few
  obtain ⟨r8, hr8⟩ : ∃ x, n.names.flatMap txt ++ r = x := ⟨_, rfl⟩
  obtain ⟨r7, hr7⟩ : ∃ x, be8 (n.names.length : Int) ++ r8 = x := ⟨_, rfl⟩
  obtain ⟨r6, hr6⟩ : ∃ x, txt n.data.data.toList ++ r7 = x := ⟨_, rfl⟩
  obtain ⟨r5, hr5⟩ : ∃ x, be8 n.next ++ r6 = x := ⟨_, rfl⟩
  obtain ⟨r4, hr4⟩ : ∃ x, be8 n.own ++ r5 = x := ⟨_, rfl⟩
  obtain ⟨r3, hr3⟩ : ∃ x, be8 n.kids ++ r4 = x := ⟨_, rfl⟩
  obtain ⟨r2, hr2⟩ : ∃ x, be8 n.ver ++ r3 = x := ⟨_, rfl⟩
  obtain ⟨r1, hr1⟩ : ∃ x, be8 n.chg ++ r2 = x := ⟨_, rfl⟩
  have hr0 : encN n ++ r = be8 n.made ++ r1 := by
    rw [← hr1, ← hr2, ← hr3, ← hr4, ← hr5, ← hr6, ← hr7, ← hr8]
    unfold encN
    simp only [List.append_assoc]
  rw [hr0] at hr
  have HC1 : Hid (∀ W, RdAt W gr (some (be8 n.made ++ r1)) → Calls Tryz.prog 111 #[.pointer (some ⟨gr, 0, none⟩)] W fun e w' => e = .returned (.int .i64 n.made) ∧ RdAt w' gr (some r1) ∧ Kp (fun i => i = gr) W w') := fun W h => by have := rdI64_any gr _ W h; rw [rdI_be8 hn.made] at this; exact this
  have HC2 : Hid (∀ W, RdAt W gr (some r1) → Calls Tryz.prog 111 #[.pointer (some ⟨gr, 0, none⟩)] W fun e w' => e = .returned (.int .i64 n.chg) ∧ RdAt w' gr (some r2) ∧ Kp (fun i => i = gr) W w') := fun W h => by have := rdI64_any gr _ W h; rw [← hr1, rdI_be8 hn.chg] at this; exact this
  have HC3 : Hid (∀ W, RdAt W gr (some r2) → Calls Tryz.prog 87 #[.pointer (some ⟨gr, 0, none⟩), .int .i64 2147483647] W fun e w' => e = .returned (.int .i64 n.ver) ∧ RdAt w' gr (some r3) ∧ Kp (fun i => i = gr) W w') := fun W h => by have := rdCount_any gr _ mostN W h; rw [← hr2, rdC_be8 (i64_most hn.ver) hn.ver.1 hn.ver.2] at this; exact this
  have HC4 : Hid (∀ W, RdAt W gr (some r3) → Calls Tryz.prog 87 #[.pointer (some ⟨gr, 0, none⟩), .int .i64 2147483647] W fun e w' => e = .returned (.int .i64 n.kids) ∧ RdAt w' gr (some r4) ∧ Kp (fun i => i = gr) W w') := fun W h => by have := rdCount_any gr _ mostN W h; rw [← hr3, rdC_be8 (i64_most hn.kids) hn.kids.1 hn.kids.2] at this; exact this
  have HC5 : Hid (∀ W, RdAt W gr (some r4) → Calls Tryz.prog 111 #[.pointer (some ⟨gr, 0, none⟩)] W fun e w' => e = .returned (.int .i64 n.own) ∧ RdAt w' gr (some r5) ∧ Kp (fun i => i = gr) W w') := fun W h => by have := rdI64_any gr _ W h; rw [← hr4, rdI_be8 hn.own] at this; exact this
  have HC6 : Hid (∀ W, RdAt W gr (some r5) → Calls Tryz.prog 87 #[.pointer (some ⟨gr, 0, none⟩), .int .i64 2147483647] W fun e w' => e = .returned (.int .i64 n.next) ∧ RdAt w' gr (some r6) ∧ Kp (fun i => i = gr) W w') := fun W h => by have := rdCount_any gr _ mostN W h; rw [← hr5, rdC_be8 (i64_most hn.next) hn.next.1 hn.next.2] at this; exact this
  have HC7 : Hid (∀ W, RdAt W gr (some r6) → Calls Tryz.prog 88 #[.pointer (some ⟨gr, 0, none⟩), .int .i64 1000] W fun e w' => e = .returned (.string n.data) ∧ RdAt w' gr (some r7) ∧ Kp (fun i => i = gr) W w') := fun W h => by have := rdText_any gr _ 1000 W h; rw [← hr6, rdT_txt _ _ (by omega) (by omega)] at this; simpa only [bytes_self] using this
  have HC8 : Hid (∀ W, RdAt W gr (some r7) → Calls Tryz.prog 87 #[.pointer (some ⟨gr, 0, none⟩), .int .i64 500] W fun e w' => e = .returned (.int .i64 (n.names.length : Int)) ∧ RdAt w' gr (some r8) ∧ Kp (fun i => i = gr) W w') := fun W h => by have := rdCount_any gr _ 500 W h; rw [← hr7, rdC_be8 (i64_len (by omega)) (Int.natCast_nonneg _) (by omega)] at this; exact this
  have HT : Hid (∀ k (hk : k < n.names.length) W, RdAt W gr (some ((n.names.drop k).flatMap txt ++ r)) → Calls Tryz.prog 88 #[.pointer (some ⟨gr, 0, none⟩), .int .i64 40] W fun e w' => e = .returned (.string ⟨n.names[k].toArray⟩) ∧ RdAt w' gr (some ((n.names.drop (k + 1)).flatMap txt ++ r)) ∧ Kp (fun i => i = gr) W w') := fun k hk W h => by
    have := rdText_any gr _ 40 W h
    have hl := HSM.out _ (List.getElem_mem hk)
    rw [List.drop_eq_getElem_cons hk, List.flatMap_cons, List.append_assoc, rdT_txt _ _ (by omega) (by omega)] at this
    exact this
  have HR8 : Hid (r8 = (n.names.drop 0).flatMap txt ++ r) := hr8.symm
  have HS0 : Hid (NGet w wA gr ndZA (some (be8 n.made ++ r1))) := ⟨hA, hB, hr.ext hxA, Ext.kp hxA, hr.lt⟩
  unfold ndZA at hWA hA hB
  have HWA := Lib.hid hWA
  have g0 := hA.cell 0 _ rfl
  have g1 := hA.cell 1 _ rfl
  have g2 := hA.cell 2 _ rfl
  have g3 := hA.cell 3 _ rfl
  have g4 := hA.cell 4 _ rfl
  have g5 := hA.cell 5 _ rfl
  have g6 := hA.cell 6 _ rfl
  have g7 := hA.cell 7 _ rfl
  have g8 := hA.cell 8 _ rfl
  have g9 := hA.cell 9 _ rfl
  have fg0 := hA.free 0
  have fg1 := hA.free 1
  have fg2 := hA.free 2
  have fg3 := hA.free 3
  have fg4 := hA.free 4
  have fg5 := hA.free 5
  have fg6 := hA.free 6
  have fg7 := hA.free 7
  have fg8 := hA.free 8
  have fg9 := hA.free 9
  have d0 := hB.cell 0 _ rfl
  have d1 := hB.cell 1 _ rfl
  have d2 := hB.cell 2 _ rfl
  have d3 := hB.cell 3 _ rfl
  have d4 := hB.cell 4 _ rfl
  have d5 := hB.cell 5 _ rfl
  have d6 := hB.cell 6 _ rfl
  have d7 := hB.cell 7 _ rfl
  have d8 := hB.cell 8 _ rfl
  have d9 := hB.cell 9 _ rfl
  have fd0 := hB.free 0
  have fd1 := hB.free 1
  have fd2 := hB.free 2
  have fd3 := hB.free 3
  have fd4 := hB.free 4
  have fd5 := hB.free 5
  have fd6 := hB.free 6
  have fd7 := hB.free 7
  have fd8 := hB.free 8
  have fd9 := hB.free 9
  clear hWA hxA hA hB hr0 hr1 hr2 hr3 hr4 hr5 hr6 hr7 hr8 hr hd hn hu
  go_enter Tryz.func89, Tryz.ntmps89
  go_upto_region 2 with (fail)
  rw [HWA.out]
  go_wp2_with (fail)
  refine (HC1.out _ HS0.out.rd).mono ?_
  rintro e u1 ⟨rfl, hr, hk⟩
  have hs := HS0.out.call hk hr
  have c1 := hs.blk.cell 0 _ rfl
  have f1 := hs.blk.free 0
  have HS1 : Hid (NGet w (u1.setCell ⟨w.heap.size + 1, 0, none⟩ (.int .i64 n.made)) gr #[.int .i64 n.made, .int .i64 0, .int .i64 0, .int .i64 0, .int .i64 0, .int .i64 0, .int .i64 0, .string ⟨#[]⟩, .int .i64 0, .slice none 0 0] (some r1)) := hs.put 0 (.int .i64 n.made)
  clear HS0 HC1 hr hk hs
  go_wp2_with (fail)
  refine (HC2.out _ HS1.out.rd).mono ?_
  rintro e u2 ⟨rfl, hr, hk⟩
  have hs := HS1.out.call hk hr
  have c2 := hs.blk.cell 1 _ rfl
  have f2 := hs.blk.free 1
  have HS2 : Hid (NGet w (u2.setCell ⟨w.heap.size + 1, 1, none⟩ (.int .i64 n.chg)) gr #[.int .i64 n.made, .int .i64 n.chg, .int .i64 0, .int .i64 0, .int .i64 0, .int .i64 0, .int .i64 0, .string ⟨#[]⟩, .int .i64 0, .slice none 0 0] (some r2)) := hs.put 1 (.int .i64 n.chg)
  clear HS1 HC2 hr hk hs
  go_wp2_with (fail)
  refine (HC3.out _ HS2.out.rd).mono ?_
  rintro e u3 ⟨rfl, hr, hk⟩
  have hs := HS2.out.call hk hr
  have c3 := hs.blk.cell 2 _ rfl
  have f3 := hs.blk.free 2
  have HS3 : Hid (NGet w (u3.setCell ⟨w.heap.size + 1, 2, none⟩ (.int .i64 n.ver)) gr #[.int .i64 n.made, .int .i64 n.chg, .int .i64 n.ver, .int .i64 0, .int .i64 0, .int .i64 0, .int .i64 0, .string ⟨#[]⟩, .int .i64 0, .slice none 0 0] (some r3)) := hs.put 2 (.int .i64 n.ver)
  clear HS2 HC3 hr hk hs
  go_wp2_with (fail)
  refine (HC4.out _ HS3.out.rd).mono ?_
  rintro e u4 ⟨rfl, hr, hk⟩
  have hs := HS3.out.call hk hr
  have c4 := hs.blk.cell 3 _ rfl
  have f4 := hs.blk.free 3
  have HS4 : Hid (NGet w (u4.setCell ⟨w.heap.size + 1, 3, none⟩ (.int .i64 n.kids)) gr #[.int .i64 n.made, .int .i64 n.chg, .int .i64 n.ver, .int .i64 n.kids, .int .i64 0, .int .i64 0, .int .i64 0, .string ⟨#[]⟩, .int .i64 0, .slice none 0 0] (some r4)) := hs.put 3 (.int .i64 n.kids)
  clear HS3 HC4 hr hk hs
  go_wp2_with (fail)
  refine (HC5.out _ HS4.out.rd).mono ?_
  rintro e u5 ⟨rfl, hr, hk⟩
  have hs := HS4.out.call hk hr
  have c5 := hs.blk.cell 4 _ rfl
  have f5 := hs.blk.free 4
  have HS5 : Hid (NGet w (u5.setCell ⟨w.heap.size + 1, 4, none⟩ (.int .i64 n.own)) gr #[.int .i64 n.made, .int .i64 n.chg, .int .i64 n.ver, .int .i64 n.kids, .int .i64 n.own, .int .i64 0, .int .i64 0, .string ⟨#[]⟩, .int .i64 0, .slice none 0 0] (some r5)) := hs.put 4 (.int .i64 n.own)
  clear HS4 HC5 hr hk hs
  go_wp2_with (fail)
  refine (HC6.out _ HS5.out.rd).mono ?_
  rintro e u6 ⟨rfl, hr, hk⟩
  have hs := HS5.out.call hk hr
  have c6 := hs.blk.cell 8 _ rfl
  have f6 := hs.blk.free 8
  have HS6 : Hid (NGet w (u6.setCell ⟨w.heap.size + 1, 8, none⟩ (.int .i64 n.next)) gr #[.int .i64 n.made, .int .i64 n.chg, .int .i64 n.ver, .int .i64 n.kids, .int .i64 n.own, .int .i64 0, .int .i64 0, .string ⟨#[]⟩, .int .i64 n.next, .slice none 0 0] (some r6)) := hs.put 8 (.int .i64 n.next)
  clear HS5 HC6 hr hk hs
  go_wp2_with (fail)
  refine (HC7.out _ HS6.out.rd).mono ?_
  rintro e u7 ⟨rfl, hr, hk⟩
  have hs := HS6.out.call hk hr
  have c7 := hs.blk.cell 7 _ rfl
  have f7 := hs.blk.free 7
  have HS7 : Hid (NGet w (u7.setCell ⟨w.heap.size + 1, 7, none⟩ (.string n.data)) gr #[.int .i64 n.made, .int .i64 n.chg, .int .i64 n.ver, .int .i64 n.kids, .int .i64 n.own, .int .i64 0, .int .i64 0, .string n.data, .int .i64 n.next, .slice none 0 0] (some r7)) := hs.put 7 (.string n.data)
  clear HS6 HC7 hr hk hs
  go_wp2_with (fail)
  refine (HC8.out _ HS7.out.rd).mono ?_
  rintro e u8 ⟨rfl, hr, hk⟩
  have HS8 := Lib.hid (HS7.out.call hk hr)
  rw [HR8.out] at HS8
  clear hr hk HC8 HS7 c1 c2 c3 c4 c5 c6 c7 f1 f2 f3 f4 f5 f6 f7 g0 g1 g2 g3 g4 g5 g6 g7 g8 g9 fg0 fg1 fg2 fg3 fg4 fg5 fg6 fg7 fg8 fg9 d0 d1 d2 d3 d4 d5 d6 d7 d8 d9 fd0 fd1 fd2 fd3 fd4 fd5 fd6 fd7 fd8 fd9
  go_wp2_with (fail)
  go_loopw [5, 35] (fun s5 s35 wr => NmRel w gr n r s5 s35 wr) (fun _ i _ => n.names.length - (intOf i).toNat)
  case atStart => exact ⟨0, .slice none 0 0, Nat.zero_le _, rfl, rfl, HS8.out, ⟨rfl, .inl ⟨rfl, rfl⟩⟩⟩
  case round =>
    clear HS8
    obtain ⟨k, v, hk, rfl, rfl, hst, hown⟩ := hrel
    obtain ⟨va, vc, rfl⟩ := owns_slice hown
    have HST := Lib.hid hst
    have HO := Lib.hid hown
    by_cases hlt : k < n.names.length
    · have HTK := Lib.hid (HT.out k hlt)
      have c9 := hst.blk.cell 9 _ rfl
      have f9 := hst.blk.free 9
      clear hst hown
      have HONE : Hid (∀ y ∈ [encStr n.names[k]], y.oneCell' = true) := enc_one [n.names[k]]
      have hge : ∀ i, (Value.slice va k vc).ownBlock = some i → w.heap.size + 2 ≤ i ∧ i < wr.heap.size := fun i hi => own_in HO.out hi
      have HGE := Lib.hid hge
      have hlt2 := HST.out.lt
      have hbl := HST.out.blk.lt
      have HNG : Hid (∀ base, wr.heap.size ≤ base → ¬ (base ≤ w.heap.size + 1 ∨ ((Value.slice va k vc).ownBlock = some (w.heap.size + 1) ∨ w.heap.size + 1 = gr))) := fun base hb f => by
        rcases f with f | f | f
        · omega
        · have := (HGE.out _ f).1; omega
        · omega
      have HBLK := Lib.hid HST.out.blk
      obtain ⟨x, hx⟩ : ∃ x, n.names[k] = x := ⟨_, rfl⟩
      rw [hx] at HTK HONE
      have HTX : Hid (n.names.take (k + 1) = n.names.take k ++ [x]) := by show _ = _; rw [List.take_succ_eq_append_getElem hlt, hx]
      obtain ⟨t1, ht1⟩ : ∃ t1, (n.names.drop k).flatMap txt ++ r = t1 := ⟨_, rfl⟩
      obtain ⟨t2, ht2⟩ : ∃ t2, (n.names.drop (k + 1)).flatMap txt ++ r = t2 := ⟨_, rfl⟩
      rw [ht1, ht2] at HTK
      rw [ht1] at HST
      have HT2 := Lib.hid ht2
      clear c9 f9 hge hx ht1 ht2
      go_upto_region 13 with (fail)
      refine' Av.X.wp_region_dagG (fun i => (Value.slice va k vc).ownBlock = some i ∨ i = gr) 6 [(41, [900], [42, 43]), (43, [901, 42], [])] [900, 901] ((38, .val _) :: (39, .val _) :: (40, .val _) :: (41, ⟨fun v => v = .string ⟨x.toArray⟩, fun _ w' => RdAt w' gr (some t2)⟩) :: (42, ⟨fun _ => True, fun v w' => BoxL wr.heap.size strT 1 [encStr x] v w'⟩) :: (43, ⟨fun v => ∃ a c, v = .slice a (k + 1) c, fun v w' => w'.ownsRow (w.heap.size + 2) strT 1 v (k + 1) ((n.names.take k).map encStr ++ [encStr x])⟩) :: (900, ⟨fun _ => True, fun _ w' => RdAt w' gr (some t1)⟩) :: (901, ⟨fun _ => True, fun _ w' => w'.ownsRow (w.heap.size + 2) strT 1 (.slice va k vc) k ((n.names.take k).map encStr)⟩) :: []) (by exact ⟨fun _ _ _ _ _ => trivial, ⟨fun _ _ _ _ _ => trivial, ⟨fun _ _ _ _ _ => trivial, ⟨fun _ _ _ hr hv => hv.ext hr, ⟨fun _ _ _ hr hv => hv.ext hr, ⟨fun _ _ _ hr hv => ownsRow.ext hv hr, ⟨fun _ _ _ hr hv => hv.ext hr, ⟨fun _ _ _ hr hv => ownsRow.ext hv hr, trivial⟩⟩⟩⟩⟩⟩⟩⟩) (by exact ⟨⟨undef, HST.out.rd.ext (Kp.refl _ _).drew⟩, ⟨⟨undef, ownsRow.ext HO.out (Kp.refl _ _).drew⟩, trivial⟩⟩) (by kernel_rfl) (by kernel_rfl) (by kernel_rfl) ?_
      rotate_left 3
      simp only [List.take_succ_cons, List.take_zero]
      repeat (first
        | (refine Av.X.wpD_skipv ?_ ?_ ?_
           focus rfl
           focus rfl
           simp only [Act.put, List.setIfInBounds_toArray, List.set_cons_succ, List.set_cons_zero])
        | (refine' Av.X.wpD_val (c := _) ?_ (fun w => Kp.refl _ w) ?_ (fun wq hwq hfz => ?_) ?_
           rotate_left
           focus rfl
           focus rfl
           focus (have hfq := hfz.at_; have hcq := hfz.use; (have c9 := (HBLK.out.kp hwq (HNG.out _ (Nat.le_refl _))).cell 9 _ rfl); go_simp; first | done | rfl)
           simp only [Act.put, List.setIfInBounds_toArray, List.set_cons_succ, List.set_cons_zero])
        | (refine' Av.X.wpD_con (c := _) ?_ ?_ (fun wq hwq hfz => ?_) ?_
           rotate_left
           focus rfl
           focus rfl
           focus (have hfq := hfz.at_; have hcq := hfz.use; (have c9 := (HBLK.out.kp hwq (HNG.out _ (Nat.le_refl _))).cell 9 _ rfl); go_simp; (try (rw [dUpon_enter])); fail)
           simp only [Act.put, List.setIfInBounds_toArray, List.set_cons_succ, List.set_cons_zero])
        | (refine Av.X.wpD_used (A := fun v => v = .string ⟨x.toArray⟩) (V := fun _ w' => RdAt w' gr (some t2)) 41 ?_ ?_ ?_ ?_ (fun wq hwq hfz => ?_) (fun v41 h41 => ?_)
           focus rfl
           focus rfl
           focus (exact ⟨_, rfl⟩)
           focus rfl
           focus (have hfq := hfz.at_; have hcq := hfz.use; (have c9 := (HBLK.out.kp hwq (HNG.out _ (Nat.le_refl _))).cell 9 _ rfl); go_simp; (try (rw [dUpon_enter])); have hrd : RdAt wq gr (some t1) := (hcq 900 rfl).elim (fun _ h => h); (with_reducible refine (HTK.out _ hrd).mono ?_); rintro e w' ⟨rfl, hr', hk'⟩; refine ⟨_, rfl, rfl, hr', hk'.mono (fun i _ e => .inr (.inr e)), ?_⟩; repeat (first | exact PresL.nil | (with_reducible refine PresL.val ?_) | (refine PresL.out rfl ?_) | (refine PresL.keep (fun u hu => ownsRow.kp hu hk' (fun i hi e => by have := (own_in hu hi).1; omega)) ?_)))
           subst h41
           simp only [Act.put, List.setIfInBounds_toArray, List.set_cons_succ, List.set_cons_zero])
        | (refine Av.X.wpD_made (A := fun _ => True) (V := fun v w' => BoxL wr.heap.size strT 1 [encStr x] v w') 42 ?_ ?_ ?_ ?_ (fun wq hwq hfz => ?_) (fun v42 h42 => ?_)
           focus rfl
           focus rfl
           focus (exact ⟨undef, trivial⟩)
           focus rfl
           focus (have hfq := hfz.at_; have hcq := hfz.use; (have c9 := (HBLK.out.kp hwq (HNG.out _ (Nat.le_refl _))).cell 9 _ rfl); go_simp; (try (rw [dUpon_enter])); rw [dUpon_value]; exact mPost trivial (BoxL.new hwq.size) ((Kp.refl _ _).alloc _))
           clear h42
           simp only [Act.put, List.setIfInBounds_toArray, List.set_cons_succ, List.set_cons_zero])
        | (refine Av.X.wpD_used (A := fun v => ∃ a c, v = .slice a (k + 1) c) (V := fun v w' => w'.ownsRow (w.heap.size + 2) strT 1 v (k + 1) ((n.names.take k).map encStr ++ [encStr x])) 43 ?_ ?_ ?_ ?_ (fun wq hwq hfz => ?_) (fun v43 h43 => ?_)
           focus rfl
           focus rfl
           focus (exact ⟨.slice none (k + 1) 0, _, _, rfl⟩)
           focus rfl
           focus (have hfq := hfz.at_; have hcq := hfz.use; (have c9 := (HBLK.out.kp hwq (HNG.out _ (Nat.le_refl _))).cell 9 _ rfl); have hrow : wq.ownsRow (w.heap.size + 2) strT 1 (.slice va k vc) k ((n.names.take k).map encStr) := (hcq 901 rfl).elim (fun _ h => h); refine dUpon_app (d := 43) rfl (by kernel_rfl) 33 strT 1 (by decide) str_factsG rfl _ _ rfl (w.heap.size + 2) (.slice va k vc) k _ rfl hrow v42 1 [encStr x] rfl (BoxL.sl (k := 1) (hfq 42 rfl) rfl (by decide)).1 (BoxL.sl (k := 1) (hfq 42 rfl) rfl (by decide)).2 HONE.out (by omega) (by have := hwq.size; omega) (fun v' w' h1 h2 => ⟨owns_slice h1, h1, h2.mono (fun i _ e => .inr (.inl e)), ?_⟩); repeat (first | exact PresL.nil | (with_reducible refine PresL.val ?_) | (refine PresL.out rfl ?_) | (refine PresL.keep (fun u hu => RdAt.kp hu h2 (fun e => by have := (HGE.out _ e).1; omega) (fun i hi e => by have := (HGE.out _ e).1; omega)) ?_)))
           obtain ⟨a43, c43, rfl⟩ := h43
           simp only [Act.put, List.setIfInBounds_toArray, List.set_cons_succ, List.set_cons_zero])
        | fail)
      refine Av.X.wpD_nil ?_
      intro w7 hr7 hend
      have h43 : w7.ownsRow (w.heap.size + 2) strT 1 (.slice a43 (k + 1) c43) (k + 1) ((n.names.take k).map encStr ++ [encStr x]) := hend 43 (by kernel_rfl)
      have h41 : RdAt w7 gr (some t2) := hend 41 (by kernel_rfl)
      clear hend
      have hs7 := HST.out.reg HGE.out hr7 h41
      have c9 := hs7.blk.cell 9 _ rfl
      have f9 := hs7.blk.free 9
      obtain ⟨W8, hW8⟩ : ∃ W8, w7.setCell ⟨w.heap.size + 1, 9, none⟩ (.slice a43 (k + 1) c43) = W8 := ⟨_, rfl⟩
      have hs8 : NGet w W8 gr #[.int .i64 n.made, .int .i64 n.chg, .int .i64 n.ver, .int .i64 n.kids, .int .i64 n.own, .int .i64 0, .int .i64 0, .string n.data, .int .i64 n.next, .slice a43 (k + 1) c43] (some t2) := by rw [← hW8]; exact hs7.put 9 _
      have ho8 : W8.ownsRow (w.heap.size + 2) strT 1 (.slice a43 (k + 1) c43) (k + 1) ((n.names.take (k + 1)).map encStr) := by
        have k8 : Kp (fun j => j = w.heap.size + 1) w7 W8 := by rw [← hW8]; exact (Kp.refl _ _).set1 _ 9 _ rfl
        have := ownsRow.kp h43 k8 (fun i hi e => by have := (own_in h43 hi).1; omega)
        rw [HTX.out, List.map_append]
        exact this
      obtain ⟨_, _, hsl, hop⟩ := strs_open ho8
      simp only [Value.slice.injEq, true_and] at hsl
      obtain ⟨rfl, rfl⟩ := hsl
      obtain ⟨g, off, rfl, hcl⟩ := hop (by omega)
      have hlt3 : (n.names.take (k + 1)).length = k + 1 := by rw [List.length_take]; omega
      have hck : W8.cell? ⟨g, off + k, none⟩ = some (.string ⟨n.names[k].toArray⟩) := by have := hcl k (by omega); rw [List.getElem_take] at this; exact this
      have HCK := Lib.hid hck
      have HB8 := Lib.hid hs8.blk
      have HS8 := Lib.hid hs8
      have HO8 := Lib.hid ho8
      have HW8 := Lib.hid hW8
      have HCJ : Hid (∀ j, j + 1 = k → W8.cell? ⟨g, off + j, none⟩ = some (.string ⟨(n.names.getD j []).toArray⟩)) := fun j hj => by
        have := hcl j (by omega)
        rw [List.getElem_take] at this
        rw [List.getD, List.getElem?_eq_getElem (by omega)]
        exact this
      have HUPK : Hid (∀ j, j + 1 = k → Op.bytesLess (⟨(n.names.getD j []).toArray⟩ : ByteArray).toList (⟨n.names[k].toArray⟩ : ByteArray).toList = true) := fun j hj => by
        rw [bs_toList, bs_toList, lessB, decide_eq_true_iff, List.getD, List.getElem?_eq_getElem (by omega)]
        exact List.pairwise_iff_getElem.1 HUP.out j k (by omega) hlt (by omega)
      rw [← HT2.out] at HS8
      clear hr7 h43 h41 hs7 hs8 ho8 hop hcl hck hW8 HTK HST HO HONE HGE HNG HBLK HTX HT2 hlt2 hbl
      go_upto_region 14 with (fail)
      rw [HW8.out]
      clear HW8 c9 f9
      cases k with
      | zero =>
        refine' wp_region_dag0 ((45, .val _) :: (46, .val _) :: (47, .val _) :: (48, .val _) :: (49, .val _) :: (50, .val _) :: (51, .val _) :: (52, .val _) :: (53, .val _) :: (54, .val _) :: (55, .val _) :: (56, .val _) :: (57, .val _) :: (58, .val _) :: (59, .val _) :: (60, .val _) :: (61, .val _) :: (62, .val _) :: (63, .val _) :: (5, .val _) :: []) (by exact ⟨fun _ _ _ _ _ => trivial, ⟨fun _ _ _ _ _ => trivial, ⟨fun _ _ _ _ _ => trivial, ⟨fun _ _ _ _ _ => trivial, ⟨fun _ _ _ _ _ => trivial, ⟨fun _ _ _ _ _ => trivial, ⟨fun _ _ _ _ _ => trivial, ⟨fun _ _ _ _ _ => trivial, ⟨fun _ _ _ _ _ => trivial, ⟨fun _ _ _ _ _ => trivial, ⟨fun _ _ _ _ _ => trivial, ⟨fun _ _ _ _ _ => trivial, ⟨fun _ _ _ _ _ => trivial, ⟨fun _ _ _ _ _ => trivial, ⟨fun _ _ _ _ _ => trivial, ⟨fun _ _ _ _ _ => trivial, ⟨fun _ _ _ _ _ => trivial, ⟨fun _ _ _ _ _ => trivial, ⟨fun _ _ _ _ _ => trivial, ⟨fun _ _ _ _ _ => trivial, trivial⟩⟩⟩⟩⟩⟩⟩⟩⟩⟩⟩⟩⟩⟩⟩⟩⟩⟩⟩⟩) (by kernel_rfl) (by kernel_rfl) (by kernel_rfl) ?_
        rotate_left 20
        repeat (first
          | (refine wpD_skipv ?_ ?_ ?_
             focus rfl
             focus rfl
             simp only [Act.put, List.setIfInBounds_toArray, List.set_cons_succ, List.set_cons_zero])
          | (refine' wpD_val (c := _) ?_ (fun w => Kp.refl _ w) ?_ (fun wq hwq hfq => ?_) ?_
             rotate_left
             focus rfl
             focus rfl
             focus ((have c9 := (HB8.out.kp hwq (fun f => f)).cell 9 _ rfl); go_simp; first | done | rfl)
             simp only [Act.put, List.setIfInBounds_toArray, List.set_cons_succ, List.set_cons_zero])
          | (refine' wpD_con (c := _) ?_ ?_ (fun wq hwq hfq => ?_) ?_
             rotate_left
             focus rfl
             focus rfl
             focus ((have c9 := (HB8.out.kp hwq (fun f => f)).cell 9 _ rfl); go_simp; (try (rw [dUpon_enter])); fail)
             simp only [Act.put, List.setIfInBounds_toArray, List.set_cons_succ, List.set_cons_zero])
          | fail)
        refine wpD_nil ?_
        intro w9 hx9 hend
        clear hend
        have HS9 := Lib.hid (HS8.out.ext hx9)
        have HO9 := Lib.hid (ownsRow.ext HO8.out hx9)
        clear hx9 HS8 HO8
        go_wp2_with (fail)
        go_light
        refine ⟨⟨0 + 1, _, ?_, rfl, ?_, HS9.out, HO9.out⟩, ?_⟩
        · omega
        · go_num
        · simp [intOf]; omega
      | succ j =>
        have e53 : IntKind.i64.wrap (j : Int) = (j : Int) := IntWalk.i64_in _ (by omega)
        have hb0 : (0 : Int) ≤ (j : Int) := by omega
        have hb1 : (j : Int) < (j : Int) + 1 + 1 := by omega
        have hb2 : (0 : Int) ≤ (j : Int) + 1 := by omega
        have hb3 : (j : Int) + 1 < (j : Int) + 1 + 1 := by omega
        have e54 : ((j : Int) + 1).toNat = j + 1 := by omega
        have hcj := HCJ.out j rfl
        have HCJ2 := Lib.hid hcj
        have hup := HUPK.out j rfl
        have hne : (((j + 1 : Nat) : Int) == 0) = false := beq_eq_false_iff_ne.2 (by omega)
        obtain ⟨y, hy⟩ : ∃ y : ByteArray, ⟨(n.names.getD j []).toArray⟩ = y := ⟨_, rfl⟩
        obtain ⟨z, hz⟩ : ∃ z : ByteArray, ⟨n.names[j + 1].toArray⟩ = z := ⟨_, rfl⟩
        rw [hy, hz] at hup
        rw [hy] at HCJ2
        rw [hz] at HCK
        clear hcj HCJ HUPK hy hz
        refine' wp_region_dag0 ((45, .val _) :: (46, .val _) :: (47, .val _) :: (48, .val _) :: (49, .val _) :: (50, .val _) :: (51, .val _) :: (52, .val _) :: (53, .val _) :: (54, .val _) :: (55, .val _) :: (56, .val _) :: (57, .val _) :: (58, .val _) :: (59, .val _) :: (60, .val _) :: (61, .val _) :: (62, .val _) :: (63, .val _) :: (5, .val _) :: []) (by exact ⟨fun _ _ _ _ _ => trivial, ⟨fun _ _ _ _ _ => trivial, ⟨fun _ _ _ _ _ => trivial, ⟨fun _ _ _ _ _ => trivial, ⟨fun _ _ _ _ _ => trivial, ⟨fun _ _ _ _ _ => trivial, ⟨fun _ _ _ _ _ => trivial, ⟨fun _ _ _ _ _ => trivial, ⟨fun _ _ _ _ _ => trivial, ⟨fun _ _ _ _ _ => trivial, ⟨fun _ _ _ _ _ => trivial, ⟨fun _ _ _ _ _ => trivial, ⟨fun _ _ _ _ _ => trivial, ⟨fun _ _ _ _ _ => trivial, ⟨fun _ _ _ _ _ => trivial, ⟨fun _ _ _ _ _ => trivial, ⟨fun _ _ _ _ _ => trivial, ⟨fun _ _ _ _ _ => trivial, ⟨fun _ _ _ _ _ => trivial, ⟨fun _ _ _ _ _ => trivial, trivial⟩⟩⟩⟩⟩⟩⟩⟩⟩⟩⟩⟩⟩⟩⟩⟩⟩⟩⟩⟩) (by kernel_rfl) (by kernel_rfl) (by kernel_rfl) ?_
        rotate_left 20
        repeat (first
          | (refine wpD_skipv ?_ ?_ ?_
             focus rfl
             focus rfl
             simp only [Act.put, List.setIfInBounds_toArray, List.set_cons_succ, List.set_cons_zero])
          | (refine' wpD_val (c := _) ?_ (fun w => Kp.refl _ w) ?_ (fun wq hwq hfq => ?_) ?_
             rotate_left
             focus rfl
             focus rfl
             focus ((have c9 := (HB8.out.kp hwq (fun f => f)).cell 9 _ rfl; have ck := hwq.cell HCK.out (fun f => f); have cj := hwq.cell HCJ2.out (fun f => f)); go_simp; first | done | rfl)
             simp only [Act.put, List.setIfInBounds_toArray, List.set_cons_succ, List.set_cons_zero])
          | (refine' wpD_con (c := _) ?_ ?_ (fun wq hwq hfq => ?_) ?_
             rotate_left
             focus rfl
             focus rfl
             focus ((have c9 := (HB8.out.kp hwq (fun f => f)).cell 9 _ rfl; have ck := hwq.cell HCK.out (fun f => f); have cj := hwq.cell HCJ2.out (fun f => f)); go_simp; (try (rw [dUpon_enter])); fail)
             simp only [Act.put, List.setIfInBounds_toArray, List.set_cons_succ, List.set_cons_zero])
          | fail)
        refine wpD_nil ?_
        intro w9 hx9 hend
        clear hend
        have HS9 := Lib.hid (HS8.out.ext hx9)
        have HO9 := Lib.hid (ownsRow.ext HO8.out hx9)
        clear hx9 HS8 HO8
        go_wp2_with (fail)
        go_light
        refine ⟨⟨j + 1 + 1, _, ?_, rfl, ?_, HS9.out, HO9.out⟩, ?_⟩
        · omega
        · go_num
        · simp [intOf]; omega
    · have hke : n.names.take k = n.names := List.take_of_length_le (by omega)
      have hkd : n.names.drop k = [] := List.drop_eq_nil_of_le (by omega)
      have hkn : k = n.names.length := by omega
      rw [hkd, List.flatMap_nil, List.nil_append] at HST
      rw [hke] at HO
      subst hkn
      have HBD := Lib.hid (rdBad_any gr (some r) wr HST.out.rd)
      rw [show (some r : Rd).isNone = false from rfl] at HBD
      have c7 := HST.out.blk.cell 7 _ rfl
      have c9 := HST.out.blk.cell 9 _ rfl
      have c5 := HST.out.blk.cell 5 _ rfl
      have c6 := HST.out.blk.cell 6 _ rfl
      have f5 := HST.out.blk.free 5
      obtain ⟨W5, hW5⟩ : ∃ W5, wr.setCell ⟨w.heap.size + 1, 5, none⟩ (.int .i64 n.len) = W5 := ⟨_, rfl⟩
      have hs5 : NGet w W5 gr #[.int .i64 n.made, .int .i64 n.chg, .int .i64 n.ver, .int .i64 n.kids, .int .i64 n.own, .int .i64 n.len, .int .i64 0, .string n.data, .int .i64 n.next, .slice va n.names.length vc] (some r) := by rw [← hW5]; exact HST.out.put 5 _
      have k5 : Kp (fun j => j = w.heap.size + 1) wr W5 := by rw [← hW5]; exact (Kp.refl _ _).set1 _ 5 _ rfl
      obtain ⟨W6, hW6⟩ : ∃ W6, W5.setCell ⟨w.heap.size + 1, 6, none⟩ (.int .i64 n.cnt) = W6 := ⟨_, rfl⟩
      have hs6 : NGet w W6 gr #[.int .i64 n.made, .int .i64 n.chg, .int .i64 n.ver, .int .i64 n.kids, .int .i64 n.own, .int .i64 n.len, .int .i64 n.cnt, .string n.data, .int .i64 n.next, .slice va n.names.length vc] (some r) := by rw [← hW6]; exact hs5.put 6 _
      have k6 : Kp (fun j => j = w.heap.size + 1) wr W6 := k5.trans (by rw [← hW6]; exact (Kp.refl _ _).set1 _ 6 _ rfl)
      have g6 := hs5.blk.cell 6 _ rfl
      have g6f := hs5.blk.free 6
      rw [← hW5] at g6 g6f
      have HO6 := Lib.hid (ownsRow.kp HO.out k6 (fun i hi e => by have := (own_in HO.out hi).1; omega))
      have HS6 := Lib.hid hs6
      have HW : Hid ((wr.setCell ⟨w.heap.size + 1, 5, none⟩ (.int .i64 n.data.size)).setCell ⟨w.heap.size + 1, 6, none⟩ (.int .i64 n.names.length) = W6) := by
        show _ = _
        rw [← hW6, ← hW5, HLEN.out.1, HLEN.out.2]
      rw [HLEN.out.1] at g6 g6f
      clear hst hown hke hkd hs5 k5 hW5 k6 hW6 hs6
      go_wp2_with (fail)
      refine HBD.out.mono ?_
      rintro e w1 ⟨rfl, rfl⟩
      go_upto_region 19 with (fail)
      rw [HW.out]
      have hsb := HS6.out.blk
      have hsr := HS6.out.res
      unfold ndZA at hsr
      clear c7 c9 c5 c6 f5 g6 g6f
      have d0 := hsb.cell 0 _ rfl
      have d1 := hsb.cell 1 _ rfl
      have d2 := hsb.cell 2 _ rfl
      have d3 := hsb.cell 3 _ rfl
      have d4 := hsb.cell 4 _ rfl
      have d5 := hsb.cell 5 _ rfl
      have d6 := hsb.cell 6 _ rfl
      have d7 := hsb.cell 7 _ rfl
      have d8 := hsb.cell 8 _ rfl
      have d9 := hsb.cell 9 _ rfl
      have g0 := hsr.cell 0 _ rfl
      have g1 := hsr.cell 1 _ rfl
      have g2 := hsr.cell 2 _ rfl
      have g3 := hsr.cell 3 _ rfl
      have g4 := hsr.cell 4 _ rfl
      have g5 := hsr.cell 5 _ rfl
      have g6 := hsr.cell 6 _ rfl
      have g7 := hsr.cell 7 _ rfl
      have g8 := hsr.cell 8 _ rfl
      have g9 := hsr.cell 9 _ rfl
      have fg0 := hsr.free 0
      have fg1 := hsr.free 1
      have fg2 := hsr.free 2
      have fg3 := hsr.free 3
      have fg4 := hsr.free 4
      have fg5 := hsr.free 5
      have fg6 := hsr.free 6
      have fg7 := hsr.free 7
      have fg8 := hsr.free 8
      have fg9 := hsr.free 9
      clear hsb hsr HBD
      go_wp2_with (fail)
      go_light
      refine bodyPost_ret (v := .tuple #[.agg (ndA n (.slice va n.names.length vc)), .bool true]) (by simp [results, Tryz.results89, go_sem, ndA, g0, g1, g2, g3, g4, g5, g6, g7, g8, g9]) rfl ?_
      have k10 := kp_set10 W6 w.heap.size (.int .i64 n.made) (.int .i64 n.chg) (.int .i64 n.ver) (.int .i64 n.kids) (.int .i64 n.own) (.int .i64 n.len) (.int .i64 n.cnt) (.string n.data) (.int .i64 n.next) (.slice va n.names.length vc)
      have hlt := HS6.out.lt
      refine ⟨_, rfl, own_less (ownsRow.kp HO6.out k10 (fun i hi e => by have h1 := (own_in HO6.out hi).1; omega)) (by omega), HS6.out.rd.kp k10 (by omega) (fun i hi (e : i = w.heap.size) => by omega), HS6.out.kp.next k10 (fun i hi (e : i = w.heap.size) => by omega)⟩
end Go.Proofs.YtjapjpigpakejaaGreatDoor
