/- Walks of package aviarylaw5: OpKnown. -/
import Derived.Test.YtlcbllgmnbhphaaGreatDoorAvLaw5D
import Derived.Test.YtlcbllgmnbhphaaGreatDoorAvWText
import Derived.Test.YtlcbllgmnbhphaaGreatDoorAvWRefRd
import Derived.Test.YtlcbllgmnbhphaaGreatDoorAvWRefD
import Derived.Laws.OwnMore
namespace Go.Proofs.YtlcbllgmnbhphaaGreatDoor
set_option maxRecDepth 100000
open Go.RowKit Av

def kA : ByteArray := ⟨#[47, 97]⟩
def kBC : ByteArray := ⟨#[47, 98, 47, 99]⟩
def kAB : ByteArray := ⟨#[47, 97, 47, 98]⟩
def kNo : ByteArray := ⟨#[]⟩
def k1001 : ByteArray := mkS (List.replicate 1001 0)
def kG : OpV := ⟨5, kA, kNo, 0, 0⟩
def kC : OpV := ⟨4, kBC, kNo, 3, 0⟩
def k0 : OpV := ⟨0, kNo, kNo, 0, 0⟩
theorem made_bytes (n : Nat) : (madeCells (Value.cells (.int .u8 0)) (n * 1)).toList = (List.replicate n (0 : UInt8)).map byteV := by
  apply List.ext_getElem
  · simp [madeCells]
  · intro j h1 h2
    simp [madeCells, Value.cells, Nat.mod_one, byteV]
theorem mk_bytes (w : World) : ∃ w', (Instr.makeSlice 27 (.int .i64 1001) (.int .i64 1001)).run Tryz.prog w = .ok (.slice (some ⟨w.heap.size, 0, none⟩) 1001 1001) w' ∧ BytesR w' (.slice (some ⟨w.heap.size, 0, none⟩) 1001 1001) (List.replicate 1001 0) ∧ Ext w w' := by
  have hi : (Tryz.prog.info? 5).map (fun i => (i.zero, i.size, i.bytes)) = some (some (.int .u8 0), 1, 1) := by kernel_rfl
  obtain ⟨i, hi0, hz, hs, hb⟩ := info_parts hi
  obtain ⟨w', hr, ho, hg⟩ := run_make_full (P := Tryz.prog) w 0 27 5 i _ 1 Tryz.underlying27 hi0 hz hs .i64 .i64 1001 (by rw [hb]; decide) (by decide) (Nat.zero_le _)
  refine ⟨w', hr, ⟨?_, Shp.some⟩, (Kp.refl _ w).grown hg (fun k h => by cases h)⟩
  rw [made_bytes] at ho
  have := Sl.of_owns ho
  rwa [show (List.replicate 1001 (0 : UInt8)).length = 1001 from List.length_replicate]
theorem mk_ops (w : World) : ∃ w', (Instr.makeSlice 29 (.int .i64 17) (.int .i64 17)).run Tryz.prog w = .ok (.slice (some ⟨w.heap.size, 0, none⟩) 17 17) w' ∧ OpsAt w' (.slice (some ⟨w.heap.size, 0, none⟩) 17 17) (List.replicate 17 k0) ∧ Ext w w' := by
  have hi : (Tryz.prog.info? 24).map (fun i => (i.zero, i.size, i.bytes)) = some (some (.agg #[.int .i64 0, .string ⟨#[]⟩, .string ⟨#[]⟩, .int .i64 0, .int .i64 0]), 5, 56) := by kernel_rfl
  obtain ⟨i, hi0, hz, hs, hb⟩ := info_parts hi
  obtain ⟨w', hr, ho, hg⟩ := run_make_full (P := Tryz.prog) w 0 29 24 i _ 5 Tryz.underlying29 hi0 hz hs .i64 .i64 17 (by rw [hb]; decide) (by decide) (Nat.zero_le _)
  refine ⟨w', hr, ⟨?_, Shp.some⟩, (Kp.refl _ w).grown hg (fun k h => by cases h)⟩
  have e : (madeCells (Value.cells (.agg #[.int .i64 0, .string ⟨#[]⟩, .string ⟨#[]⟩, .int .i64 0, .int .i64 0])) (17 * 5)).toList = (List.replicate 17 k0).flatMap OpV.cells := by kernel_rfl
  rw [e] at ho
  exact Sl.of_owns ho
theorem kg1 : goodO ⟨8, kA, kNo, 0, 0⟩ = 1 := by unfold goodO; rw [show formedB ⟨8, kA, kNo, 0, 0⟩ = false by decide +kernel]; rfl
theorem kg2 : goodO ⟨3, kA, k1001, 0, 0⟩ = 2 := by
  unfold goodO
  rw [show formedB ⟨3, kA, k1001, 0, 0⟩ = true by decide +kernel, if_pos rfl, if_pos]
  show 1000 < k1001.size
  unfold k1001
  rw [mkS_size, List.length_replicate]
  decide
theorem kg_own {o : OpV} (h1 : formedB o = true) (h2 : ¬ 1000 < o.data.size) (h3 : ownB o = false) : goodO o = 1 := by unfold goodO; rw [h1, if_pos rfl, if_neg h2, h3]; rfl
theorem kg_ok {o : OpV} (h1 : formedB o = true) (h2 : ¬ 1000 < o.data.size) (h3 : ownB o = true) (h4 : numberedB o = true) : goodO o = 0 := by unfold goodO; rw [h1, if_pos rfl, if_neg h2, h3, h4]; rfl
theorem kg3 : goodO ⟨5, kA, kNo, -1, 0⟩ = 1 := kg_own (by decide +kernel) (by decide) (by decide)
theorem kg4 : goodO ⟨2, kA, ⟨#[120]⟩, 0, 0⟩ = 1 := kg_own (by decide +kernel) (by decide) (by decide)
theorem kg5 : goodO ⟨3, kA, kNo, 0, 1⟩ = 1 := kg_own (by decide +kernel) (by decide) (by decide)
theorem kn6 : numberedB ⟨1, kAB, kNo, 0, 3⟩ = true := by
  have h : (numberL kAB.data.toList 0).isSome = true := by
    unfold numberL
    rw [show ((0 : Int)).toNat = 0 from rfl, padL_fw (by decide)]
    decide +kernel
  unfold numberedB
  rw [show decide (1 < (partsL kAB.data.toList).length) = true by decide +kernel, h]
  rfl
theorem kg6 : goodO ⟨1, kAB, kNo, 0, 3⟩ = 0 := kg_ok (by decide +kernel) (by decide) (by decide) kn6
theorem kgG : goodO kG = 0 := kg_ok (by decide +kernel) (by decide) (by decide) (by unfold numberedB; rw [show decide (kG.flags < 2) = true by decide]; rfl)
theorem kgC : goodO kC = 0 := kg_ok (by decide +kernel) (by decide) (by decide) (by unfold numberedB; rw [show decide (kC.flags < 2) = true by decide]; rfl)
theorem km1 : mayR 1 1 [] = 1 := by decide
theorem km2 : mayR 1 1 [kG, kC] = 1 := by
  unfold mayR
  rw [if_neg (by decide), if_neg (by decide)]
  have : [kG, kC].find? (fun o => decide (goodO o ≠ 0)) = none := by simp [List.find?, kgG, kgC]
  rw [this]
  decide
theorem km3 : mayR 1 1 (List.replicate 17 k0) = 2 := by unfold mayR; rw [if_neg (by decide), if_pos (by decide)]
theorem kw1 : [kC].any (fun o => writesB o.kind) = false := by decide
theorem kp1 : putR 0 0 [] = [] := by decide
theorem kt1 : topsOf ([kC, kG, kC].map fun o => topL o.path.data.toList) = [[97], [98]] := by decide +kernel
theorem k1001_sz : k1001.size ≤ maxLen := by unfold k1001; rw [mkS_size, List.length_replicate]; decide
theorem ksz (xs : List OpV) (h : ∀ o ∈ xs, o = kG ∨ o = kC ∨ o = k0) : OpsSz xs := by
  intro o ho
  rcases h o ho with rfl | rfl | rfl <;> exact ⟨by decide, by decide⟩
set_option maxHeartbeats 12800000 in
theorem opKnown_any (w : World) (hG : GT w) : Calls Tryz.prog 3 #[] w (LawOK w) := by
  have HG := Lib.hid hG
  have HGd := Lib.hid (show ∀ (o : OpV) W, GT W → o.path.size ≤ maxLen → o.data.size ≤ maxLen → Calls Tryz.prog 7 #[.agg #[.int .i64 o.kind, .string o.path, .string o.data, .int .i64 o.ver, .int .i64 o.flags]] W fun e w' => e = .returned (.int .i64 (goodO o)) ∧ Ext W w' from fun o W h h1 h2 => opGood_any o W h h1 h2)
  clear hG
  go_enter Tryz.func3, Tryz.ntmps3
  go_wp2_with (fail)
  refine (awake_any w HG.out).mono ?_
  rintro e w0 ⟨rfl, hx0⟩
  have HG0 := Lib.hid (HG.out.ext hx0)
  obtain ⟨wC, hwC⟩ : ∃ w1, (w0.alloc (.cells #[.int .i64 5, .string kA, .string kNo, .int .i64 0, .int .i64 0] 24)).alloc (.cells #[.int .i64 4, .string kBC, .string kNo, .int .i64 3, .int .i64 0] 24) = w1 := ⟨_, rfl⟩
  have hxC : Ext w0 wC := by rw [← hwC]; exact ((Kp.refl _ _).alloc _).alloc _
  have hbG : Blk wC w0.heap.size #[.int .i64 5, .string kA, .string kNo, .int .i64 0, .int .i64 0] 24 := by rw [← hwC]; exact Blk.kp (S := fun _ => False) (heap_alloc_new w0 _) ((Kp.refl _ _).alloc _) (fun f => f)
  have hbC : Blk wC (w0.heap.size + 1) #[.int .i64 4, .string kBC, .string kNo, .int .i64 3, .int .i64 0] 24 := by
    rw [← hwC]
    have := heap_alloc_new (w0.alloc (.cells #[.int .i64 5, .string kA, .string kNo, .int .i64 0, .int .i64 0] 24)) (.cells #[.int .i64 4, .string kBC, .string kNo, .int .i64 3, .int .i64 0] 24)
    rw [World.size_alloc] at this
    exact this
  have HX := Lib.hid (hx0.trans hxC)
  have HQ := Lib.hid (HG0.out.ext hxC)
  have HBG := Lib.hid hbG
  have HBC := Lib.hid hbC
  have HWC := Lib.hid hwC
  obtain ⟨pG, hpG⟩ : ∃ p, w0.heap.size = p := ⟨_, rfl⟩
  rw [hpG] at HBG HBC
  clear hx0 hxC hbG hbC hwC HG HG0
  go_wp2_with (fail)
  try simp only [hpG]
  rw [show (w0.alloc (.cells #[.int .i64 5, .string ⟨#[47, 97]⟩, .string ⟨#[]⟩, .int .i64 0, .int .i64 0] 24)).alloc (.cells #[.int .i64 4, .string ⟨#[47, 98, 47, 99]⟩, .string ⟨#[]⟩, .int .i64 3, .int .i64 0] 24) = wC from HWC.out]
  clear HWC hpG
  refine (HGd.out ⟨8, kA, kNo, 0, 0⟩ _ HQ.out (by decide) (by decide)).mono ?_
  rintro e v1 ⟨rfl, hx⟩
  rw [kg1]
  have HX := Lib.hid (HX.out.trans hx)
  have HQ := Lib.hid (HQ.out.ext hx)
  have HBG := Lib.hid (HBG.out.kp hx (fun f => f))
  have HBC := Lib.hid (HBC.out.kp hx (fun f => f))
  clear hx
  obtain ⟨vm, hmk, hby, hx⟩ := mk_bytes v1
  have hcv : (convert 27 9 (.slice (some ⟨v1.heap.size, 0, none⟩) 1001 1001)).run Tryz.prog vm = .ok (.string k1001) vm := conv_bytes hby
  have HX := Lib.hid (HX.out.trans hx)
  have HQ := Lib.hid (HQ.out.ext hx)
  have HBG := Lib.hid (HBG.out.kp hx (fun f => f))
  have HBC := Lib.hid (HBC.out.kp hx (fun f => f))
  clear hx hby
  go_wp2_with (fail)
  refine (HGd.out ⟨3, kA, k1001, 0, 0⟩ _ HQ.out (by decide) k1001_sz).mono ?_
  rintro e v2 ⟨rfl, hx⟩
  rw [kg2]
  have HX := Lib.hid (HX.out.trans hx)
  have HQ := Lib.hid (HQ.out.ext hx)
  have HBG := Lib.hid (HBG.out.kp hx (fun f => f))
  have HBC := Lib.hid (HBC.out.kp hx (fun f => f))
  clear hx hmk hcv
  go_wp2_with (fail)
  refine (HGd.out ⟨5, kA, kNo, -1, 0⟩ _ HQ.out (by decide) (by decide)).mono ?_
  rintro e v3 ⟨rfl, hx⟩
  rw [kg3]
  have HX := Lib.hid (HX.out.trans hx)
  have HQ := Lib.hid (HQ.out.ext hx)
  have HBG := Lib.hid (HBG.out.kp hx (fun f => f))
  have HBC := Lib.hid (HBC.out.kp hx (fun f => f))
  clear hx
  go_wp2_with (fail)
  refine (HGd.out ⟨2, kA, ⟨#[120]⟩, 0, 0⟩ _ HQ.out (by decide) (by decide)).mono ?_
  rintro e v4 ⟨rfl, hx⟩
  rw [kg4]
  have HX := Lib.hid (HX.out.trans hx)
  have HQ := Lib.hid (HQ.out.ext hx)
  have HBG := Lib.hid (HBG.out.kp hx (fun f => f))
  have HBC := Lib.hid (HBC.out.kp hx (fun f => f))
  clear hx
  go_wp2_with (fail)
  refine (HGd.out ⟨3, kA, kNo, 0, 1⟩ _ HQ.out (by decide) (by decide)).mono ?_
  rintro e v5 ⟨rfl, hx⟩
  rw [kg5]
  have HX := Lib.hid (HX.out.trans hx)
  have HQ := Lib.hid (HQ.out.ext hx)
  have HBG := Lib.hid (HBG.out.kp hx (fun f => f))
  have HBC := Lib.hid (HBC.out.kp hx (fun f => f))
  clear hx
  go_wp2_with (fail)
  refine (HGd.out ⟨1, kAB, kNo, 0, 3⟩ _ HQ.out (by decide) (by decide)).mono ?_
  rintro e v6 ⟨rfl, hx⟩
  rw [kg6]
  have HX := Lib.hid (HX.out.trans hx)
  have HQ := Lib.hid (HQ.out.ext hx)
  have HBG := Lib.hid (HBG.out.kp hx (fun f => f))
  have HBC := Lib.hid (HBC.out.kp hx (fun f => f))
  clear hx
  have hM := may_any 1 1 (.slice none 0 0) [] v6 HQ.out (OpsAt.nil _) (ksz _ (by simp))
  rw [km1] at hM
  go_wp2_with (fail)
  refine hM.mono ?_
  rintro e v7 ⟨rfl, hx⟩
  have HX := Lib.hid (HX.out.trans hx)
  have HQ := Lib.hid (HQ.out.ext hx)
  have HBG := Lib.hid (HBG.out.kp hx (fun f => f))
  have HBC := Lib.hid (HBC.out.kp hx (fun f => f))
  clear hx hM
  have g0 := HBG.out.cell 0 _ rfl
  have g1 := HBG.out.cell 1 _ rfl
  have g2 := HBG.out.cell 2 _ rfl
  have g3 := HBG.out.cell 3 _ rfl
  have g4 := HBG.out.cell 4 _ rfl
  have c0 := HBC.out.cell 0 _ rfl
  have c1 := HBC.out.cell 1 _ rfl
  have c2 := HBC.out.cell 2 _ rfl
  have c3 := HBC.out.cell 3 _ rfl
  have c4 := HBC.out.cell 4 _ rfl
  obtain ⟨wb, hwb⟩ : ∃ wb, v7.alloc (.cells #[.int .i64 5, .string kA, .string kNo, .int .i64 0, .int .i64 0, .int .i64 4, .string kBC, .string kNo, .int .i64 3, .int .i64 0] 24) = wb := ⟨_, rfl⟩
  have hx : Ext v7 wb := by rw [← hwb]; exact (Kp.refl _ _).alloc _
  have hops : OpsAt wb (.slice (some ⟨v7.heap.size, 0, none⟩) 2 2) [kG, kC] := by rw [← hwb]; exact ⟨Sl.of_block (xs := [kG, kC].flatMap OpV.cells) (heap_alloc_new v7 _) rfl (by decide) (Nat.le_refl _), Shp.some⟩
  have HX := Lib.hid (HX.out.trans hx)
  have HQ := Lib.hid (HQ.out.ext hx)
  have HBG := Lib.hid (HBG.out.kp hx (fun f => f))
  have HBC := Lib.hid (HBC.out.kp hx (fun f => f))
  clear hx
  have hM := may_any 1 1 _ [kG, kC] wb HQ.out hops (ksz _ (by simp))
  rw [km2] at hM
  go_wp2_with (fail)
  refine hM.mono ?_
  rintro e v8 ⟨rfl, hx⟩
  have HX := Lib.hid (HX.out.trans hx)
  have HQ := Lib.hid (HQ.out.ext hx)
  have HBG := Lib.hid (HBG.out.kp hx (fun f => f))
  have HBC := Lib.hid (HBC.out.kp hx (fun f => f))
  clear hx hM hwb hops
  clear g0 g1 g2 g3 g4 c0 c1 c2 c3 c4
  obtain ⟨vn, hmk, hops, hx⟩ := mk_ops v8
  have HX := Lib.hid (HX.out.trans hx)
  have HQ := Lib.hid (HQ.out.ext hx)
  have HBG := Lib.hid (HBG.out.kp hx (fun f => f))
  have HBC := Lib.hid (HBC.out.kp hx (fun f => f))
  clear hx
  have hM := may_any 1 1 _ (List.replicate 17 k0) vn HQ.out hops (ksz _ (fun o ho => .inr (.inr (List.eq_of_mem_replicate ho))))
  rw [km3] at hM
  go_wp2_with (fail)
  refine hM.mono ?_
  rintro e v9 ⟨rfl, hx⟩
  have HX := Lib.hid (HX.out.trans hx)
  have HQ := Lib.hid (HQ.out.ext hx)
  have HBG := Lib.hid (HBG.out.kp hx (fun f => f))
  have HBC := Lib.hid (HBC.out.kp hx (fun f => f))
  clear hx hM hmk hops
  have c0 := HBC.out.cell 0 _ rfl
  have c1 := HBC.out.cell 1 _ rfl
  have c2 := HBC.out.cell 2 _ rfl
  have c3 := HBC.out.cell 3 _ rfl
  have c4 := HBC.out.cell 4 _ rfl
  obtain ⟨wb, hwb⟩ : ∃ wb, v9.alloc (.cells #[.int .i64 4, .string kBC, .string kNo, .int .i64 3, .int .i64 0] 24) = wb := ⟨_, rfl⟩
  have hx : Ext v9 wb := by rw [← hwb]; exact (Kp.refl _ _).alloc _
  have hops : OpsAt wb (.slice (some ⟨v9.heap.size, 0, none⟩) 1 1) [kC] := by rw [← hwb]; exact ⟨Sl.of_block (xs := [kC].flatMap OpV.cells) (heap_alloc_new v9 _) rfl (by decide) (Nat.le_refl _), Shp.some⟩
  have HX := Lib.hid (HX.out.trans hx)
  have HQ := Lib.hid (HQ.out.ext hx)
  have HBG := Lib.hid (HBG.out.kp hx (fun f => f))
  have HBC := Lib.hid (HBC.out.kp hx (fun f => f))
  clear hx
  have hM := writes_any 0 0 _ [kC] wb hops
  rw [kw1] at hM
  go_wp2_with (fail)
  refine hM.mono ?_
  rintro e v10 ⟨rfl, hx⟩
  have HX := Lib.hid (HX.out.trans hx)
  have HQ := Lib.hid (HQ.out.ext hx)
  have HBG := Lib.hid (HBG.out.kp hx (fun f => f))
  have HBC := Lib.hid (HBC.out.kp hx (fun f => f))
  clear hx hM hwb hops
  clear  c0 c1 c2 c3 c4
  have hM := put_any 0 0 (.slice none 0 0) [] v10 HQ.out (OpsAt.nil _) (ksz _ (by simp))
  rw [kp1] at hM
  go_wp2_with (fail)
  refine hM.mono ?_
  rintro e v11 ⟨vb, rfl, hby, hx⟩
  obtain ⟨ab, cb, rfl, _⟩ := BytesR.open hby
  have HX := Lib.hid (HX.out.trans hx)
  have HQ := Lib.hid (HQ.out.ext hx)
  have HBG := Lib.hid (HBG.out.kp hx (fun f => f))
  have HBC := Lib.hid (HBC.out.kp hx (fun f => f))
  clear hx hM hby
  have g0 := HBG.out.cell 0 _ rfl
  have g1 := HBG.out.cell 1 _ rfl
  have g2 := HBG.out.cell 2 _ rfl
  have g3 := HBG.out.cell 3 _ rfl
  have g4 := HBG.out.cell 4 _ rfl
  have c0 := HBC.out.cell 0 _ rfl
  have c1 := HBC.out.cell 1 _ rfl
  have c2 := HBC.out.cell 2 _ rfl
  have c3 := HBC.out.cell 3 _ rfl
  have c4 := HBC.out.cell 4 _ rfl
  obtain ⟨wb, hwb⟩ : ∃ wb, v11.alloc (.cells #[.int .i64 4, .string kBC, .string kNo, .int .i64 3, .int .i64 0, .int .i64 5, .string kA, .string kNo, .int .i64 0, .int .i64 0, .int .i64 4, .string kBC, .string kNo, .int .i64 3, .int .i64 0] 24) = wb := ⟨_, rfl⟩
  have hx : Ext v11 wb := by rw [← hwb]; exact (Kp.refl _ _).alloc _
  have hops : OpsAt wb (.slice (some ⟨v11.heap.size, 0, none⟩) 3 3) [kC, kG, kC] := by rw [← hwb]; exact ⟨Sl.of_block (xs := [kC, kG, kC].flatMap OpV.cells) (heap_alloc_new v11 _) rfl (by decide) (Nat.le_refl _), Shp.some⟩
  have HX := Lib.hid (HX.out.trans hx)
  have HQ := Lib.hid (HQ.out.ext hx)
  have HBG := Lib.hid (HBG.out.kp hx (fun f => f))
  have HBC := Lib.hid (HBC.out.kp hx (fun f => f))
  clear hx
  have hM := tops_any _ [kC, kG, kC] wb HQ.out hops (ksz _ (by simp)) (by decide)
  rw [kt1] at hM
  go_wp2_with (fail)
  refine hM.mono ?_
  rintro e v12 ⟨vt, rfl, hnm, hx⟩
  have HX := Lib.hid (HX.out.trans hx)
  have HQ := Lib.hid (HQ.out.ext hx)
  have HBG := Lib.hid (HBG.out.kp hx (fun f => f))
  have HBC := Lib.hid (HBC.out.kp hx (fun f => f))
  clear hM hwb hops
  clear g0 g1 g2 g3 g4 c0 c1 c2 c3 c4
  clear hx
  obtain ⟨ws, hws⟩ : ∃ ws, v12.alloc (.cells #[.string ⟨#[97]⟩, .string ⟨#[98]⟩] 9) = ws := ⟨_, rfl⟩
  have hx : Ext v12 ws := by rw [← hws]; exact (Kp.refl _ _).alloc _
  have hs2 : Strs ws (.slice (some ⟨v12.heap.size, 0, none⟩) 2 2) [⟨#[97]⟩, ⟨#[98]⟩] := by rw [← hws]; exact Strs.of_block (xs := [⟨#[97]⟩, ⟨#[98]⟩]) (heap_alloc_new v12 _) (by decide) (Nat.le_refl _)
  have hs1 : Strs ws vt [⟨#[97]⟩, ⟨#[98]⟩] := (NmR.strs hnm).ext hx
  have hM := refSame_any _ _ _ _ ws hs1 hs2
  rw [decide_eq_true rfl] at hM
  obtain ⟨at_, ct, rfl, _⟩ := NmR.open hnm
  have HX := Lib.hid (HX.out.trans hx)
  have HQ := Lib.hid (HQ.out.ext hx)
  have HBG := Lib.hid (HBG.out.kp hx (fun f => f))
  have HBC := Lib.hid (HBC.out.kp hx (fun f => f))
  clear hx hs1 hs2 hnm
  go_wp2_with (fail)
  refine hM.mono ?_
  rintro e v13 ⟨rfl, hx⟩
  have HX := Lib.hid (HX.out.trans hx)
  have HQ := Lib.hid (HQ.out.ext hx)
  have HBG := Lib.hid (HBG.out.kp hx (fun f => f))
  have HBC := Lib.hid (HBC.out.kp hx (fun f => f))
  clear hx hM hws
  go_wp2_with (fail)
  go_ret
  exact ⟨rfl, HX.out⟩
end Go.Proofs.YtlcbllgmnbhphaaGreatDoor
