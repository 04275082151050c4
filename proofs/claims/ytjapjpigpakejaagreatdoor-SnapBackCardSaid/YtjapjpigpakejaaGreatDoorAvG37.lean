/- Texts put together: AvWSnapR, AvWEqS. -/
import Derived.Test.YtjapjpigpakejaaGreatDoorAvHWSnapG
import Derived.Test.YtjapjpigpakejaaGreatDoorAvG35
import Derived.Test.YtjapjpigpakejaaGreatDoorAvG36
import Derived.Test.YtjapjpigpakejaaGreatDoorAvG6
import Derived.Test.YtjapjpigpakejaaGreatDoorShelfE
import Derived.Shelf.Slices.Equal
import Derived.Shelf.Slices.Empties2

/- Walks: nodes off bytes: snap.read. -/
namespace Go.Proofs.YtjapjpigpakejaaGreatDoor
set_option maxRecDepth 100000
open Go.RowKit Av

/-- A reader stands where a tree is written. -/
theorem RdAt.tree {w w' : World} {base b m g : Nat} {room : Int} {t : Tr} {s : Rd} (h : RdAt w g s) (ht : TreeR w base b m room t) (k : Kp (nodeFr m t) w w') : RdAt w' g s := by
  obtain ⟨v, h1, h2, h3, h4⟩ := h
  refine ⟨v, ht.blk' k h1 (by decide), ⟨?_, h2.2⟩, h3, h4⟩
  obtain ⟨e1, e2, a, c, rfl, hcc, hop⟩ := h2.1
  refine ⟨e1, e2, a, c, rfl, hcc, ?_⟩
  rcases hop with h0 | ⟨q, off, rfl, hq, hc⟩
  · exact .inl h0
  · by_cases hn : (s.getD []).length = 0
    · exact .inl hn
    · refine .inr ⟨q, off, rfl, Nat.lt_of_lt_of_le hq k.size, fun i x hx => k.cell (hc i x hx) (fun hs => ?_)⟩
      have h0 : 0 < (s.getD []).length := by omega
      have hc0 := hc 0 _ (by rw [List.getElem?_map, List.getElem?_eq_getElem h0]; rfl)
      have hs' : nodeFr m t q := hs
      rcases hs' with rfl | ⟨e, he, rfl⟩
      · obtain ⟨L, clock, hr, _⟩ := ht.map
        have hr1 := hr.1
        simp [World.cell?, hr1] at hc0
      · obtain ⟨nv, hb, hnv⟩ := ht.nod e he
        obtain ⟨na, nc, rfl⟩ := owns_slice hnv
        have hb1 : w.heap[e.2.1]? = some (.cells (ndA e.2.2 (.slice na e.2.2.names.length nc)) ndT (0, 0)) := hb
        simp only [World.cell?, hb1] at hc0
        unfold ndA byteV at hc0
        simp only [Nat.add_zero] at hc0
        match off with
        | 0 => simp at hc0
        | 1 => simp at hc0
        | 2 => simp at hc0
        | 3 => simp at hc0
        | 4 => simp at hc0
        | 5 => simp at hc0
        | 6 => simp at hc0
        | 7 => simp at hc0
        | 8 => simp at hc0
        | 9 => simp at hc0
        | n + 10 => simp at hc0
/-- A tree stands where a reader reads. -/
theorem TS.read {w0 w w' : World} {b m g : Nat} {room : Int} {K : Nat} {t : Tr} {s : Rd} (h : TS w0 w b m room K t) (hr : RdAt w g s) (hg : w0.heap.size ≤ g) (k : Kp (fun i => i = g) w w') : TS w0 w' b m room K t := by
  obtain ⟨v, h1, _⟩ := hr
  have h1' : w.heap[g]? = some (.cells #[v, .bool s.isNone] 141 (0, 0)) := h1
  refine ⟨h.tr.apart k (fun i hi e => ?_) (fun i e _ cur f hc => ?_), h.pk, h.ex.next k (fun i hi e => by omega)⟩
  · have e2 : i = g := e
    subst e2
    rcases hi with rfl | hi
    · have h2 : w.heap[i]? = _ := h.tr.blk
      rw [h1'] at h2
      simp only [Option.some.injEq, Obj.cells.injEq] at h2
      exact absurd h2.2.1 (by decide)
    · exact absurd (h.tr.types hi h1') (by decide)
  · have e2 : i = g := e
    subst e2
    rw [h1'] at hc
    simp only [Option.some.injEq, Obj.cells.injEq] at hc
    exact absurd hc.2.1 (by decide)
theorem ents_fresh {L : RL} (h : EntsB L) {k : Nat} (hkl : k < L.length) : mget (L.take k) L[k].1 = none := by
  refine mget_none.2 fun hmm => ?_
  obtain ⟨e, he, hee⟩ := List.mem_map.1 hmm
  obtain ⟨i, hi, rfl⟩ := List.getElem_of_mem he
  rw [List.getElem_take] at hee
  have hik : i < k := by simp at hi; omega
  have h1 : (keysR L).Pairwise (· < ·) := h.rise
  unfold keysR at h1
  have h2 := List.pairwise_iff_getElem.1 (List.pairwise_map.1 h1) i k (by omega) hkl hik
  rw [hee] at h2
  exact List.lt_irrefl _ h2
theorem ents_last {L : RL} (h : EntsB L) {k : Nat} (hkl : k < L.length) : lastR L k < L[k].1.data.toList := by
  have hg := h.good _ (List.getElem_mem hkl)
  cases k with
  | zero =>
    show ([] : Bs) < _
    cases hp : L[0].1.data.toList with
    | nil => rw [hp] at hg; cases hg
    | cons a b => exact List.Lex.nil
  | succ j =>
    have h1 : (keysR L).Pairwise (· < ·) := h.rise
    unfold keysR at h1
    have h2 := List.pairwise_iff_getElem.1 (List.pairwise_map.1 h1) j (j + 1) (by omega) hkl (by omega)
    show (match L[j]? with | none => [] | some e => e.1.data.toList) < _
    rw [List.getElem?_eq_getElem (by omega)]
    exact h2
theorem last_next {L : RL} {k : Nat} (hkl : k < L.length) : lastR L (k + 1) = L[k].1.data.toList := by
  show (match L[k]? with | none => [] | some e => e.1.data.toList) = _
  rw [List.getElem?_eq_getElem hkl]
def ReadRel (w : World) (b m gr : Nat) (K : Nat) (L : RL) (s7 s19 : Value) (W : World) : Prop :=
  ∃ (k : Nat) (u : Tr), k ≤ L.length ∧ s19 = .int .i64 k ∧ s7 = .string ⟨(lastR L k).toArray⟩ ∧ TS w W b m 500 K u ∧ pl u = L.take k ∧ RdAt W gr (some ((L.drop k).flatMap encE)) ∧ w.heap.size ≤ gr
set_option maxHeartbeats 12800000 in
theorem snapRead_enc (L : RL) (K : Nat) (v : Value) (w : World) (hG : GT w) (hb : BytesR w v (encL L)) (hE : EntsB L) (hNK : ∀ e ∈ L, NodeK K e.2) (hK : K ≤ 500) (hl : (encL L).length ≤ 1000000000) :
    Calls Tryz.prog 60 #[v] w fun e w' => ∃ b m u, e = .returned (.tuple #[.pointer (some ⟨b, 0, none⟩), .bool true]) ∧ TS w w' b m 500 K u ∧ pl u = L ∧ Ext w w' := by
  have HG := Lib.hid hG
  have HB := Lib.hid hb
  have HNK := Lib.hid hNK
  have HE := Lib.hid hE
  have hfew := hE.few
  have HC : Hid (∀ g W, RdAt W g (some (encL L)) → Calls Tryz.prog 87 #[.pointer (some ⟨g, 0, none⟩), .int .i64 500] W fun e w' => e = .returned (.int .i64 (L.length : Int)) ∧ RdAt w' g (some (L.flatMap encE)) ∧ Kp (fun i => i = g) W w') := fun g W h => by have := rdCount_any g _ 500 W h; rw [rdC_encL hE.few] at this; exact this
  clear hG hb hE hNK
  go_enter Tryz.func60, Tryz.ntmps60
  go_wp2_with (fail)
  refine (tsNew 500 w w (Kp.refl _ _) (by omega) (by omega)).mono ?_
  rintro e w1 ⟨b, m, rfl, h1, hx1, _, _⟩
  have H1 : Hid (TS w w1 b m 500 K []) := ⟨h1.tr, h1.pk.mono (Nat.zero_le _), h1.ex⟩
  have HX1 := Lib.hid hx1
  have HRD := Lib.hid (packRead_any v (encL L) w1 (HB.out.ext hx1) hl)
  clear h1 hx1
  go_wp2_with (fail)
  refine HRD.out.mono ?_
  rintro e w2 ⟨gr, rfl, hg, hr, hx2⟩
  have H2 := Lib.hid (H1.out.ext hx2)
  have HR2 := Lib.hid hr
  have hgr : w.heap.size ≤ gr := by have := HX1.out.size; omega
  clear H1 hg hr hx2 HRD
  go_wp2_with (fail)
  refine (HC.out gr _ HR2.out).mono ?_
  rintro e w3 ⟨rfl, hr3, hk3⟩
  have H3 := Lib.hid (H2.out.read HR2.out hgr hk3)
  have HR3 := Lib.hid hr3
  clear H2 HR2 hr3 hk3 HC
  go_wp2_with (fail)
  go_loopw [7, 19] (fun s7 s19 wr => ReadRel w b m gr K L s7 s19 wr) (fun _ i _ => L.length - (intOf i).toNat)
  case atStart => exact ⟨0, [], Nat.zero_le _, rfl, rfl, H3.out, rfl, HR3.out, hgr⟩
  case round =>
    clear H3 HR3
    obtain ⟨k, u, hk, rfl, rfl, hts, hpl, hrd, _⟩ := hrel
    have HT := Lib.hid hts
    have HPL := Lib.hid hpl
    have HRD := Lib.hid hrd
    clear hts hpl hrd
    by_cases hlt : k < L.length
    · have hm : L[k] ∈ L := List.getElem_mem hlt
      have hgd := HE.out.good _ hm
      have hnb := HE.out.node _ hm
      have hup := HE.out.up _ hm
      have hnk := HNK.out _ hm
      have hfr := ents_fresh HE.out hlt
      have hla := ents_last HE.out hlt
      have hnx := last_next hlt
      have HTK : Hid (L.take (k + 1) = L.take k ++ [L[k]]) := List.take_succ_eq_append_getElem hlt
      have hdr : (L.drop k).flatMap encE = encE L[k] ++ (L.drop (k + 1)).flatMap encE := by rw [List.drop_eq_getElem_cons hlt, List.flatMap_cons]
      rw [hdr] at HRD
      have HRD1 : Hid (RdAt wr gr (some (encE L[k] ++ (L.drop (k + 1)).flatMap encE))) := HRD
      obtain ⟨rest, hrest⟩ : ∃ x, (L.drop (k + 1)).flatMap encE = x := ⟨_, rfl⟩
      rw [hrest] at HRD1
      have HRS := Lib.hid hrest
      obtain ⟨⟨p, n⟩, hpn⟩ : ∃ e, L[k] = e := ⟨_, rfl⟩
      rw [hpn] at hgd hnb hup hnk hfr hla hnx HTK HRD1
      obtain ⟨la, hlaq⟩ : ∃ x : ByteArray, ⟨(lastR L k).toArray⟩ = x := ⟨_, rfl⟩
      have hla2 : la.data.toList = lastR L k := by rw [← hlaq]
      simp only at hgd hnb hup hnk hfr hla hnx HTK HRD1
      rw [← hla2] at hla
      have hle1 : Op.bytesLess p.toList la.toList = false := by
        rw [Lib.toList_data, Lib.toList_data, lessB, decide_eq_false_iff_not]
        exact fun h => List.lt_irrefl _ (List.lt_trans h hla)
      have hle2 : (p.toList == la.toList) = false := by
        rw [Lib.toList_data, Lib.toList_data, beq_eq_false_iff_ne]
        exact fun h => by rw [h] at hla; exact List.lt_irrefl _ hla
      have hps := path_small p hgd
      have HNX : Hid ((⟨(lastR L (k + 1)).toArray⟩ : ByteArray) = p) := by show _ = _; rw [hnx, bytes_self]
      have HT1 : Hid (∀ W, RdAt W gr (some (encE (p, n) ++ rest)) → Calls Tryz.prog 88 #[.pointer (some ⟨gr, 0, none⟩), .int .i64 200] W fun e w' => e = .returned (.string p) ∧ RdAt w' gr (some (encN n ++ rest)) ∧ Kp (fun i => i = gr) W w') := fun W h => by
        have := rdText_any gr _ 200 W h
        have hp2 := hps
        rw [Lib.size_eq] at hp2
        unfold encE at this
        rw [List.append_assoc, rdT_txt _ _ (by simp only; omega) (by simp only; omega)] at this
        simpa only [bytes_self] using this
      have HGT := Lib.hid (fun W h => statGet_any gr n rest W h hnb hup)
      have hnm : Named n.names := named_of hnb.parts.2.2.2 hup hnb.few
      have HLD : Hid (∀ W (hW : TS w W b m 500 K u) nv, NmS W nv n.names → Calls Tryz.prog 24 #[.pointer (some ⟨b, 0, none⟩), .string p, .agg (ndA n nv)] W fun e w' => ∃ t', e = .returned (.int .i64 0) ∧ TS w w' b m 500 K t' ∧ pl t' = L.take (k + 1) ∧ Kp (nodeFr m u) W w') := fun W hW nv hnv => by
        have := tsLoad hW HG.out (by omega) p n nv true (by omega) hnv hnk (fun s hs => by have := name_len (hnb.parts.2.2.2 s hs); omega) ⟨fun _ => ⟨hgd, hnm⟩, fun _ => rfl⟩
        rw [loadP_yes (by rw [HPL.out]; exact hfr) (by rw [HPL.out, List.length_take]; omega), ndLoad_id hnb.parts, HPL.out, mset_new _ hfr, ← HTK.out] at this
        refine this.mono ?_
        rintro e w' ⟨t', rfl, h1, h2, h3, _⟩
        exact ⟨t', rfl, h1, h2, h3⟩
      rw [hlaq]
      clear hm hgd hnb hup hnk hfr hla hnx hdr hpn hrest hlaq hla2 hnm HTK HPL HRD
      go_wp2_with (fail)
      refine (HT1.out _ HRD1.out).mono ?_
      rintro e w4 ⟨rfl, hr4, hk4⟩
      have HT4 := Lib.hid (HT.out.read HRD1.out hgr hk4)
      have HR4 := Lib.hid hr4
      clear hr4 hk4 HT HRD1 HT1
      go_wp2_with (fail)
      refine (HGT.out _ HR4.out).mono ?_
      rintro e w5 ⟨nv5, rfl, ho5, hr5, hk5⟩
      obtain ⟨a5, c5, rfl⟩ := owns_slice ho5
      obtain ⟨wC, hWC⟩ : ∃ wC, w5.alloc (.cells #[.int .i64 n.made, .int .i64 n.chg, .int .i64 n.ver, .int .i64 n.kids, .int .i64 n.own, .int .i64 n.len, .int .i64 n.cnt, .string n.data, .int .i64 n.next, .slice a5 n.names.length c5] ndT) = wC := ⟨_, rfl⟩
      have hxC : Ext w5 wC := by rw [← hWC]; exact (Kp.refl _ _).alloc _
      have hC : Blk wC w5.heap.size #[.int .i64 n.made, .int .i64 n.chg, .int .i64 n.ver, .int .i64 n.kids, .int .i64 n.own, .int .i64 n.len, .int .i64 n.cnt, .string n.data, .int .i64 n.next, .slice a5 n.names.length c5] ndT := by rw [← hWC]; exact heap_alloc_new w5 _
      have HTC := Lib.hid ((HT4.out.read HR4.out hgr hk5).ext hxC)
      have HRC := Lib.hid (hr5.ext hxC)
      have HLC := Lib.hid (HLD.out wC HTC.out (.slice a5 n.names.length c5) (names_own (ownsRow.ext ho5 hxC)))
      have HWC := Lib.hid hWC
      have d0 := hC.cell 0 _ rfl
      have d1 := hC.cell 1 _ rfl
      have d2 := hC.cell 2 _ rfl
      have d3 := hC.cell 3 _ rfl
      have d4 := hC.cell 4 _ rfl
      have d5 := hC.cell 5 _ rfl
      have d6 := hC.cell 6 _ rfl
      have d7 := hC.cell 7 _ rfl
      have d8 := hC.cell 8 _ rfl
      have d9 := hC.cell 9 _ rfl
      clear hWC hxC hC ho5 hr5 hk5 HT4 HR4 HGT HLD
      unfold ndA
      unfold ndA at HLC
      go_upto_region 8 with (fail)
      rw [HWC.out]
      go_wp2_with (fail)
      refine HLC.out.mono ?_
      rintro e w7 ⟨u7, rfl, hu7, hp7, hk7⟩
      have HR7 := Lib.hid (HRC.out.tree HTC.out.tr hk7)
      have HU7 := Lib.hid hu7
      have HP7 := Lib.hid hp7
      clear hu7 hp7 hk7 HTC HRC HLC HWC d0 d1 d2 d3 d4 d5 d6 d7 d8 d9 hle1 hle2
      go_wp2_with (fail)
      go_light
      refine ⟨⟨k + 1, u7, ?_, ?_, ?_, HU7.out, HP7.out, ?_, hgr⟩, ?_⟩
      · omega
      · go_num
      · rw [HNX.out]
      · rw [HRS.out]; exact HR7.out
      · simp [intOf]; omega
    · have hkd : L.drop k = [] := List.drop_eq_nil_of_le (by omega)
      rw [hkd, List.flatMap_nil] at HRD
      have hkt : L.take k = L := List.take_of_length_le (by omega)
      rw [hkt] at HPL
      have HEND := Lib.hid (rdEnd_any gr _ wr HRD.out)
      rw [show decide ((some [] : Rd) = some []) = true by decide] at HEND
      clear hkd hkt
      go_wp2_with (fail)
      refine HEND.out.mono ?_
      rintro e w' ⟨rfl, rfl⟩
      go_wp2_with (fail)
      go_ret2
      go_light
      exact ⟨b, m, u, rfl, HT.out, HPL.out, HT.out.ex⟩
set_option maxHeartbeats 3200000 in
theorem snapRead_nil (v : Value) (w : World) (hb : BytesR w v []) :
    Calls Tryz.prog 60 #[v] w fun e w' => ∃ b m u, e = .returned (.tuple #[.pointer (some ⟨b, 0, none⟩), .bool false]) ∧ TS w w' b m 500 0 u ∧ Ext w w' := by
  have HB := Lib.hid hb
  have HC : Hid (∀ g W, RdAt W g (some []) → Calls Tryz.prog 87 #[.pointer (some ⟨g, 0, none⟩), .int .i64 500] W fun e w' => e = .returned (.int .i64 0) ∧ RdAt w' g none ∧ Kp (fun i => i = g) W w') := fun g W h => by have := rdCount_any g _ 500 W h; rw [show rdC 500 (some []) = (0, none) by decide] at this; exact this
  clear hb
  go_enter Tryz.func60, Tryz.ntmps60
  go_wp2_with (fail)
  refine (tsNew 500 w w (Kp.refl _ _) (by omega) (by omega)).mono ?_
  rintro e w1 ⟨b, m, rfl, h1, hx1, _, _⟩
  have H1 := Lib.hid h1
  have HX1 := Lib.hid hx1
  have HRD := Lib.hid (packRead_any v [] w1 (HB.out.ext hx1) (by simp))
  clear h1 hx1
  go_wp2_with (fail)
  refine HRD.out.mono ?_
  rintro e w2 ⟨gr, rfl, hg, hr, hx2⟩
  have H2 := Lib.hid (H1.out.ext hx2)
  have HR2 := Lib.hid hr
  have hgr : w.heap.size ≤ gr := by have := HX1.out.size; omega
  clear H1 hg hr hx2 HRD
  go_wp2_with (fail)
  refine (HC.out gr _ HR2.out).mono ?_
  rintro e w3 ⟨rfl, hr3, hk3⟩
  have H3 := Lib.hid (H2.out.read HR2.out hgr hk3)
  have HEND := Lib.hid (rdEnd_any gr _ w3 hr3)
  rw [show decide ((none : Rd) = some []) = false by decide] at HEND
  clear H2 HR2 hr3 hk3 HC
  go_wp2_with (fail)
  go_loopw [19] (fun s19 wr => s19 = .int .i64 0 ∧ w3 = wr) (fun _ _ => 0)
  case atStart => exact ⟨rfl, rfl⟩
  case round =>
    obtain ⟨rfl, rfl⟩ := hrel
    go_wp2_with (fail)
    refine HEND.out.mono ?_
    rintro e w' ⟨rfl, rfl⟩
    go_wp2_with (fail)
    go_ret2
    go_light
    exact ⟨b, m, [], rfl, H3.out, H3.out.ex⟩
end Go.Proofs.YtjapjpigpakejaaGreatDoor

/- slices.Equal at []string, at rows that can be read. -/
namespace Go.Proofs.YtjapjpigpakejaaGreatDoor
set_option maxRecDepth 100000
open Go.RowKit Av

theorem enc_inj : ∀ {xs ys : List Bs}, (xs.map fun b => (⟨b.toArray⟩ : ByteArray)) = (ys.map fun b => (⟨b.toArray⟩ : ByteArray)) → xs = ys
  | [], [], _ => rfl
  | [], _ :: _, h => by simp at h
  | _ :: _, [], h => by simp at h
  | x :: xs, y :: ys, h => by
    simp only [List.map_cons, List.cons.injEq] at h
    rw [enc_inj h.2]
    congr 1
    have h1 := congrArg (fun b : ByteArray => b.data.toList) h.1
    simpa using h1
theorem enc_cells {w : World} {b off : Nat} {xs : List Bs} (h : ∀ i x, (xs.map encStr)[i]? = some x → w.cell? ⟨b, off + i, none⟩ = some x) : ∀ j, j < (xs.map fun b => (⟨b.toArray⟩ : ByteArray)).length → w.cell? ⟨b, off + j, none⟩ = some (.string ((xs.map fun b => (⟨b.toArray⟩ : ByteArray)).getD j ByteArray.empty)) := fun j hj => by
  have hj' : j < xs.length := by simpa using hj
  refine h j _ ?_
  rw [List.getElem?_map, List.getElem?_eq_getElem hj']
  simp only [List.getD, List.getElem?_map, List.getElem?_eq_getElem hj', Option.map_some, Option.getD_some]
theorem equalS_any (va vb : Value) (xs ys : List Bs) (w : World) (ha : Sl w 1 va xs.length (xs.map encStr)) (hb : Sl w 1 vb ys.length (ys.map encStr)) :
    Calls Tryz.prog 65 #[va, vb] w fun e w' => e = .returned (.bool (decide (xs = ys))) ∧ Ext w w' := by
  obtain ⟨a1, c, rfl, _, hm1, _, hop1⟩ := Sl.open ha
  obtain ⟨a2, d, rfl, _, hm2, _, hop2⟩ := Sl.open hb
  unfold maxLen at hm1 hm2
  by_cases hl : xs.length = ys.length
  · by_cases h0 : xs.length = 0
    · have hx0 : xs = [] := List.length_eq_zero_iff.1 h0
      have hy0 : ys = [] := List.length_eq_zero_iff.1 (by omega)
      subst hx0 hy0
      refine (Any.slices_Equal_string_empty Tryz.laysE193 a1 a2 c 0 d w (by omega)).mono ?_
      rintro e w' ⟨rfl, rfl⟩
      exact ⟨by simp, Kp.refl _ _⟩
    · obtain ⟨b1, o1, rfl, _, h1⟩ := hop1 (by omega)
      obtain ⟨b2, o2, rfl, _, h2⟩ := hop2 (by omega)
      refine (Any.slices_Equal_string Tryz.laysE193 b1 o1 xs.length c b2 o2 ys.length d (xs.map fun b => (⟨b.toArray⟩ : ByteArray)) (ys.map fun b => (⟨b.toArray⟩ : ByteArray)) w (by simp) (by simp) (by omega) (by omega) (enc_cells h1) (enc_cells h2)).mono ?_
      rintro e w' ⟨rfl, q, rfl⟩
      refine ⟨?_, (Kp.refl _ _).drewN _⟩
      have e1 : decide (((xs.map fun b => (⟨b.toArray⟩ : ByteArray)).take xs.length) = ((ys.map fun b => (⟨b.toArray⟩ : ByteArray)).take ys.length)) = decide (xs = ys) := by
        rw [List.take_of_length_le (by simp), List.take_of_length_le (by simp), Bool.eq_iff_iff, decide_eq_true_iff, decide_eq_true_iff]
        exact ⟨enc_inj, fun h => by rw [h]⟩
      rw [e1]
  · refine (Any.slices_Equal_string_lens Tryz.laysE193 a1 a2 xs.length c ys.length d w hl).mono ?_
    rintro e w' ⟨rfl, rfl⟩
    exact ⟨by rw [decide_eq_false (fun h => hl (by rw [h]))], Kp.refl _ _⟩
end Go.Proofs.YtjapjpigpakejaaGreatDoor
