/- Texts put together: AvWSnapE, AvMapRows. -/
import Derived.Test.YtjapjpigpakejaaGreatDoorAvG33
import Derived.Test.YtjapjpigpakejaaGreatDoorAvG37
import Derived.Test.YtjapjpigpakejaaGreatDoorAvG27
import Derived.Test.YtjapjpigpakejaaGreatDoorAvHMap
import Derived.Test.YtjapjpigpakejaaGreatDoorAvG2
import Derived.Test.YtjapjpigpakejaaGreatDoorAvG5

/- Walks: are two nodes, two trees alike: stat.Same, snap.Same. -/
namespace Go.Proofs.YtjapjpigpakejaaGreatDoor
set_option maxRecDepth 100000
open Go.RowKit Av

set_option maxHeartbeats 3200000 in
theorem statSame_any (x y : NodeV) (vx vy : Value) (w : World) (hx : NmS w vx x.names) (hy : NmS w vy y.names) : Calls Tryz.prog 66 #[.agg (ndA x vx), .agg (ndA y vy)] w fun e w' => e = .returned (.bool (sameB x y)) ∧ Ext w w' := by
  obtain ⟨ax, cx, rfl, _⟩ := Sl.open hx.1
  obtain ⟨ay, cy, rfl, _⟩ := Sl.open hy.1
  obtain ⟨wA, hWA⟩ : ∃ wA, (w.alloc (.cells #[.int .i64 x.made, .int .i64 x.chg, .int .i64 x.ver, .int .i64 x.kids, .int .i64 x.own, .int .i64 x.len, .int .i64 x.cnt, .string x.data, .int .i64 x.next, .slice ax x.names.length cx] ndT)).alloc (.cells #[.int .i64 y.made, .int .i64 y.chg, .int .i64 y.ver, .int .i64 y.kids, .int .i64 y.own, .int .i64 y.len, .int .i64 y.cnt, .string y.data, .int .i64 y.next, .slice ay y.names.length cy] ndT) = wA := ⟨_, rfl⟩
  have hxA : Ext w wA := by rw [← hWA]; exact ((Kp.refl _ _).alloc _).alloc _
  have hA : Blk wA w.heap.size #[.int .i64 x.made, .int .i64 x.chg, .int .i64 x.ver, .int .i64 x.kids, .int .i64 x.own, .int .i64 x.len, .int .i64 x.cnt, .string x.data, .int .i64 x.next, .slice ax x.names.length cx] ndT := by
    rw [← hWA]
    exact Blk.kp (heap_alloc_new w _) ((Kp.refl (fun _ => False) _).alloc _) (fun f => f)
  have hB : Blk wA (w.heap.size + 1) #[.int .i64 y.made, .int .i64 y.chg, .int .i64 y.ver, .int .i64 y.kids, .int .i64 y.own, .int .i64 y.len, .int .i64 y.cnt, .string y.data, .int .i64 y.next, .slice ay y.names.length cy] ndT := by
    rw [← hWA]
    have := heap_alloc_new (w.alloc (.cells #[.int .i64 x.made, .int .i64 x.chg, .int .i64 x.ver, .int .i64 x.kids, .int .i64 x.own, .int .i64 x.len, .int .i64 x.cnt, .string x.data, .int .i64 x.next, .slice ax x.names.length cx] ndT)) (.cells #[.int .i64 y.made, .int .i64 y.chg, .int .i64 y.ver, .int .i64 y.kids, .int .i64 y.own, .int .i64 y.len, .int .i64 y.cnt, .string y.data, .int .i64 y.next, .slice ay y.names.length cy] ndT)
    rw [World.size_alloc] at this
    exact this
  have g0 := hA.cell 0 _ rfl
  have g1 := hA.cell 1 _ rfl
  have g2 := hA.cell 2 _ rfl
  have g3 := hA.cell 3 _ rfl
  have g4 := hA.cell 4 _ rfl
  have g5 := hA.cell 5 _ rfl
  have g6 := hA.cell 6 _ rfl
  have g7 := hA.cell 7 _ rfl
  have g8 := hA.cell 8 _ rfl
  have g9 := hA.cell 9 _ rfl
  have h0 := hB.cell 0 _ rfl
  have h1 := hB.cell 1 _ rfl
  have h2 := hB.cell 2 _ rfl
  have h3 := hB.cell 3 _ rfl
  have h4 := hB.cell 4 _ rfl
  have h5 := hB.cell 5 _ rfl
  have h6 := hB.cell 6 _ rfl
  have h7 := hB.cell 7 _ rfl
  have h8 := hB.cell 8 _ rfl
  have h9 := hB.cell 9 _ rfl
  have HS := Lib.hid (equalS_any (.slice ax x.names.length cx) (.slice ay y.names.length cy) x.names y.names wA (Sl.ext hx.1 hxA) (Sl.ext hy.1 hxA))
  have hst := stat_eql x y
  have hgd := stat_guard
  have e1 := str_eq x.data y.data
  have HX := Lib.hid hxA
  have HWA := Lib.hid hWA
  have HE : Hid (sameB x y = (stB x y && (decide (x.data = y.data) && (decide (x.next = y.next) && decide (x.names = y.names))))) := rfl
  clear hWA hxA hA hB hx hy
  unfold ndA
  unfold stA at hst
  generalize stB x y = b at hst HE
  generalize sameB x y = r at HE ⊢
  go_enter Tryz.func66, Tryz.ntmps66
  go_upto_region 1 with (fail)
  rw [HWA.out]
  cases b with
  | false =>
    go_wp2_with (fail)
    go_ret
    exact ⟨ret_bool (by rw [HE.out]; simp), HX.out⟩
  | true =>
    by_cases h1 : x.data = y.data
    · by_cases h2 : x.next = y.next
      · have h2b : (x.next == y.next) = true := by rw [h2]; simp
        go_wp2_with (fail)
        refine HS.out.mono ?_
        rintro e w1 ⟨rfl, hx1⟩
        go_wp2_with (fail)
        go_ret
        exact ⟨ret_bool (by rw [HE.out]; simp [h1, h2]), HX.out.trans hx1⟩
      · have h2b : (x.next == y.next) = false := by simpa using h2
        go_wp2_with (fail)
        go_ret
        exact ⟨ret_bool (by rw [HE.out]; simp [h2]), HX.out⟩
    · go_wp2_with (fail)
      go_ret
      exact ⟨ret_bool (by rw [HE.out]; simp [h1]), HX.out⟩

/-- Of the first k paths both trees tell the same. -/
def SameTRel (w : World) (t u : Pt) (L : List Bs) (i : Value) (wr : World) : Prop :=
  ∃ k : Nat, k ≤ L.length ∧ i = .int .i64 k ∧ (∀ x ∈ L.take k, mget t ⟨x.toArray⟩ = mget u ⟨x.toArray⟩) ∧ Ext w wr
theorem same_own {t u : Pt} (ht : (t.map (·.1)).Nodup) (hu : (u.map (·.1)).Nodup) (hp : pathsP t = pathsP u) (h : ∀ x ∈ pathsP t, mget t ⟨x.toArray⟩ = mget u ⟨x.toArray⟩) : ownL t = ownL u := by
  refine own_same ht hu fun p => ?_
  by_cases hm : p.data.toList ∈ pathsP t
  · have := h _ hm
    rwa [bytes_self] at this
  · have h1 : mget t p = none := by
      have := mt paths_mem.2 hm
      rw [bytes_self] at this
      exact Classical.not_not.1 this
    have h2 : mget u p = none := by
      rw [hp] at hm
      have := mt paths_mem.2 hm
      rw [bytes_self] at this
      exact Classical.not_not.1 this
    rw [h1, h2]
theorem own_paths {t u : Pt} (h : ownL t = ownL u) : pathsP t = pathsP u := by rw [← keys_own, ← keys_own, h]
theorem own_gets {t u : Pt} (ht : (t.map (·.1)).Nodup) (hu : (u.map (·.1)).Nodup) (h : ownL t = ownL u) (p : ByteArray) : mget t p = mget u p := by
  rw [← (own_sorted ht).get, h, (own_sorted hu).get]
set_option maxHeartbeats 6400000 in
theorem snapSame_any {w0 w : World} {b m b' m' : Nat} {room room' : Int} {K K' : Nat} {t u : Tr} (h : TS w0 w b m room K t) (h' : TS w0 w b' m' room' K' u) (hs : OkT (pl t)) (hs' : OkT (pl u)) (hK : K ≤ 500) (hK' : K' ≤ 500) :
    Calls Tryz.prog 35 #[.pointer (some ⟨b, 0, none⟩), .pointer (some ⟨b', 0, none⟩)] w fun e w' => e = .returned (.bool (decide (ownL (pl t) = ownL (pl u)))) ∧ Ext w w' := by
  have HP := Lib.hid (tsPathsO h hs)
  have HT := Lib.hid h
  have HU := Lib.hid h'
  have HP' := Lib.hid (fun W (hx : Ext w W) => tsPathsO (h'.ext hx) hs')
  have HM : Hid (∀ x ∈ pathsP (pl t), ∃ n, mget (pl t) ⟨x.toArray⟩ = some n) := fun x hx => Option.ne_none_iff_exists'.1 (paths_mem.1 hx)
  have HM' : Hid (∀ x ∈ pathsP (pl u), ∃ n, mget (pl u) ⟨x.toArray⟩ = some n) := fun x hx => Option.ne_none_iff_exists'.1 (paths_mem.1 hx)
  have HYES := Lib.hid (same_own h.pk.1 h'.pk.1)
  have HNO := Lib.hid (fun (e : ownL (pl t) = ownL (pl u)) => And.intro (own_paths e) (own_gets h.pk.1 h'.pk.1 e))
  have hL : (pathsP (pl t)).length ≤ 500 := by
    have h1 := hs.size
    rw [pathsP_len]
    omega
  generalize ownL (pl t) = R at HYES HNO ⊢
  generalize ownL (pl u) = R' at HYES HNO ⊢
  generalize pathsP (pl t) = L at HM HP hL HYES HNO
  generalize pathsP (pl u) = L' at HM' HP' HYES HNO
  clear h h' hs hs'
  go_enter Tryz.func35, Tryz.ntmps35
  go_wp2_with (fail)
  refine HP.out.mono ?_
  rintro e wS ⟨vS, rfl, hoS, hxS⟩
  have HOS := Lib.hid hoS
  have HXS := Lib.hid hxS
  clear hoS hxS HP
  go_wp2_with (fail)
  refine (HP'.out wS HXS.out).mono ?_
  rintro e w2 ⟨v2, rfl, ho2, hx2⟩
  have HEQ := Lib.hid (equalS_any vS v2 L L' w2 (Sl.of_owns (ownsRow.ext HOS.out hx2)) (Sl.of_owns ho2))
  have HX2 := Lib.hid (HXS.out.trans hx2)
  have HO2 := Lib.hid (ownsRow.ext HOS.out hx2)
  clear ho2 hx2 HOS HXS HP'
  go_wp2_with (fail)
  refine HEQ.out.mono ?_
  rintro e w3 ⟨rfl, hx3⟩
  have HX3 := Lib.hid (HX2.out.trans hx3)
  obtain ⟨aS, cS, hslS, hopS⟩ := strs_open (ownsRow.ext HO2.out hx3)
  subst hslS
  have HOP := Lib.hid hopS
  clear hx3 hopS HEQ HX2 HO2
  by_cases hLL : L = L'
  · subst hLL
    rw [decide_eq_true rfl]
    go_wp2_with (fail)
    go_loopw [21] (fun i wr => SameTRel w3 (pl t) (pl u) L i wr) (fun i _ => L.length - (intOf i).toNat)
    case atStart => exact ⟨0, Nat.zero_le _, rfl, fun x hx => by simp at hx, Kp.refl _ _⟩
    case round =>
      obtain ⟨k, hk, rfl, hall, hx⟩ := hrel
      have HX := Lib.hid hx
      have HALL := Lib.hid hall
      by_cases hlt : k < L.length
      · obtain ⟨gS, oS, rfl, hcl⟩ := HOP.out (by omega)
        have hc := hx.cell (hcl k hlt) (fun f => f)
        obtain ⟨n, hn⟩ := HM.out L[k] (List.getElem_mem hlt)
        obtain ⟨n', hn'⟩ := HM'.out L[k] (List.getElem_mem hlt)
        have HMEM : Hid (L[k] ∈ L) := List.getElem_mem hlt
        have HTK : Hid (L.take (k + 1) = L.take k ++ [L[k]]) := List.take_succ_eq_append_getElem hlt
        obtain ⟨x, hxx⟩ : ∃ x, L[k] = x := ⟨_, rfl⟩
        rw [hxx] at hc hn hn' HTK HMEM
        unfold encStr at hc
        have HGN := Lib.hid hn
        have HGN' := Lib.hid hn'
        obtain ⟨p, hp⟩ : ∃ p : ByteArray, ⟨x.toArray⟩ = p := ⟨_, rfl⟩
        rw [hp] at hc hn hn'
        have hnode : nodeP (pl t) p = (n, true) := by unfold nodeP; rw [hn]
        have hnode' : nodeP (pl u) p = (n', true) := by unfold nodeP; rw [hn']
        have HN := Lib.hid (by have := tsNode (HT.out.ext (HX3.out.trans HX.out)) (by omega) p; rw [hnode] at this; exact this)
        have HN' := Lib.hid (fun W (hW : Ext wr W) => by have := tsNode (HU.out.ext ((HX3.out.trans HX.out).trans hW)) (by omega) p; rw [hnode'] at this; exact this)
        clear hnode hnode' hcl hn hn' hp hxx hx hall
        go_wp2_with (fail)
        refine HN.out.mono ?_
        rintro e w6 ⟨nv6, rfl, ho6, ht6, hx6⟩
        obtain ⟨a6, c6, rfl⟩ := owns_slice ho6
        obtain ⟨wC, hWC⟩ : ∃ wC, w6.alloc (.cells #[.int .i64 n.made, .int .i64 n.chg, .int .i64 n.ver, .int .i64 n.kids, .int .i64 n.own, .int .i64 n.len, .int .i64 n.cnt, .string n.data, .int .i64 n.next, .slice a6 n.names.length c6] ndT) = wC := ⟨_, rfl⟩
        have hxC : Ext w6 wC := by rw [← hWC]; exact (Kp.refl _ _).alloc _
        have HC : Hid (Blk wC w6.heap.size #[.int .i64 n.made, .int .i64 n.chg, .int .i64 n.ver, .int .i64 n.kids, .int .i64 n.own, .int .i64 n.len, .int .i64 n.cnt, .string n.data, .int .i64 n.next, .slice a6 n.names.length c6] ndT) := by show Blk _ _ _ _; rw [← hWC]; exact heap_alloc_new w6 _
        have HRC := Lib.hid (hx6.trans hxC)
        have HO6 := Lib.hid (ownsRow.ext ho6 hxC)
        have HWC := Lib.hid hWC
        have HNC := Lib.hid (HN'.out wC HRC.out)
        clear hWC hxC ho6 ht6 hx6 HN HN' hc
        unfold ndA
        go_upto_region 8 with (fail)
        rw [HWC.out]
        unfold ndA at HNC
        go_wp2_with (fail)
        refine HNC.out.mono ?_
        rintro e w7 ⟨nv7, rfl, ho7, ht7, hx7⟩
        obtain ⟨a7, c7, rfl⟩ := owns_slice ho7
        obtain ⟨wD, hWD⟩ : ∃ wD, w7.alloc (.cells #[.int .i64 n'.made, .int .i64 n'.chg, .int .i64 n'.ver, .int .i64 n'.kids, .int .i64 n'.own, .int .i64 n'.len, .int .i64 n'.cnt, .string n'.data, .int .i64 n'.next, .slice a7 n'.names.length c7] ndT) = wD := ⟨_, rfl⟩
        have hxD : Ext w7 wD := by rw [← hWD]; exact (Kp.refl _ _).alloc _
        have hD : Blk wD w7.heap.size #[.int .i64 n'.made, .int .i64 n'.chg, .int .i64 n'.ver, .int .i64 n'.kids, .int .i64 n'.own, .int .i64 n'.len, .int .i64 n'.cnt, .string n'.data, .int .i64 n'.next, .slice a7 n'.names.length c7] ndT := by rw [← hWD]; exact heap_alloc_new w7 _
        have hC := HC.out.kp (hx7.trans hxD) (fun f => f)
        have HRD := Lib.hid (HRC.out.trans (hx7.trans hxD))
        have HSS := Lib.hid (statSame_any n n' (.slice a6 n.names.length c6) (.slice a7 n'.names.length c7) wD (names_own (ownsRow.ext HO6.out (hx7.trans hxD))) (names_own (ownsRow.ext ho7 hxD)))
        have HWD := Lib.hid hWD
        have d0 := hC.cell 0 _ rfl
        have d1 := hC.cell 1 _ rfl
        have d2 := hC.cell 2 _ rfl
        have d3 := hC.cell 3 _ rfl
        have d4 := hC.cell 4 _ rfl
        have d5 := hC.cell 5 _ rfl
        have d6 := hC.cell 6 _ rfl
        have d7 := hC.cell 7 _ rfl
        have d8 := hC.cell 8 _ rfl
        have d9 := hC.cell 9 _ rfl
        have f0 := hD.cell 0 _ rfl
        have f1 := hD.cell 1 _ rfl
        have f2 := hD.cell 2 _ rfl
        have f3 := hD.cell 3 _ rfl
        have f4 := hD.cell 4 _ rfl
        have f5 := hD.cell 5 _ rfl
        have f6 := hD.cell 6 _ rfl
        have f7 := hD.cell 7 _ rfl
        have f8 := hD.cell 8 _ rfl
        have f9 := hD.cell 9 _ rfl
        clear hWD hxD hD hC ho7 ht7 hx7 HC HRC HO6 HWC HNC
        go_upto_region 9 with (fail)
        rw [HWD.out]
        unfold ndA at HSS
        go_wp2_with (fail)
        refine HSS.out.mono ?_
        rintro e w8 ⟨rfl, hx8⟩
        have HX8 := Lib.hid (HX.out.trans (HRD.out.trans hx8))
        clear hx8 d0 d1 d2 d3 d4 d5 d6 d7 d8 d9 f0 f1 f2 f3 f4 f5 f6 f7 f8 f9 HSS HWD HRD
        by_cases hsm : n = n'
        · have e1 : sameB n n' = true := sameB_iff.2 hsm
          rw [e1]
          have HNX : Hid (∀ y ∈ L.take (k + 1), mget (pl t) ⟨y.toArray⟩ = mget (pl u) ⟨y.toArray⟩) := fun y hy => by
            rw [HTK.out] at hy
            rcases List.mem_append.1 hy with hy | hy
            · exact HALL.out y hy
            · rw [List.mem_singleton.1 hy, HGN.out, HGN'.out, hsm]
          clear hsm e1
          go_wp2_with (fail)
          go_light
          refine ⟨⟨k + 1, ?_, ?_, HNX.out, HX8.out⟩, ?_⟩
          · omega
          · go_num
          · simp [intOf]; omega
        · have e1 : sameB n n' = false := by
            rw [← Bool.not_eq_true]
            exact fun e => hsm (sameB_iff.1 e)
          rw [e1]
          have HE : Hid (decide (R = R') = false) := decide_eq_false fun e => hsm (by
            have h1 := (HNO.out e).2 ⟨x.toArray⟩
            rw [HGN.out, HGN'.out] at h1
            exact Option.some.inj h1)
          clear hsm e1
          go_wp2_with (fail)
          go_ret
          exact ⟨ret_bool HE.out.symm, HX3.out.trans HX8.out⟩
      · have HE : Hid (decide (R = R') = true) := decide_eq_true (HYES.out (by simp) (fun x hx => hall x (by rw [List.take_of_length_le (by omega)]; exact hx)))
        clear hall hx
        go_wp2_with (fail)
        go_ret
        exact ⟨ret_bool HE.out.symm, HX3.out.trans HX.out⟩
  · rw [decide_eq_false hLL]
    have HE : Hid (decide (R = R') = false) := decide_eq_false fun e => hLL (HNO.out e).1
    go_wp2_with (fail)
    go_ret
    exact ⟨ret_bool HE.out.symm, HX3.out⟩
end Go.Proofs.YtjapjpigpakejaaGreatDoor

/- A map whose elements are rows, each in a block of its own. No program. -/
namespace Av
set_option maxRecDepth 100000
open Go Go.RowKit

section
variable {κ : Type} [DecidableEq κ] {mk : κ → Value} {α : Type}
/-- What a map's element reads as where there is none: no row. -/
def rowAt (M : List (κ × Value)) (k : κ) : Value := (mget M k).getD (.slice none 0 0)
/-- Map m holds rows of elements of ek cells: at k those of xs k. -/
structure MapRows (w : World) (base m : Nat) (mk : κ → Value) (eT : TypeId) (ek : Nat) (f : α → List Value) (M : List (κ × Value)) (xs : κ → List α) : Prop where
  map : MapK mk w m M
  row : ∀ k, w.ownsRow base eT ek (rowAt M k) (xs k).length ((xs k).flatMap f)
  apart : ∀ k k' i, k ≠ k' → (rowAt M k).ownBlock = some i → (rowAt M k').ownBlock ≠ some i
variable {w w' : World} {base m : Nat} {eT : TypeId} {ek : Nat} {f : α → List Value} {M : List (κ × Value)} {xs : κ → List α}
theorem MapRows.new (w : World) (base : Nat) (eT : TypeId) (ek : Nat) (f : α → List Value) : MapRows (w.alloc (.map #[] 0)) base w.heap.size mk eT ek f [] (fun _ => []) :=
  ⟨MapK.new w, fun _ => ⟨by simp, .inl ⟨rfl, rfl⟩⟩, fun k k' i _ h => by simp [rowAt, mget, Value.ownBlock] at h⟩
theorem MapRows.ext (h : MapRows w base m mk eT ek f M xs) (k : Ext w w') : MapRows w' base m mk eT ek f M xs := ⟨h.map.ext k, fun q => ownsRow.ext (h.row q) k, h.apart⟩
theorem MapRows.kp {S : Nat → Prop} (h : MapRows w base m mk eT ek f M xs) (k : Kp S w w') (hm : ¬ S m) (hr : ∀ q i, (rowAt M q).ownBlock = some i → ¬ S i) : MapRows w' base m mk eT ek f M xs :=
  ⟨h.map.kp k hm, fun q => ownsRow.kp (h.row q) k (hr q), h.apart⟩
theorem rowAt_set (M : List (κ × Value)) (k q : κ) (v : Value) : rowAt (mset M k v) q = if q = k then v else rowAt M q := by
  unfold rowAt
  rw [mget_mset]
  split <;> rfl
theorem rowAt_del (M : List (κ × Value)) (k q : κ) : rowAt (mdel M k) q = if q = k then .slice none 0 0 else rowAt M q := by
  unfold rowAt
  rw [mget_mdel]
  split <;> rfl
/-- A row was appended to (world w1), and lies in the map again (world w2). -/
theorem MapRows.put {w1 w2 : World} (h : MapRows w base m mk eT ek f M xs) (k : κ) {v : Value} {ys : List α} (k1 : Kp (fun i => (rowAt M k).ownBlock = some i) w w1) (hv : w1.ownsRow base eT ek v ys.length (ys.flatMap f))
    (hb : ∀ i, v.ownBlock = some i → (rowAt M k).ownBlock = some i ∨ w.heap.size ≤ i) (hmr : ∀ q i, (rowAt M q).ownBlock = some i → i ≠ m) (hvm : ∀ i, v.ownBlock = some i → i ≠ m)
    (hm : MapK mk w2 m (mset M k v)) (k2 : Kp (fun i => i = m) w1 w2) : MapRows w2 base m mk eT ek f (mset M k v) (fun q => if q = k then ys else xs q) := by
  have hlt : ∀ q i, (rowAt M q).ownBlock = some i → i < w.heap.size := fun q i hi => by
    obtain ⟨_, ⟨h1, _⟩ | ⟨g, c, cur, h1, _, hg, _⟩⟩ := h.row q
    · rw [h1] at hi; simp [Value.ownBlock] at hi
    · rw [h1] at hi
      simp only [Value.ownBlock, Option.some.injEq] at hi
      subst hi
      exact (Array.getElem?_eq_some_iff.1 hg).1
  refine ⟨hm, fun q => ?_, fun q q' i hne hi => ?_⟩
  · rw [rowAt_set]
    by_cases e : q = k
    · rw [if_pos e, if_pos e]
      exact ownsRow.kp hv k2 (fun i hi hs => hvm i hi hs)
    · rw [if_neg e, if_neg e]
      have h1 := ownsRow.kp (h.row q) k1 (fun i hi hs => h.apart q k i e hi hs)
      exact ownsRow.kp h1 k2 (fun i hi hs => hmr q i hi hs)
  · rw [rowAt_set] at hi ⊢
    by_cases e : q = k
    · rw [if_pos e] at hi
      rw [if_neg (fun e2 => hne (e.trans e2.symm))]
      rcases hb i hi with h2 | h2
      · exact h.apart k q' i (fun e2 => hne (e.trans e2)) h2
      · exact fun h3 => by have := hlt q' i h3; omega
    · rw [if_neg e] at hi
      by_cases e' : q' = k
      · rw [if_pos e']
        intro h3
        rcases hb i h3 with h2 | h2
        · exact h.apart q k i e hi h2
        · have := hlt q i hi; omega
      · rw [if_neg e']
        exact h.apart q q' i hne hi
/-- A row goes out of the map. -/
theorem MapRows.del (h : MapRows w base m mk eT ek f M xs) (k : κ) (hm : MapK mk w' m (mdel M k)) (k2 : Kp (fun i => i = m) w w') (hmr : ∀ q i, (rowAt M q).ownBlock = some i → i ≠ m) : MapRows w' base m mk eT ek f (mdel M k) (fun q => if q = k then [] else xs q) := by
  refine ⟨hm, fun q => ?_, fun q q' i hne hi => ?_⟩
  · rw [rowAt_del]
    by_cases e : q = k
    · rw [if_pos e, if_pos e]
      exact ⟨by simp, .inl ⟨rfl, rfl⟩⟩
    · rw [if_neg e, if_neg e]
      exact ownsRow.kp (h.row q) k2 (fun i hi hs => hmr q i hi hs)
  · rw [rowAt_del] at hi ⊢
    by_cases e : q = k
    · rw [if_pos e] at hi; simp [Value.ownBlock] at hi
    · rw [if_neg e] at hi
      by_cases e' : q' = k
      · rw [if_pos e']; simp [Value.ownBlock]
      · rw [if_neg e']; exact h.apart q q' i hne hi
/-- No row lies in the map's own block. -/
theorem MapRows.off (h : MapRows w base m mk eT ek f M xs) (q : κ) (i : Nat) (hi : (rowAt M q).ownBlock = some i) : i ≠ m := by
  rintro rfl
  obtain ⟨L, c, hr, _⟩ := h.map
  have h1 := hr.1
  obtain ⟨_, ⟨h2, _⟩ | ⟨g, cc, cur, h2, _, hg, _⟩⟩ := h.row q
  · rw [h2] at hi; simp [Value.ownBlock] at hi
  · rw [h2] at hi
    simp only [Value.ownBlock, Option.some.injEq] at hi
    subst hi
    rw [hg] at h1
    simp at h1
end
end Av
