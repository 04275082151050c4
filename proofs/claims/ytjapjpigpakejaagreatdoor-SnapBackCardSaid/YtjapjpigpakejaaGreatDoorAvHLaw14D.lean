/- Walks of package aviarylaw14: SnapBack. -/
import Derived.Test.YtjapjpigpakejaaGreatDoorAvHLaw14B
import Derived.Test.YtjapjpigpakejaaGreatDoorAvHWTreeG
namespace Go.Proofs.YtjapjpigpakejaaGreatDoor
set_option maxRecDepth 100000
open Go.RowKit Av

theorem stat_neq_same (x : NodeV) (w : World) : (binOp .neq stT (.agg (stA x)) (.agg (stA x))).run Tryz.prog w = .ok (.bool false) w := by
  have u3 := Tryz.underlying3
  have u2 := Tryz.underlying2
  have hS : Tryz.prog.underlying stT = some (.struct (Tryz.prog.fieldsOf stT)) := by kernel_rfl
  have hp : Tryz.prog.stoodInHeld stT = false := by kernel_rfl
  unfold stA
  rw [run_neq_struct, show (10000 : Nat) = 9999 + 1 from rfl, run_equalIn_agg w 9999 stT _ _ hS hp]
  simp only [Program.fieldsOf, Tryz.underlying32]
  go_simp
/-- Two trees, side by side. -/
structure Two (wb w : World) (b m : Nat) (K : Nat) (t : Tr) (b' m' : Nat) (K' : Nat) (u : Tr) : Prop where
  ft : TS wb w b m 60 K t
  fu : TS wb w b' m' 60 K' u
  ap : Apart b m t b' m' u
theorem Two.ext {wb w w' : World} {b m K b' m' K' : Nat} {t u : Tr} (h : Two wb w b m K t b' m' K' u) (k : Ext w w') : Two wb w' b m K t b' m' K' u := ⟨h.ft.ext k, h.fu.ext k, h.ap⟩
theorem Two.one {wb w w' : World} {b m K b' m' K' : Nat} {t u : Tr} {R : Pt × Rp} {e : Ending} (h : Two wb w b m K t b' m' K' u) (hd : TDone wb w b m 60 K t R e w') : ∃ t', Two wb w' b m (K + 1) t' b' m' K' u ∧ pl t' = R.1 := by
  obtain ⟨t', nv, _, _, h1, h2, h3, h4⟩ := hd
  exact ⟨t', ⟨h1, TS.other h.ap h.ft h.fu h3, h.ap.step h.fu.tr h4⟩, h2⟩
theorem Two.swap {wb w : World} {b m K b' m' K' : Nat} {t u : Tr} (h : Two wb w b m K t b' m' K' u) : Two wb w b' m' K' u b m K t := ⟨h.fu, h.ft, h.ap.symm⟩
def resV (R : Rp) (a : Option Addr) (c : Nat) : Value := .agg #[.int .i64 R.err, .string R.path, .string R.data, .slice a R.names.length c, .int .i64 R.st.made, .int .i64 R.st.chg, .int .i64 R.st.ver, .int .i64 R.st.kids, .int .i64 R.st.own, .int .i64 R.st.len, .int .i64 R.st.cnt]
def BkRel (wb : World) (b m b' m' : Nat) (ys : List OpV) (s8 : Value) (wr : World) : Prop :=
  ∃ (j : Nat) (t u : Tr), j ≤ ys.length ∧ s8 = .int .i64 j ∧ Two wb wr b m (20 + j) t b' m' (20 + j) u ∧ Alike (pl t) (pl u) ∧ GoodS 60 (pl t) ∧ GoodS 60 (pl u)
theorem blk_set11g {w : World} {r : Nat} {T : TypeId} {c0 c1 c2 c3 c4 c5 c6 c7 c8 c9 c10 : Value} (h : Blk w r #[c0, c1, c2, c3, c4, c5, c6, c7, c8, c9, c10] T) (u0 u1 u2 u3 u4 u5 u6 u7 u8 u9 u10 : Value) : Blk (set11 w r u0 u1 u2 u3 u4 u5 u6 u7 u8 u9 u10) r #[u0, u1, u2, u3, u4, u5, u6, u7, u8, u9, u10] T := by
  have h0 : Blk (w.setCell ⟨r, 0, none⟩ u0) r #[u0, c1, c2, c3, c4, c5, c6, c7, c8, c9, c10] T := h.set 0 u0
  have h1 : Blk ((w.setCell ⟨r, 0, none⟩ u0).setCell ⟨r, 1, none⟩ u1) r #[u0, u1, c2, c3, c4, c5, c6, c7, c8, c9, c10] T := h0.set 1 u1
  have h2 : Blk (((w.setCell ⟨r, 0, none⟩ u0).setCell ⟨r, 1, none⟩ u1).setCell ⟨r, 2, none⟩ u2) r #[u0, u1, u2, c3, c4, c5, c6, c7, c8, c9, c10] T := h1.set 2 u2
  have h3 : Blk ((((w.setCell ⟨r, 0, none⟩ u0).setCell ⟨r, 1, none⟩ u1).setCell ⟨r, 2, none⟩ u2).setCell ⟨r, 3, none⟩ u3) r #[u0, u1, u2, u3, c4, c5, c6, c7, c8, c9, c10] T := h2.set 3 u3
  have h4 : Blk (((((w.setCell ⟨r, 0, none⟩ u0).setCell ⟨r, 1, none⟩ u1).setCell ⟨r, 2, none⟩ u2).setCell ⟨r, 3, none⟩ u3).setCell ⟨r, 4, none⟩ u4) r #[u0, u1, u2, u3, u4, c5, c6, c7, c8, c9, c10] T := h3.set 4 u4
  have h5 : Blk ((((((w.setCell ⟨r, 0, none⟩ u0).setCell ⟨r, 1, none⟩ u1).setCell ⟨r, 2, none⟩ u2).setCell ⟨r, 3, none⟩ u3).setCell ⟨r, 4, none⟩ u4).setCell ⟨r, 5, none⟩ u5) r #[u0, u1, u2, u3, u4, u5, c6, c7, c8, c9, c10] T := h4.set 5 u5
  have h6 : Blk (((((((w.setCell ⟨r, 0, none⟩ u0).setCell ⟨r, 1, none⟩ u1).setCell ⟨r, 2, none⟩ u2).setCell ⟨r, 3, none⟩ u3).setCell ⟨r, 4, none⟩ u4).setCell ⟨r, 5, none⟩ u5).setCell ⟨r, 6, none⟩ u6) r #[u0, u1, u2, u3, u4, u5, u6, c7, c8, c9, c10] T := h5.set 6 u6
  have h7 : Blk ((((((((w.setCell ⟨r, 0, none⟩ u0).setCell ⟨r, 1, none⟩ u1).setCell ⟨r, 2, none⟩ u2).setCell ⟨r, 3, none⟩ u3).setCell ⟨r, 4, none⟩ u4).setCell ⟨r, 5, none⟩ u5).setCell ⟨r, 6, none⟩ u6).setCell ⟨r, 7, none⟩ u7) r #[u0, u1, u2, u3, u4, u5, u6, u7, c8, c9, c10] T := h6.set 7 u7
  have h8 : Blk (((((((((w.setCell ⟨r, 0, none⟩ u0).setCell ⟨r, 1, none⟩ u1).setCell ⟨r, 2, none⟩ u2).setCell ⟨r, 3, none⟩ u3).setCell ⟨r, 4, none⟩ u4).setCell ⟨r, 5, none⟩ u5).setCell ⟨r, 6, none⟩ u6).setCell ⟨r, 7, none⟩ u7).setCell ⟨r, 8, none⟩ u8) r #[u0, u1, u2, u3, u4, u5, u6, u7, u8, c9, c10] T := h7.set 8 u8
  have h9 : Blk ((((((((((w.setCell ⟨r, 0, none⟩ u0).setCell ⟨r, 1, none⟩ u1).setCell ⟨r, 2, none⟩ u2).setCell ⟨r, 3, none⟩ u3).setCell ⟨r, 4, none⟩ u4).setCell ⟨r, 5, none⟩ u5).setCell ⟨r, 6, none⟩ u6).setCell ⟨r, 7, none⟩ u7).setCell ⟨r, 8, none⟩ u8).setCell ⟨r, 9, none⟩ u9) r #[u0, u1, u2, u3, u4, u5, u6, u7, u8, u9, c10] T := h8.set 9 u9
  have h10 : Blk (((((((((((w.setCell ⟨r, 0, none⟩ u0).setCell ⟨r, 1, none⟩ u1).setCell ⟨r, 2, none⟩ u2).setCell ⟨r, 3, none⟩ u3).setCell ⟨r, 4, none⟩ u4).setCell ⟨r, 5, none⟩ u5).setCell ⟨r, 6, none⟩ u6).setCell ⟨r, 7, none⟩ u7).setCell ⟨r, 8, none⟩ u8).setCell ⟨r, 9, none⟩ u9).setCell ⟨r, 10, none⟩ u10) r #[u0, u1, u2, u3, u4, u5, u6, u7, u8, u9, u10] T := h9.set 10 u10
  exact h10
/-- Two results that are stored: what both say alike reads alike. -/
theorem two_stored {w : World} {r q : Nat} (R : Rp) (a a' : Option Addr) (c c' : Nat) (h : Blk w r rsZ rsuT) (hq : Blk w q rsZ rsuT) : ∀ W, set11 (set11 w r (.int .i64 R.err) (.string R.path) (.string R.data) (.slice a R.names.length c) (.int .i64 R.st.made) (.int .i64 R.st.chg) (.int .i64 R.st.ver) (.int .i64 R.st.kids) (.int .i64 R.st.own) (.int .i64 R.st.len) (.int .i64 R.st.cnt)) q (.int .i64 R.err) (.string R.path) (.string R.data) (.slice a' R.names.length c') (.int .i64 R.st.made) (.int .i64 R.st.chg) (.int .i64 R.st.ver) (.int .i64 R.st.kids) (.int .i64 R.st.own) (.int .i64 R.st.len) (.int .i64 R.st.cnt) = W →
    (∃ x, Blk W r #[.int .i64 R.err, .string R.path, .string R.data, x, .int .i64 R.st.made, .int .i64 R.st.chg, .int .i64 R.st.ver, .int .i64 R.st.kids, .int .i64 R.st.own, .int .i64 R.st.len, .int .i64 R.st.cnt] rsuT) ∧ (∃ x, Blk W q #[.int .i64 R.err, .string R.path, .string R.data, x, .int .i64 R.st.made, .int .i64 R.st.chg, .int .i64 R.st.ver, .int .i64 R.st.kids, .int .i64 R.st.own, .int .i64 R.st.len, .int .i64 R.st.cnt] rsuT) ∧ Kp (fun i => i = r ∨ i = q) w W := by
  rintro W rfl
  have k1 := kp_set11 w r (.int .i64 R.err) (.string R.path) (.string R.data) (.slice a R.names.length c) (.int .i64 R.st.made) (.int .i64 R.st.chg) (.int .i64 R.st.ver) (.int .i64 R.st.kids) (.int .i64 R.st.own) (.int .i64 R.st.len) (.int .i64 R.st.cnt)
  have b1 := blk_set11 h (.int .i64 R.err) (.string R.path) (.string R.data) (.slice a R.names.length c) (.int .i64 R.st.made) (.int .i64 R.st.chg) (.int .i64 R.st.ver) (.int .i64 R.st.kids) (.int .i64 R.st.own) (.int .i64 R.st.len) (.int .i64 R.st.cnt)
  generalize set11 w r (.int .i64 R.err) (.string R.path) (.string R.data) (.slice a R.names.length c) (.int .i64 R.st.made) (.int .i64 R.st.chg) (.int .i64 R.st.ver) (.int .i64 R.st.kids) (.int .i64 R.st.own) (.int .i64 R.st.len) (.int .i64 R.st.cnt) = w1 at k1 b1 ⊢
  have k2 := kp_set11 w1 q (.int .i64 R.err) (.string R.path) (.string R.data) (.slice a' R.names.length c') (.int .i64 R.st.made) (.int .i64 R.st.chg) (.int .i64 R.st.ver) (.int .i64 R.st.kids) (.int .i64 R.st.own) (.int .i64 R.st.len) (.int .i64 R.st.cnt)
  have hk := (k1.mono (T := fun i => i = r ∨ i = q) (fun i _ e => .inl e)).next k2 (fun i _ e => .inr e)
  by_cases e : r = q
  · subst e
    have b2 := blk_set11g b1 (.int .i64 R.err) (.string R.path) (.string R.data) (.slice a' R.names.length c') (.int .i64 R.st.made) (.int .i64 R.st.chg) (.int .i64 R.st.ver) (.int .i64 R.st.kids) (.int .i64 R.st.own) (.int .i64 R.st.len) (.int .i64 R.st.cnt)
    exact ⟨⟨_, b2⟩, ⟨_, b2⟩, hk⟩
  · have b2 := blk_set11 (hq.kp k1 (fun e2 => e e2.symm)) (.int .i64 R.err) (.string R.path) (.string R.data) (.slice a' R.names.length c') (.int .i64 R.st.made) (.int .i64 R.st.chg) (.int .i64 R.st.ver) (.int .i64 R.st.kids) (.int .i64 R.st.own) (.int .i64 R.st.len) (.int .i64 R.st.cnt)
    exact ⟨⟨_, b1.kp k2 e⟩, ⟨_, b2⟩, hk⟩
/-- A tree stands where blocks of another type are written. -/
theorem TS.offT {w0 w w' : World} {b m : Nat} {room : Int} {K : Nat} {t : Tr} (h : TS w0 w b m room K t) {S : Nat → Prop} {T : TypeId} (k : Kp S w w') (hS : ∀ i, S i → w0.heap.size ≤ i ∧ ∃ A, Blk w i A T) (h1 : T ≠ trT) (h2 : T ≠ ndT) (h3 : T ≠ strT) : TS w0 w' b m room K t := by
  refine ⟨h.tr.apart k (fun i hi e => ?_) (fun i e _ cur f hc => ?_), h.pk, h.ex.next k (fun i hi e => by have := (hS i e).1; omega)⟩
  · obtain ⟨_, A, hA⟩ := hS i e
    have hA' : w.heap[i]? = some (.cells A T (0, 0)) := hA
    rcases hi with rfl | hi
    · have hb : w.heap[i]? = some (.cells _ trT (0, 0)) := h.tr.blk
      rw [hA'] at hb
      simp only [Option.some.injEq, Obj.cells.injEq] at hb
      exact h1 hb.2.1
    · exact h2 (h.tr.types hi hA')
  · obtain ⟨_, A, hA⟩ := hS i e
    have hA' : w.heap[i]? = some (.cells A T (0, 0)) := hA
    rw [hA'] at hc
    simp only [Option.some.injEq, Obj.cells.injEq] at hc
    exact h3 hc.2.1
set_option maxHeartbeats 12800000 in
theorem snapBack_any (v1 v2 : Value) (xs ys : List OpV) (w : World) (hG : GT w) (h1 : OpsAt w v1 xs) (h2 : OpsAt w v2 ys) :
    Calls Tryz.prog 6 #[v1, v2] w fun e w' => e = .returned (.bool true) ∧ Ext w w' := by
  have HG := Lib.hid hG
  have HA := Lib.hid (fun W (hW : Ext w W) => grown_any v1 xs W (hG.ext hW) (h1.ext hW))
  have HL := Lib.hid (fun W (hW : Ext w W) => long_any v2 ys W (h2.ext hW))
  obtain ⟨ya, yc, rfl, _, hm, hop⟩ := OpsAt.open h2
  have HOP := Lib.hid hop
  clear hG h1 h2 hop
  go_enter Tryz.func6, Tryz.ntmps6
  go_wp2_with (fail)
  refine (snapAwake_any w HG.out).mono ?_
  rintro e w1 ⟨rfl, hx1⟩
  have HX1 := Lib.hid hx1
  clear hx1
  go_wp2_with (fail)
  refine (HA.out w1 HX1.out).mono ?_
  rintro e w2 ⟨hx2, hcA⟩
  have HX2 := Lib.hid (HX1.out.trans hx2)
  rcases hcA with rfl | ⟨b, m, t, rfl, ht, hgt⟩
  · clear hx2 HA
    go_wp2_with (fail)
    go_ret
    exact ⟨rfl, HX2.out⟩
  · have HT2 := Lib.hid ht
    have HGT := Lib.hid hgt
    have hpk := ht.pk
    have HSD := Lib.hid (sound_own hgt hpk)
    have hsz : ((pl t).length : Int) ≤ 60 := hgt.snd.size
    have HPUT : Hid (∀ W, Ext w2 W → Calls Tryz.prog 34 #[.pointer (some ⟨b, 0, none⟩)] W fun e w' => ∃ v, e = .returned v ∧ OwnBy w' W.heap.size v (encL (ownL (pl t))) ∧ Ext W w') := fun W hW => snapPut_any (ht.ext hW) (hgt.ok (by omega)) (by omega)
    have HGE : Hid (∀ W v, Ext w W → BytesR W v (encL (ownL (pl t))) → Calls Tryz.prog 33 #[v, .int .i64 60] W fun e w' => GetPost W 60 20 (ownL (pl t)) e w') := fun W v hW hb =>
      snapGet_enc (ownL (pl t)) 20 v 60 W (HG.out.ext hW) hb (hgt.ents hpk (by omega) (by omega)) (own_nk hpk) (by omega) (encL_small hpk (by omega) (hgt.ok (by omega))) (by omega) (by omega)
    have HOL : Hid ((ownL (pl t)).length = (pl t).length) := own_len _
    have HOG : Hid (∀ p, mget (ownL (pl t)) p = mget (pl t) p) := (own_sorted hpk.1).get
    clear hx2 ht hgt HA hpk
    go_wp2_with (fail)
    refine (HL.out w2 HX2.out).mono ?_
    rintro e w3 ⟨r, rfl, hr, rfl⟩
    have HR := Lib.hid hr
    clear hr HL
    cases r with
    | true =>
      go_wp2_with (fail)
      go_ret
      exact ⟨rfl, HX2.out⟩
    | false =>
      obtain ⟨h20, hsm⟩ := HR.out rfl
      have HSM := Lib.hid hsm
      clear hsm HR
      go_wp2_with (fail)
      refine (HPUT.out w2 (Kp.refl _ _)).mono ?_
      rintro e w3 ⟨v3, rfl, hb3, hx3⟩
      have HB3 := Lib.hid hb3.bytes
      have HX3 := Lib.hid hx3
      clear hb3 hx3 HPUT
      go_wp2_with (fail)
      refine (HGE.out w3 v3 (HX2.out.trans HX3.out) HB3.out).mono ?_
      rintro e w4 ⟨hx4, hcase⟩
      rcases hcase with ⟨hf, _⟩ | ⟨_, hr, _⟩ | ⟨_, _, b', m', u, rfl, hu, hget, hlen⟩
      · rw [HSD.out] at hf; cases hf
      · rw [HOL.out] at hr; omega
      · have hT3 := HT2.out.ext HX3.out
        have hT4 := hT3.ext hx4
        have hsame : ∀ p, mget (pl u) p = mget (pl t) p := fun p => by rw [hget, HOG.out]
        have hln : (pl u).length = (pl t).length := by rw [hlen, HOL.out]
        have HTW : Hid (Two w1 w4 b m 20 t b' m' 20 u) := ⟨hT4, ⟨hu.tr.less hT3.ex.size, hu.pk, hT3.ex.trans hx4⟩, Apart.new hT3.tr hu.tr (Nat.le_refl _)⟩
        have HGU := Lib.hid (HGT.out.same hsame hu.pk.1 hln)
        have HAL : Hid (Alike (pl t) (pl u)) := ⟨fun p => (hsame p).symm, hln.symm⟩
        have HSS : Hid (Calls Tryz.prog 35 #[.pointer (some ⟨b, 0, none⟩), .pointer (some ⟨b', 0, none⟩)] w4 fun e w' => e = .returned (.bool true) ∧ Ext w4 w') := by
          have := snapSame_any HTW.out.ft HTW.out.fu (HGT.out.ok (by omega)) (HGU.out.ok (by omega)) (by omega) (by omega)
          rw [decide_eq_true (own_same HTW.out.ft.pk.1 HTW.out.fu.pk.1 (fun p => (hsame p).symm))] at this
          exact this
        clear hT3 hT4 hsame hln hu hget hlen hx4 HB3 HT2 HGE HOL HOG HSD
        go_wp2_with (fail)
        refine HSS.out.mono ?_
        rintro e w5 ⟨rfl, hx5⟩
        have HT5 := Lib.hid (HTW.out.ext hx5)
        clear hx5 HTW HSS
        go_wp2_with (fail)
        go_loopw [8] (fun s8 wr => BkRel w1 b m b' m' ys s8 wr) (fun s8 _ => ys.length - (intOf s8).toNat)
        case atStart => exact ⟨0, t, u, Nat.zero_le _, rfl, HT5.out, HAL.out, HGT.out, HGU.out⟩
        case round =>
          clear HT5 HAL HGT HGU
          obtain ⟨j, t, u, hj, rfl, htw, hal, hgt, hgu⟩ := hrel
          have HTW := Lib.hid htw
          have HAL := Lib.hid hal
          have HGT := Lib.hid hgt
          have HGU := Lib.hid hgu
          have hXR := HX1.out.trans htw.ft.ex
          have HXR := Lib.hid hXR
          clear htw hal hgt hgu
          by_cases hlt : j < ys.length
          · obtain ⟨g, off, rfl, hg, hc⟩ := HOP.out (by omega)
            have HGW : Hid (g < w.heap.size) := hg
            have HC := Lib.hid (hc j hlt)
            obtain ⟨hs1, hs2⟩ := HSM.out j hlt
            obtain ⟨o, ho⟩ : ∃ o, ys[j] = o := ⟨_, rfl⟩
            rw [ho] at HC hs1 hs2
            have HD1 : Hid (∀ W, Two w1 W b m (20 + j) t b' m' (20 + j) u → Calls Tryz.prog 12 #[.pointer (some ⟨b, 0, none⟩), .agg #[.int .i64 o.kind, .string o.path, .string o.data, .int .i64 o.ver, .int .i64 o.flags], .int .i64 2, .int .i64 99] W fun e w' => ∃ a c t', e = .returned (resV (doP 60 (pl t) o 2 99 false).2 a c) ∧ Two w1 w' b m (20 + j + 1) t' b' m' (20 + j) u ∧ pl t' = (doP 60 (pl t) o 2 99 false).1 ∧ Kp (nodeFr m t) W w') := fun W h => by
              refine (tsDo h.ft (HG.out.ext HX1.out) (by omega) o 2 99 (by omega) (by omega)).mono ?_
              intro e w' hd
              obtain ⟨t', h3, h4⟩ := h.one hd
              obtain ⟨_, nv, he, hown, _, _, hk, _⟩ := hd
              obtain ⟨a, c, rfl⟩ := owns_slice hown
              exact ⟨a, c, t', he, h3, h4, hk⟩
            have HD2 : Hid (∀ W t', Two w1 W b m (20 + j + 1) t' b' m' (20 + j) u → Calls Tryz.prog 12 #[.pointer (some ⟨b', 0, none⟩), .agg #[.int .i64 o.kind, .string o.path, .string o.data, .int .i64 o.ver, .int .i64 o.flags], .int .i64 2, .int .i64 99] W fun e w' => ∃ a c u', e = .returned (resV (doP 60 (pl t) o 2 99 false).2 a c) ∧ Two w1 w' b m (20 + j + 1) t' b' m' (20 + j + 1) u' ∧ pl u' = (doP 60 (pl u) o 2 99 false).1 ∧ Kp (nodeFr m' u) W w') := fun W t' h => by
              refine (tsDo h.fu (HG.out.ext HX1.out) (by omega) o 2 99 (by omega) (by omega)).mono ?_
              intro e w' hd
              obtain ⟨u', h3, h4⟩ := h.swap.one hd
              obtain ⟨_, nv, he, hown, _, _, hk, _⟩ := hd
              rw [← (HAL.out.doP HTW.out.ft.pk.1 HTW.out.fu.pk.1 60 o 2 99 false).1] at he hown
              obtain ⟨a, c, rfl⟩ := owns_slice hown
              exact ⟨a, c, u', he, h3.swap, h4, hk⟩
            have HAL2 := Lib.hid (HAL.out.doP HTW.out.ft.pk.1 HTW.out.fu.pk.1 60 o 2 99 false).2
            have HGT2 := Lib.hid (HGT.out.step HTW.out.ft.pk o (sess := 2) (z := 99) ⟨by omega, by omega⟩ ⟨by omega, by omega⟩)
            have HGU2 := Lib.hid (HGU.out.step HTW.out.fu.pk o (sess := 2) (z := 99) ⟨by omega, by omega⟩ ⟨by omega, by omega⟩)
            obtain ⟨P, hP⟩ : ∃ P, doP 60 (pl t) o 2 99 false = P := ⟨_, rfl⟩
            obtain ⟨P', hP'⟩ : ∃ P, doP 60 (pl u) o 2 99 false = P := ⟨_, rfl⟩
            rw [hP] at HD1 HD2 HAL2 HGT2
            rw [hP'] at HD2 HAL2 HGU2
            obtain ⟨ok, op, od, ov, of⟩ := o
            simp only at HC HD1 HD2
            have HOW : Hid (∀ wq, Kp (fun i => wr.heap.size ≤ i ∨ (nodeFr m t i ∨ nodeFr m' u i)) wr wq → Ext w wq) := fun wq hq => hXR.next hq (fun i hi e => by
              have h0 := hXR.size
              have hw1 := HX1.out.size
              rcases e with e | e | e
              · omega
              · have := (HTW.out.ft.tr.ownLt (.inr e)).1; omega
              · have := (HTW.out.fu.tr.ownLt (.inr e)).1; omega)
            clear hc ho hs1 hs2 hXR hP hP'
            unfold resV at HD1 HD2
            go_upto_region 12 with (fail)
            refine' Av.X.wp_region_dagG (fun i => nodeFr m t i ∨ nodeFr m' u i) 14 [(46, [900], [52]), (52, [46], [900])] [900] ((41, .val _) :: (42, .val _) :: (43, .val _) :: (44, .val _) :: (45, .val _) :: (46, ⟨fun v => ∃ a c, v = .agg #[.int .i64 P.2.err, .string P.2.path, .string P.2.data, .slice a P.2.names.length c, .int .i64 P.2.st.made, .int .i64 P.2.st.chg, .int .i64 P.2.st.ver, .int .i64 P.2.st.kids, .int .i64 P.2.st.own, .int .i64 P.2.st.len, .int .i64 P.2.st.cnt], fun _ w' => ∃ t', Two w1 w' b m (20 + j + 1) t' b' m' (20 + j) u ∧ pl t' = P.1⟩) :: (47, .val _) :: (48, .val _) :: (49, .val _) :: (50, .val _) :: (51, .val _) :: (52, ⟨fun v => ∃ a c, v = .agg #[.int .i64 P.2.err, .string P.2.path, .string P.2.data, .slice a P.2.names.length c, .int .i64 P.2.st.made, .int .i64 P.2.st.chg, .int .i64 P.2.st.ver, .int .i64 P.2.st.kids, .int .i64 P.2.st.own, .int .i64 P.2.st.len, .int .i64 P.2.st.cnt], fun _ w' => ∃ t' u', Two w1 w' b m (20 + j + 1) t' b' m' (20 + j + 1) u' ∧ pl t' = P.1 ∧ pl u' = P'.1⟩) :: (9, ⟨fun v => ∃ r, v = .pointer (some ⟨r, 0, none⟩), fun v w' => ∃ r, v = .pointer (some ⟨r, 0, none⟩) ∧ wr.heap.size ≤ r ∧ Blk w' r rsZ rsuT⟩) :: (10, ⟨fun v => ∃ r, v = .pointer (some ⟨r, 0, none⟩), fun v w' => ∃ r, v = .pointer (some ⟨r, 0, none⟩) ∧ wr.heap.size ≤ r ∧ Blk w' r rsZ rsuT⟩) :: (900, ⟨fun _ => True, fun _ w' => Two w1 w' b m (20 + j) t b' m' (20 + j) u⟩) :: []) (by exact ⟨fun _ _ _ _ _ => trivial, ⟨fun _ _ _ _ _ => trivial, ⟨fun _ _ _ _ _ => trivial, ⟨fun _ _ _ _ _ => trivial, ⟨fun _ _ _ _ _ => trivial, ⟨fun _ _ _ hr ⟨t', h1, h2⟩ => ⟨t', h1.ext hr, h2⟩, ⟨fun _ _ _ _ _ => trivial, ⟨fun _ _ _ _ _ => trivial, ⟨fun _ _ _ _ _ => trivial, ⟨fun _ _ _ _ _ => trivial, ⟨fun _ _ _ _ _ => trivial, ⟨fun _ _ _ hr ⟨t', u', h1, h2, h3⟩ => ⟨t', u', h1.ext hr, h2, h3⟩, ⟨fun _ _ _ hr ⟨r, h1, h2, h3⟩ => ⟨r, h1, h2, h3.kp hr (fun f => f)⟩, ⟨fun _ _ _ hr ⟨r, h1, h2, h3⟩ => ⟨r, h1, h2, h3.kp hr (fun f => f)⟩, ⟨fun _ _ _ hr hv => hv.ext hr, trivial⟩⟩⟩⟩⟩⟩⟩⟩⟩⟩⟩⟩⟩⟩⟩) (by exact ⟨⟨undef, HTW.out.ext (Kp.refl _ _).drew⟩, trivial⟩) (by kernel_rfl) (by kernel_rfl) (by kernel_rfl) ?_
            rotate_left 10
            simp only [List.take_succ_cons, List.take_zero]
            repeat (first
              | (refine Av.X.wpD_skipv ?_ ?_ ?_
                 focus rfl
                 focus rfl
                 simp only [Act.put, List.setIfInBounds_toArray, List.set_cons_succ, List.set_cons_zero])
              | (refine' Av.X.wpD_val (c := _) ?_ (fun w => Kp.refl _ w) ?_ (fun wq hwq hfz => ?_) ?_
                 rotate_left
                 focus rfl
                 focus rfl
                 focus (have hfq := hfz.at_; have hcq := hfz.use; (have hxq := HOW.out _ hwq; have c0 := hxq.cell HC.out.1 (fun f => f); have c1 := hxq.cell HC.out.2.1 (fun f => f); have c2 := hxq.cell HC.out.2.2.1 (fun f => f); have c3 := hxq.cell HC.out.2.2.2.1 (fun f => f); have c4 := hxq.cell HC.out.2.2.2.2 (fun f => f); clear hxq); go_simp; first | done | rfl)
                 simp only [Act.put, List.setIfInBounds_toArray, List.set_cons_succ, List.set_cons_zero])
              | (refine' Av.X.wpD_con (c := _) ?_ ?_ (fun wq hwq hfz => ?_) ?_
                 rotate_left
                 focus rfl
                 focus rfl
                 focus (have hfq := hfz.at_; have hcq := hfz.use; (have hxq := HOW.out _ hwq; have c0 := hxq.cell HC.out.1 (fun f => f); have c1 := hxq.cell HC.out.2.1 (fun f => f); have c2 := hxq.cell HC.out.2.2.1 (fun f => f); have c3 := hxq.cell HC.out.2.2.2.1 (fun f => f); have c4 := hxq.cell HC.out.2.2.2.2 (fun f => f); clear hxq); go_simp; (try (rw [dUpon_enter])); fail)
                 simp only [Act.put, List.setIfInBounds_toArray, List.set_cons_succ, List.set_cons_zero])
              | (refine Av.X.wpD_used (A := fun v => ∃ a c, v = .agg #[.int .i64 P.2.err, .string P.2.path, .string P.2.data, .slice a P.2.names.length c, .int .i64 P.2.st.made, .int .i64 P.2.st.chg, .int .i64 P.2.st.ver, .int .i64 P.2.st.kids, .int .i64 P.2.st.own, .int .i64 P.2.st.len, .int .i64 P.2.st.cnt]) (V := fun _ w' => ∃ t', Two w1 w' b m (20 + j + 1) t' b' m' (20 + j) u ∧ pl t' = P.1) 46 ?_ ?_ ?_ ?_ (fun wq hwq hfz => ?_) (fun v46 h46 => ?_)
                 focus rfl
                 focus rfl
                 focus (exact ⟨_, none, 0, rfl⟩)
                 focus rfl
                 focus (have hfq := hfz.at_; have hcq := hfz.use; (have hxq := HOW.out _ hwq; have c0 := hxq.cell HC.out.1 (fun f => f); have c1 := hxq.cell HC.out.2.1 (fun f => f); have c2 := hxq.cell HC.out.2.2.1 (fun f => f); have c3 := hxq.cell HC.out.2.2.2.1 (fun f => f); have c4 := hxq.cell HC.out.2.2.2.2 (fun f => f); clear hxq); go_simp; (try (rw [dUpon_enter])); have h900 : Two w1 wq b m (20 + j) t b' m' (20 + j) u := (hcq 900 rfl).elim (fun _ h => h); (with_reducible refine (HD1.out _ h900).mono ?_); rintro e w' ⟨a, c, t', rfl, hV, hp, hk⟩; refine ⟨_, rfl, ⟨a, c, rfl⟩, ⟨t', hV, hp⟩, hk.mono (fun i _ e => .inr (.inl e)), ?_⟩; repeat (first | exact PresL.nil | (with_reducible refine PresL.val ?_) | (refine PresL.out rfl ?_) | (refine PresL.keep (fun z ⟨r, h1, h2, h3⟩ => ⟨r, h1, h2, h900.ft.tr.blk' hk h3 (by decide)⟩) ?_)))
                 obtain ⟨a46, c46, rfl⟩ := h46
                 simp only [Act.put, List.setIfInBounds_toArray, List.set_cons_succ, List.set_cons_zero])
              | (refine Av.X.wpD_used (A := fun v => ∃ a c, v = .agg #[.int .i64 P.2.err, .string P.2.path, .string P.2.data, .slice a P.2.names.length c, .int .i64 P.2.st.made, .int .i64 P.2.st.chg, .int .i64 P.2.st.ver, .int .i64 P.2.st.kids, .int .i64 P.2.st.own, .int .i64 P.2.st.len, .int .i64 P.2.st.cnt]) (V := fun _ w' => ∃ t' u', Two w1 w' b m (20 + j + 1) t' b' m' (20 + j + 1) u' ∧ pl t' = P.1 ∧ pl u' = P'.1) 52 ?_ ?_ ?_ ?_ (fun wq hwq hfz => ?_) (fun v52 h52 => ?_)
                 focus rfl
                 focus rfl
                 focus (exact ⟨_, none, 0, rfl⟩)
                 focus rfl
                 focus (have hfq := hfz.at_; have hcq := hfz.use; (have hxq := HOW.out _ hwq; have c0 := hxq.cell HC.out.1 (fun f => f); have c1 := hxq.cell HC.out.2.1 (fun f => f); have c2 := hxq.cell HC.out.2.2.1 (fun f => f); have c3 := hxq.cell HC.out.2.2.2.1 (fun f => f); have c4 := hxq.cell HC.out.2.2.2.2 (fun f => f); clear hxq); go_simp; (try (rw [dUpon_enter])); have h46 : ∃ t', Two w1 wq b m (20 + j + 1) t' b' m' (20 + j) u ∧ pl t' = P.1 := (hcq 46 rfl).elim (fun _ h => h); obtain ⟨t', h46, hpt⟩ := h46; (with_reducible refine (HD2.out _ _ h46).mono ?_); rintro e w' ⟨a, c, u', rfl, hV, hp, hk⟩; refine ⟨_, rfl, ⟨a, c, rfl⟩, ⟨t', u', hV, hpt, hp⟩, hk.mono (fun i _ e => .inr (.inr e)), ?_⟩; repeat (first | exact PresL.nil | (with_reducible refine PresL.val ?_) | (refine PresL.out rfl ?_) | (refine PresL.keep (fun z ⟨r, h1, h2, h3⟩ => ⟨r, h1, h2, h46.fu.tr.blk' hk h3 (by decide)⟩) ?_)))
                 obtain ⟨a52, c52, rfl⟩ := h52
                 simp only [Act.put, List.setIfInBounds_toArray, List.set_cons_succ, List.set_cons_zero])
              | (refine Av.X.wpD_made (A := fun v => ∃ r, v = .pointer (some ⟨r, 0, none⟩)) (V := fun v w' => ∃ r, v = .pointer (some ⟨r, 0, none⟩) ∧ wr.heap.size ≤ r ∧ Blk w' r rsZ rsuT) 9 ?_ ?_ ?_ ?_ (fun wq hwq hfz => ?_) (fun v9 h9 => ?_)
                 focus rfl
                 focus rfl
                 focus (exact ⟨.pointer (some ⟨0, 0, none⟩), 0, rfl⟩)
                 focus rfl
                 focus (have hfq := hfz.at_; have hcq := hfz.use; (have hxq := HOW.out _ hwq; have c0 := hxq.cell HC.out.1 (fun f => f); have c1 := hxq.cell HC.out.2.1 (fun f => f); have c2 := hxq.cell HC.out.2.2.1 (fun f => f); have c3 := hxq.cell HC.out.2.2.2.1 (fun f => f); have c4 := hxq.cell HC.out.2.2.2.2 (fun f => f); clear hxq); go_simp; (try (rw [dUpon_enter])); rw [dUpon_value]; exact mPost ⟨_, rfl⟩ ⟨_, rfl, hwq.size, heap_alloc_new _ _⟩ ((Kp.refl _ _).alloc _))
                 obtain ⟨r9, rfl⟩ := h9
                 simp only [Act.put, List.setIfInBounds_toArray, List.set_cons_succ, List.set_cons_zero])
              | (refine Av.X.wpD_made (A := fun v => ∃ r, v = .pointer (some ⟨r, 0, none⟩)) (V := fun v w' => ∃ r, v = .pointer (some ⟨r, 0, none⟩) ∧ wr.heap.size ≤ r ∧ Blk w' r rsZ rsuT) 10 ?_ ?_ ?_ ?_ (fun wq hwq hfz => ?_) (fun v10 h10 => ?_)
                 focus rfl
                 focus rfl
                 focus (exact ⟨.pointer (some ⟨0, 0, none⟩), 0, rfl⟩)
                 focus rfl
                 focus (have hfq := hfz.at_; have hcq := hfz.use; (have hxq := HOW.out _ hwq; have c0 := hxq.cell HC.out.1 (fun f => f); have c1 := hxq.cell HC.out.2.1 (fun f => f); have c2 := hxq.cell HC.out.2.2.1 (fun f => f); have c3 := hxq.cell HC.out.2.2.2.1 (fun f => f); have c4 := hxq.cell HC.out.2.2.2.2 (fun f => f); clear hxq); go_simp; (try (rw [dUpon_enter])); rw [dUpon_value]; exact mPost ⟨_, rfl⟩ ⟨_, rfl, hwq.size, heap_alloc_new _ _⟩ ((Kp.refl _ _).alloc _))
                 obtain ⟨r10, rfl⟩ := h10
                 simp only [Act.put, List.setIfInBounds_toArray, List.set_cons_succ, List.set_cons_zero])
              | fail)
            refine Av.X.wpD_nil ?_
            intro w7 hr7 hend
            obtain ⟨t', u', h52, hpt, hpu⟩ : ∃ t' u', Two w1 w7 b m (20 + j + 1) t' b' m' (20 + j + 1) u' ∧ pl t' = P.1 ∧ pl u' = P'.1 := hend 52 (by kernel_rfl)
            obtain ⟨_, e9, hg9, hb9⟩ : ∃ r, Value.pointer (some ⟨r9, 0, none⟩) = .pointer (some ⟨r, 0, none⟩) ∧ wr.heap.size ≤ r ∧ Blk w7 r rsZ rsuT := hend 9 (by kernel_rfl)
            obtain rfl : r9 = _ := by simpa using e9
            obtain ⟨_, e10, hg10, hb10⟩ : ∃ r, Value.pointer (some ⟨r10, 0, none⟩) = .pointer (some ⟨r, 0, none⟩) ∧ wr.heap.size ≤ r ∧ Blk w7 r rsZ rsuT := hend 10 (by kernel_rfl)
            obtain rfl : r10 = _ := by simpa using e10
            clear hend e9 e10 hr7
            obtain ⟨wR, hWR⟩ : ∃ wR, set11 (set11 w7 r9 (.int .i64 P.2.err) (.string P.2.path) (.string P.2.data) (.slice a46 P.2.names.length c46) (.int .i64 P.2.st.made) (.int .i64 P.2.st.chg) (.int .i64 P.2.st.ver) (.int .i64 P.2.st.kids) (.int .i64 P.2.st.own) (.int .i64 P.2.st.len) (.int .i64 P.2.st.cnt)) r10 (.int .i64 P.2.err) (.string P.2.path) (.string P.2.data) (.slice a52 P.2.names.length c52) (.int .i64 P.2.st.made) (.int .i64 P.2.st.chg) (.int .i64 P.2.st.ver) (.int .i64 P.2.st.kids) (.int .i64 P.2.st.own) (.int .i64 P.2.st.len) (.int .i64 P.2.st.cnt) = wR := ⟨_, rfl⟩
            obtain ⟨⟨xr, hBr⟩, ⟨xq, hBq⟩, hkR⟩ := two_stored P.2 a46 a52 c46 c52 hb9 hb10 wR hWR
            have hS : ∀ i, (i = r9 ∨ i = r10) → w1.heap.size ≤ i ∧ ∃ A, Blk w7 i A rsuT := fun i e => by
              have := HTW.out.ft.ex.size
              rcases e with rfl | rfl
              · exact ⟨by omega, _, hb9⟩
              · exact ⟨by omega, _, hb10⟩
            have HTR : Hid (Two w1 wR b m (20 + j + 1) t' b' m' (20 + j + 1) u') := ⟨h52.ft.offT hkR hS (by decide) (by decide) (by decide), h52.fu.offT hkR hS (by decide) (by decide) (by decide), h52.ap⟩
            have HALR : Hid (Alike (pl t') (pl u')) := by show Alike _ _; rw [hpt, hpu]; exact HAL2.out
            have HGTR : Hid (GoodS 60 (pl t')) := by show GoodS _ _; rw [hpt]; exact HGT2.out
            have HGUR : Hid (GoodS 60 (pl u')) := by show GoodS _ _; rw [hpu]; exact HGU2.out
            have HBR := Lib.hid hBr
            have HBQ := Lib.hid hBq
            have hsn := stat_neq_same P.2.st
            unfold stA at hsn
            have HSN := Lib.hid hsn
            have HWR : Hid (set11 (set11 w7 r9 (.int .i64 P.2.err) (.string P.2.path) (.string P.2.data) (.slice a46 P.2.names.length c46) (.int .i64 P.2.st.made) (.int .i64 P.2.st.chg) (.int .i64 P.2.st.ver) (.int .i64 P.2.st.kids) (.int .i64 P.2.st.own) (.int .i64 P.2.st.len) (.int .i64 P.2.st.cnt)) r10 (.int .i64 P.2.err) (.string P.2.path) (.string P.2.data) (.slice a52 P.2.names.length c52) (.int .i64 P.2.st.made) (.int .i64 P.2.st.chg) (.int .i64 P.2.st.ver) (.int .i64 P.2.st.kids) (.int .i64 P.2.st.own) (.int .i64 P.2.st.len) (.int .i64 P.2.st.cnt) = wR) := hWR
            unfold set11 at HWR
            unfold rsZ at hb9 hb10
            have z0 := hb9.cell 0 _ rfl
            have z1 := hb9.cell 1 _ rfl
            have z2 := hb9.cell 2 _ rfl
            have z3 := hb9.cell 3 _ rfl
            have z4 := hb9.cell 4 _ rfl
            have z5 := hb9.cell 5 _ rfl
            have z6 := hb9.cell 6 _ rfl
            have z7 := hb9.cell 7 _ rfl
            have z8 := hb9.cell 8 _ rfl
            have z9 := hb9.cell 9 _ rfl
            have z10 := hb9.cell 10 _ rfl
            have fz0 := hb9.free 0
            have fz1 := hb9.free 1
            have fz2 := hb9.free 2
            have fz3 := hb9.free 3
            have fz4 := hb9.free 4
            have fz5 := hb9.free 5
            have fz6 := hb9.free 6
            have fz7 := hb9.free 7
            have fz8 := hb9.free 8
            have fz9 := hb9.free 9
            have fz10 := hb9.free 10
            have y0 := hb10.cell 0 _ rfl
            have y1 := hb10.cell 1 _ rfl
            have y2 := hb10.cell 2 _ rfl
            have y3 := hb10.cell 3 _ rfl
            have y4 := hb10.cell 4 _ rfl
            have y5 := hb10.cell 5 _ rfl
            have y6 := hb10.cell 6 _ rfl
            have y7 := hb10.cell 7 _ rfl
            have y8 := hb10.cell 8 _ rfl
            have y9 := hb10.cell 9 _ rfl
            have y10 := hb10.cell 10 _ rfl
            have fy0 := hb10.free 0
            have fy1 := hb10.free 1
            have fy2 := hb10.free 2
            have fy3 := hb10.free 3
            have fy4 := hb10.free 4
            have fy5 := hb10.free 5
            have fy6 := hb10.free 6
            have fy7 := hb10.free 7
            have fy8 := hb10.free 8
            have fy9 := hb10.free 9
            have fy10 := hb10.free 10
            clear hb9 hb10 hBr hBq hkR hS h52 hpt hpu hWR hsn HTW HAL HGT HGU HAL2 HGT2 HGU2 HD1 HD2 HC HOW HGW hg9 hg10 hg
            by_cases er : r9 = r10
            · subst er
              clear y0 y1 y2 y3 y4 y5 y6 y7 y8 y9 y10 fy0 fy1 fy2 fy3 fy4 fy5 fy6 fy7 fy8 fy9 fy10
              go_upto_region 13 with (fail)
              rw [HWR.out]
              clear HWR z0 z1 z2 z3 z4 z5 z6 z7 z8 z9 z10 fz0 fz1 fz2 fz3 fz4 fz5 fz6 fz7 fz8 fz9 fz10
              have hbr := HBR.out
              have hbq := HBQ.out
              have hsn := HSN.out
              have hgd := stat_guard
              have z0 := hbr.cell 0 _ rfl
              have z1 := hbr.cell 1 _ rfl
              have z2 := hbr.cell 2 _ rfl
              have z3 := hbr.cell 3 _ rfl
              have z4 := hbr.cell 4 _ rfl
              have z5 := hbr.cell 5 _ rfl
              have z6 := hbr.cell 6 _ rfl
              have z7 := hbr.cell 7 _ rfl
              have z8 := hbr.cell 8 _ rfl
              have z9 := hbr.cell 9 _ rfl
              have z10 := hbr.cell 10 _ rfl
              have y0 := hbq.cell 0 _ rfl
              have y1 := hbq.cell 1 _ rfl
              have y2 := hbq.cell 2 _ rfl
              have y3 := hbq.cell 3 _ rfl
              have y4 := hbq.cell 4 _ rfl
              have y5 := hbq.cell 5 _ rfl
              have y6 := hbq.cell 6 _ rfl
              have y7 := hbq.cell 7 _ rfl
              have y8 := hbq.cell 8 _ rfl
              have y9 := hbq.cell 9 _ rfl
              have y10 := hbq.cell 10 _ rfl
              clear hbr hbq HBR HBQ HSN
              go_wp2_with (fail)
              go_light
              refine ⟨⟨j + 1, t', u', ?_, ?_, HTR.out, HALR.out, HGTR.out, HGUR.out⟩, ?_⟩
              · omega
              · go_num
              · simp [intOf]; omega
            · have er2 : r10 ≠ r9 := fun e => er e.symm
              go_upto_region 13 with (fail)
              rw [HWR.out]
              clear HWR z0 z1 z2 z3 z4 z5 z6 z7 z8 z9 z10 fz0 fz1 fz2 fz3 fz4 fz5 fz6 fz7 fz8 fz9 fz10 y0 y1 y2 y3 y4 y5 y6 y7 y8 y9 y10 fy0 fy1 fy2 fy3 fy4 fy5 fy6 fy7 fy8 fy9 fy10
              have hbr := HBR.out
              have hbq := HBQ.out
              have hsn := HSN.out
              have hgd := stat_guard
              have z0 := hbr.cell 0 _ rfl
              have z1 := hbr.cell 1 _ rfl
              have z2 := hbr.cell 2 _ rfl
              have z3 := hbr.cell 3 _ rfl
              have z4 := hbr.cell 4 _ rfl
              have z5 := hbr.cell 5 _ rfl
              have z6 := hbr.cell 6 _ rfl
              have z7 := hbr.cell 7 _ rfl
              have z8 := hbr.cell 8 _ rfl
              have z9 := hbr.cell 9 _ rfl
              have z10 := hbr.cell 10 _ rfl
              have y0 := hbq.cell 0 _ rfl
              have y1 := hbq.cell 1 _ rfl
              have y2 := hbq.cell 2 _ rfl
              have y3 := hbq.cell 3 _ rfl
              have y4 := hbq.cell 4 _ rfl
              have y5 := hbq.cell 5 _ rfl
              have y6 := hbq.cell 6 _ rfl
              have y7 := hbq.cell 7 _ rfl
              have y8 := hbq.cell 8 _ rfl
              have y9 := hbq.cell 9 _ rfl
              have y10 := hbq.cell 10 _ rfl
              clear hbr hbq HBR HBQ HSN
              go_wp2_with (fail)
              go_light
              refine ⟨⟨j + 1, t', u', ?_, ?_, HTR.out, HALR.out, HGTR.out, HGUR.out⟩, ?_⟩
              · omega
              · go_num
              · simp [intOf]; omega
          · have heq : ownL (pl t) = ownL (pl u) := own_same HTW.out.ft.pk.1 HTW.out.fu.pk.1 HAL.out.get
            have HPA : Hid (∀ W, Ext wr W → Calls Tryz.prog 34 #[.pointer (some ⟨b, 0, none⟩)] W fun e w' => ∃ v, e = .returned v ∧ OwnBy w' W.heap.size v (encL (ownL (pl t))) ∧ Ext W w') := fun W hW => snapPut_any (HTW.out.ft.ext hW) (HGT.out.ok (by omega)) (by omega)
            have HPB : Hid (∀ W, Ext wr W → Calls Tryz.prog 34 #[.pointer (some ⟨b', 0, none⟩)] W fun e w' => ∃ v, e = .returned v ∧ OwnBy w' W.heap.size v (encL (ownL (pl t))) ∧ Ext W w') := fun W hW => by rw [heq]; exact snapPut_any (HTW.out.fu.ext hW) (HGU.out.ok (by omega)) (by omega)
            have HSS : Hid (∀ W, Ext wr W → Calls Tryz.prog 35 #[.pointer (some ⟨b, 0, none⟩), .pointer (some ⟨b', 0, none⟩)] W fun e w' => e = .returned (.bool true) ∧ Ext W w') := fun W hW => by
              have := snapSame_any (HTW.out.ft.ext hW) (HTW.out.fu.ext hW) (HGT.out.ok (by omega)) (HGU.out.ok (by omega)) (by omega) (by omega)
              rw [decide_eq_true heq] at this
              exact this
            have HCA : Hid (∀ (v : Value) (W : World), BytesR W v (encL (ownL (pl t))) → (convert 66 9 v).run Tryz.prog W = .ok (.string (mkS (encL (ownL (pl t))))) W) := fun v W hb => conv_bs hb
            have hse := str_eq (mkS (encL (ownL (pl t)))) (mkS (encL (ownL (pl t))))
            rw [decide_eq_true rfl] at hse
            obtain ⟨SA, hSA⟩ : ∃ S, mkS (encL (ownL (pl t))) = S := ⟨_, rfl⟩
            rw [hSA] at HCA hse
            obtain ⟨BA, hBA⟩ : ∃ B, encL (ownL (pl t)) = B := ⟨_, rfl⟩
            rw [hBA] at HPA HPB HCA
            have HSE := Lib.hid hse
            clear heq hSA hBA hse
            go_upto_region 15 with (fail)
            refine' wp_region_dag0 ((72, .val _) :: (73, .val _) :: (74, .val _) :: (75, .val _) :: (76, .val _) :: (77, ⟨fun _ => True, fun v w => BytesR w v BA⟩) :: (78, .val _) :: (79, .val _) :: (80, ⟨fun _ => True, fun v w => BytesR w v BA⟩) :: (81, .val _) :: (82, .val _) :: (83, .val _) :: (4, .val _) :: []) (by exact ⟨fun _ _ _ _ _ => trivial, ⟨fun _ _ _ _ _ => trivial, ⟨fun _ _ _ _ _ => trivial, ⟨fun _ _ _ _ _ => trivial, ⟨fun _ _ _ _ _ => trivial, ⟨fun _ _ _ hr hv => hv.ext hr, ⟨fun _ _ _ _ _ => trivial, ⟨fun _ _ _ _ _ => trivial, ⟨fun _ _ _ hr hv => hv.ext hr, ⟨fun _ _ _ _ _ => trivial, ⟨fun _ _ _ _ _ => trivial, ⟨fun _ _ _ _ _ => trivial, ⟨fun _ _ _ _ _ => trivial, trivial⟩⟩⟩⟩⟩⟩⟩⟩⟩⟩⟩⟩⟩) (by kernel_rfl) (by kernel_rfl) (by kernel_rfl) ?_
            rotate_left 11
            repeat (first
              | (refine wpD_skipv ?_ ?_ ?_
                 focus rfl
                 focus rfl
                 simp only [Act.put, List.setIfInBounds_toArray, List.set_cons_succ, List.set_cons_zero])
              | (refine' wpD_val (c := _) ?_ (fun w => Kp.refl _ w) ?_ (fun wq hwq hfq => ?_) ?_
                 rotate_left
                 focus rfl
                 focus rfl
                 focus ((have hse := HSE.out; (first | have k1 := HCA.out v77 wq (hfq 77 rfl) | have k1 := HCA.out v80 wq (hfq 80 rfl) | skip)); go_simp; first | done | rfl)
                 simp only [Act.put, List.setIfInBounds_toArray, List.set_cons_succ, List.set_cons_zero])
              | (refine' wpD_con (c := _) ?_ ?_ (fun wq hwq hfq => ?_) ?_
                 rotate_left
                 focus rfl
                 focus rfl
                 focus ((have hse := HSE.out; (first | have k1 := HCA.out v77 wq (hfq 77 rfl) | have k1 := HCA.out v80 wq (hfq 80 rfl) | skip)); go_simp; (try (rw [dUpon_enter])); ((with_reducible refine (HSS.out _ hwq).mono ?_); rintro e w' ⟨rfl, hx⟩; exact DEnd.con hx))
                 simp only [Act.put, List.setIfInBounds_toArray, List.set_cons_succ, List.set_cons_zero])
              | (refine wpD_made (A := fun _ => True) (V := fun v w => BytesR w v BA) 77 ?_ ?_ ?_ ?_ (fun wq hwq hfq => ?_) (fun v77 h77 => ?_)
                 focus rfl
                 focus rfl
                 focus (exact ⟨undef, trivial⟩)
                 focus rfl
                 focus ((have hse := HSE.out; (first | have k1 := HCA.out v77 wq (hfq 77 rfl) | have k1 := HCA.out v80 wq (hfq 80 rfl) | skip)); go_simp; (try (rw [dUpon_enter])); (with_reducible refine (HPA.out _ hwq).mono ?_); rintro e w' ⟨v, rfl, hb, hx⟩; exact DEnd.made trivial hb.bytes hx)
                 clear h77
                 simp only [Act.put, List.setIfInBounds_toArray, List.set_cons_succ, List.set_cons_zero])
              | (refine wpD_made (A := fun _ => True) (V := fun v w => BytesR w v BA) 80 ?_ ?_ ?_ ?_ (fun wq hwq hfq => ?_) (fun v80 h80 => ?_)
                 focus rfl
                 focus rfl
                 focus (exact ⟨undef, trivial⟩)
                 focus rfl
                 focus ((have hse := HSE.out; (first | have k1 := HCA.out v77 wq (hfq 77 rfl) | have k1 := HCA.out v80 wq (hfq 80 rfl) | skip)); go_simp; (try (rw [dUpon_enter])); (with_reducible refine (HPB.out _ hwq).mono ?_); rintro e w' ⟨v, rfl, hb, hx⟩; exact DEnd.made trivial hb.bytes hx)
                 clear h80
                 simp only [Act.put, List.setIfInBounds_toArray, List.set_cons_succ, List.set_cons_zero])
              | fail)
            refine wpD_nil ?_
            intro w8 hx8 _
            go_wp2_with (fail)
            go_ret
            go_light
            exact ⟨rfl, HXR.out.ext hx8⟩
end Go.Proofs.YtjapjpigpakejaaGreatDoor
