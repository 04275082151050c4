/- Walks of package aviarylaw11: TreePlays. -/
import Derived.Test.YtdagikbdpeblhaaGreatDoorAvG41
import Derived.Test.YtdagikbdpeblhaaGreatDoorAvG39
import Derived.Test.YtdagikbdpeblhaaGreatDoorAvG22
import Derived.Test.YtdagikbdpeblhaaGreatDoorAvG27
namespace Go.Proofs.YtdagikbdpeblhaaGreatDoor
set_option maxRecDepth 100000
open Go.RowKit Av

theorem Two.ext {w0 w w' : World} {room : Int} {b m g K : Nat} {t : Tr} {v : Value} {E : List Ent} (h : Two w0 w room b m g K t v E) (k : Ext w w') : Two w0 w' room b m g K t v E := ⟨h.ts.ext k, h.rf.ext k, h.srt, h.good⟩
def TLdV (w0 : World) (b m : Nat) (room : Int) (K : Nat) (P : Pt) (w' : World) : Prop := ∃ t', TS w0 w' b m room K t' ∧ pl t' = P
def RLdV (base g : Nat) (room : Int) (L : RL) (w' : World) : Prop := ∃ v' E', RefA w' base g room v' E' ∧ entL E' = L
theorem TLdV.ext {w0 w w' : World} {b m : Nat} {room : Int} {K : Nat} {P : Pt} (h : TLdV w0 b m room K P w) (k : Ext w w') : TLdV w0 b m room K P w' := by
  obtain ⟨t', h2, h3⟩ := h
  exact ⟨t', h2.ext k, h3⟩
theorem RLdV.ext {w w' : World} {base g : Nat} {room : Int} {L : RL} (h : RLdV base g room L w) (k : Ext w w') : RLdV base g room L w' := by
  obtain ⟨v', E', h2, h3⟩ := h
  exact ⟨v', E', h2.ext k, h3⟩
theorem TLdV.off {w0 w w' : World} {b m g : Nat} {room : Int} {K : Nat} {P : Pt} (h : TLdV w0 b m room K P w) {base : Nat} (hb : w0.heap.size ≤ base) {rm : Int} {u : Value} {E : List Ent} (hr : RefA w base g rm u E) (k : Kp (refFr g u) w w') : TLdV w0 b m room K P w' := by
  obtain ⟨t', h2, h3⟩ := h
  exact ⟨t', h2.offS k (fun i hi => Nat.le_trans hb (hr.lowFr i hi)) (hr.noT (by decide) (by decide)) (hr.noT (by decide) (by decide)) (hr.noT (by decide) (by decide)) (hr.notMap h2), h3⟩
theorem RLdV.offTree {w0 w w' : World} {base g b m : Nat} {room rm : Int} {K : Nat} {t : Tr} {L : RL} (h : RLdV base g room L w) (ht : TS w0 w b m rm K t) (k : Kp (nodeFr m t) w w') : RLdV base g room L w' := by
  obtain ⟨v', E', h2, h3⟩ := h
  exact ⟨v', E', RefA.offTree ht h2 k, h3⟩
def PlayRel (w0 : World) (room : Int) (n b m g : Nat) (s8 : Value) (wr : World) : Prop := ∃ (i : Nat) (t : Tr) (v : Value) (E : List Ent), i ≤ n ∧ s8 = .int .i64 i ∧ Two w0 wr room b m g (500 + i) t v E
theorem noT_new {w : World} {S : Nat → Prop} {T : TypeId} (h : NoT w S T) : NoT w (fun i => w.heap.size ≤ i ∨ S i) T := fun i hi cur f hc => by
  rcases hi with hi | hi
  · rw [Array.getElem?_eq_none hi] at hc; cases hc
  · exact h i hi cur f hc
def CpyV (base : Nat) (room : Int) (E : List Ent) (v : Value) (w' : World) : Prop := ∃ q v2, v = .pointer (some ⟨q, 0, none⟩) ∧ RefA w' base q room v2 E
theorem CpyV.ext {w w' : World} {base : Nat} {room : Int} {E : List Ent} {v : Value} (h : CpyV base room E v w) (k : Ext w w') : CpyV base room E v w' := by
  obtain ⟨q, v2, h1, h2⟩ := h
  exact ⟨q, v2, h1, h2.ext k⟩
theorem CpyV.open {w : World} {base q : Nat} {room : Int} {E : List Ent} (h : CpyV base room E (.pointer (some ⟨q, 0, none⟩)) w) : ∃ v2, RefA w base q room v2 E := by
  obtain ⟨q', v2, h1, h2⟩ := h
  simp only [Value.pointer.injEq, Option.some.injEq, Addr.mk.injEq, and_true] at h1
  subst h1
  exact ⟨v2, h2⟩
theorem RefA.less {w : World} {base base' g : Nat} {room : Int} {v : Value} {E : List Ent} (h : RefA w base g room v E) (hb : base' ≤ base) : RefA w base' g room v E := ⟨Nat.le_trans hb h.low, h.blk, h.ents.less hb⟩
theorem doP_only (room : Int) (t : Pt) (o : OpV) (sess z : Int) : (doP room t o sess z false).2 = (doP room t o sess z true).2 := by
  unfold doP
  split
  · rfl
  · split
    · rfl
    · split
      · unfold createP
        simp only
        split <;> rfl
      · split
        · unfold changeP
          split
          · rfl
          · split
            · rfl
            · split
              · split <;> rfl
              · split <;> rfl
        · rfl
theorem ref_new {w0 w' : World} {g : Nat} {room : Int} (hb : Blk w' g #[.int .i64 room, .slice none 0 0] rtT) (hg : w0.heap.size ≤ g) : RefA w' w0.heap.size g room (.slice none 0 0) [] := ⟨hg, hb, ⟨⟨by simp, .inl ⟨rfl, rfl⟩⟩, fun e he => (by cases he)⟩⟩
set_option maxHeartbeats 1600000 in
theorem treeNew_bad (room : Int) (w : World) (h : room < 1 ∨ 500 < room) : Calls Tryz.prog 6 #[.int .i64 room] w fun e w' => e = .returned (.tuple #[.pointer none, .int .i64 1]) ∧ w = w' := by
  by_cases a1 : room < 1
  · go_enter Tryz.func6, Tryz.ntmps6
    go_wp2_with (fail)
    go_ret2
    exact ⟨rfl, rfl⟩
  · have a2 : 500 < room := by omega
    go_enter Tryz.func6, Tryz.ntmps6
    go_wp2_with (fail)
    go_ret2
    exact ⟨rfl, rfl⟩
set_option maxHeartbeats 40000000 in
theorem treePlays_any (room : Int) (v : Value) (xs : List ActN) (w : World) (hG : GT w) (ha : ActsN w v xs) :
    Calls Tryz.prog 3 #[.int .i64 room, v] w fun e w' => e = .returned (.bool true) ∧ Ext w w' := by
  obtain ⟨ad, c, rfl, hm, hop⟩ := ha.open
  have HOP := Lib.hid hop
  have HOK := Lib.hid ha.2
  have HG := Lib.hid hG
  unfold maxLen at hm
  clear hG ha hop
  go_enter Tryz.func3, Tryz.ntmps3
  go_wp2_with (fail)
  refine (awake_any w HG.out).mono ?_
  rintro e w0 ⟨rfl, hx0⟩
  have HX0 := Lib.hid hx0
  have HG0 := Lib.hid (HG.out.ext hx0)
  clear hx0 HG
  by_cases hr : room < 1 ∨ 500 < room
  · have HBAD := Lib.hid (treeNew_bad room w0 hr)
    by_cases a1 : room < 1
    · clear hr
      go_wp2_with (fail)
      refine HBAD.out.mono ?_
      rintro e w1 ⟨rfl, rfl⟩
      go_wp2_with (fail)
      go_ret
      exact ⟨rfl, HX0.out⟩
    · have a2 : 500 < room := by omega
      clear hr
      go_wp2_with (fail)
      refine HBAD.out.mono ?_
      rintro e w1 ⟨rfl, rfl⟩
      go_wp2_with (fail)
      go_ret
      exact ⟨rfl, HX0.out⟩
  · have r1 : ¬ room < 1 := by omega
    have r5 : ¬ room > 500 := by omega
    by_cases b1 : xs.length ≤ 60
    · have b1' : ¬ (60 : Int) < (xs.length : Int) := by omega
      go_wp2_with (fail)
      refine (tsNew room w0 w0 (Kp.refl _ _) (by omega) (by omega)).mono ?_
      rintro e w1 ⟨b, m, rfl, h1, hx1, _, _⟩
      have H1 := Lib.hid h1
      have HX1 := Lib.hid hx1
      clear h1 hx1
      go_upto_region 9 with (fail)
      obtain ⟨w2, hw2⟩ : ∃ w2, w1.alloc (.cells #[.int .i64 room, .slice none 0 0] rtT) = w2 := ⟨_, rfl⟩
      have HX2 : Hid (Ext w1 w2) := by rw [← hw2]; exact (Kp.refl (fun _ => False) w1).alloc _
      have HB2 : Hid (Blk w2 w1.heap.size #[.int .i64 room, .slice none 0 0] rtT) := by rw [← hw2]; exact heap_alloc_new w1 _
      rw [hw2]
      have HGL : Hid (w0.heap.size ≤ w1.heap.size) := HX1.out.size
      clear hw2
      generalize w1.heap.size = g at HB2 HGL ⊢
      go_wp2_with (fail)
      go_loopw [8] (fun s8 wr => PlayRel w0 room xs.length b m g s8 wr) (fun s8 _ => xs.length - (intOf s8).toNat)
      case atStart => exact ⟨0, [], .slice none 0 0, [], Nat.zero_le _, rfl, ⟨⟨(H1.out.ext HX2.out).tr, (H1.out.ext HX2.out).pk.mono (by omega), (H1.out.ext HX2.out).ex⟩, ref_new HB2.out HGL.out, ⟨List.Pairwise.nil, fun _ => rfl⟩, GoodK.nil (by omega)⟩⟩
      case round =>
        clear H1 HX1 HX2 HB2
        obtain ⟨i, t, rv, E, hi, rfl, htw⟩ := hrel
        have HT := Lib.hid htw
        clear htw
        by_cases hlt : i < xs.length
        · have hltI : (i : Int) < (xs.length : Int) := by omega
          have hi0 : (0 : Int) ≤ (i : Int) := by omega
          obtain ⟨q, off, rfl, hq, hcl⟩ := HOP.out (by omega)
          have hxr := HX0.out.trans HT.out.ts.ex
          obtain ⟨a, haa⟩ : ∃ a, xs[i] = a := ⟨_, rfl⟩
          have HOKA : Hid (ActOk w a) := by show ActOk _ _; rw [← haa]; exact HOK.out _ (List.getElem_mem hlt)
          have HC : Hid (∀ j u, j < 18 → a.cells[j]? = some u → wr.cell? ⟨q, off + i * 18 + j, none⟩ = some u) := fun j u hj hu => hxr.cell (hcl i hlt j u hj (by rw [haa]; exact hu)) (fun f => f)
          clear hcl haa
          have HHV := Lib.hid (fun W (hx : Ext w W) => heavy_any a W ⟨HOKA.out.path, HOKA.out.data, HOKA.out.ndata, ⟨Sl.ext HOKA.out.names.1 hx, HOKA.out.names.2⟩, HOKA.out.nsize, HOKA.out.i64, HOKA.out.n64⟩)
          obtain ⟨op, ⟨k, p, d, ver, f⟩, sess, z, n, nv⟩ := a
          obtain ⟨na, nc, e0, _⟩ := Sl.open HOKA.out.names.1
          obtain rfl : nv = .slice na n.names.length nc := e0
          unfold ActN.cells at HHV HC
          simp only at HHV HC
          have HRG : Hid (wr.rangeAt q (off + i * 18) [.int .i64 op, .int .i64 k, .string p, .string d, .int .i64 ver, .int .i64 f, .int .i64 sess, .int .i64 z, .int .i64 n.made, .int .i64 n.chg, .int .i64 n.ver, .int .i64 n.kids, .int .i64 n.own, .int .i64 n.len, .int .i64 n.cnt, .string n.data, .int .i64 n.next, .slice na n.names.length nc]) := fun j u hu => HC.out j u (by have := (List.getElem?_eq_some_iff.1 hu).1; simpa using this) hu
          have HXR := Lib.hid hxr
          clear hxr
          go_upto_region 12 with (fail)
          refine wp_elemCopy 22 40 _ _ _ _ _ _ _ ⟨rfl, rfl, rfl⟩ ⟨rfl, rfl, rfl⟩ ⟨rfl, rfl, rfl⟩ ⟨rfl, rfl, rfl⟩ ⟨rfl, rfl, rfl⟩ ⟨rfl, rfl, rfl⟩ 18 q off xs.length c i rfl rfl hlt [.int .i64 op, .int .i64 k, .string p, .string d, .int .i64 ver, .int .i64 f, .int .i64 sess, .int .i64 z, .int .i64 n.made, .int .i64 n.chg, .int .i64 n.ver, .int .i64 n.kids, .int .i64 n.own, .int .i64 n.len, .int .i64 n.cnt, .string n.data, .int .i64 n.next, .slice na n.names.length nc] HRG.out rfl (by simp [Value.oneCell']) #[.int .i64 0, .int .i64 0, .string ⟨#[]⟩, .string ⟨#[]⟩, .int .i64 0, .int .i64 0, .int .i64 0, .int .i64 0, .int .i64 0, .int .i64 0, .int .i64 0, .int .i64 0, .int .i64 0, .int .i64 0, .int .i64 0, .string ⟨#[]⟩, .int .i64 0, .slice none 0 0] _ ⟨Tryz.underlying22, Tryz.underlying40, by kernel_rfl⟩ rfl (by kernel_rfl) ?_
          simp only [Act.put, List.setIfInBounds_toArray, List.set_cons_succ, List.set_cons_zero]
          obtain ⟨wX, hwX⟩ : ∃ wX, wr.alloc (.cells #[.int .i64 op, .int .i64 k, .string p, .string d, .int .i64 ver, .int .i64 f, .int .i64 sess, .int .i64 z, .int .i64 n.made, .int .i64 n.chg, .int .i64 n.ver, .int .i64 n.kids, .int .i64 n.own, .int .i64 n.len, .int .i64 n.cnt, .string n.data, .int .i64 n.next, .slice na n.names.length nc] 40) = wX := ⟨_, rfl⟩
          have hxX : Ext wr wX := by rw [← hwX]; exact (Kp.refl (fun _ => False) wr).alloc _
          have hbX : Blk wX wr.heap.size #[.int .i64 op, .int .i64 k, .string p, .string d, .int .i64 ver, .int .i64 f, .int .i64 sess, .int .i64 z, .int .i64 n.made, .int .i64 n.chg, .int .i64 n.ver, .int .i64 n.kids, .int .i64 n.own, .int .i64 n.len, .int .i64 n.cnt, .string n.data, .int .i64 n.next, .slice na n.names.length nc] 40 := by rw [← hwX]; exact heap_alloc_new wr _
          rw [hwX]
          have HXX := Lib.hid hxX
          have HBX := Lib.hid hbX
          have HRX : Hid (wX.rangeAt wr.heap.size 0 [.int .i64 op, .int .i64 k, .string p, .string d, .int .i64 ver, .int .i64 f, .int .i64 sess, .int .i64 z, .int .i64 n.made, .int .i64 n.chg, .int .i64 n.ver, .int .i64 n.kids, .int .i64 n.own, .int .i64 n.len, .int .i64 n.cnt, .string n.data, .int .i64 n.next, .slice na n.names.length nc]) := fun j u hu => by rw [Nat.zero_add]; exact HBX.out.cell j u (by simpa using hu)
          clear hwX hxX hbX
          go_upto_region 13 with (fail)
          refine wp_region_lit ?_
          refine wpList_load_mid rfl _ _ rfl wr.heap.size 0 rfl [.int .i64 op, .int .i64 k, .string p, .string d, .int .i64 ver, .int .i64 f, .int .i64 sess, .int .i64 z, .int .i64 n.made, .int .i64 n.chg, .int .i64 n.ver, .int .i64 n.kids, .int .i64 n.own, .int .i64 n.len, .int .i64 n.cnt, .string n.data, .int .i64 n.next, .slice na n.names.length nc] _ HRX.out Tryz.underlying40 rfl (by kernel_rfl) ?_
          simp only [Act.put, List.setIfInBounds_toArray, List.set_cons_succ, List.set_cons_zero]
          clear HRX
          go_wp2_with (fail)
          refine (HHV.out _ (HXR.out.trans HXX.out)).mono ?_
          rintro e w2 ⟨r, rfl, hrl, hx2⟩
          have HR := Lib.hid hrl
          have HX2 := Lib.hid (HXX.out.trans hx2)
          have hb2 := HBX.out.kp hx2 (fun f => f)
          have HB2 := Lib.hid hb2
          clear hrl hx2 HHV
          cases r with
          | true =>
            go_wp2_with (fail)
            go_ret
            exact ⟨rfl, HXR.out.trans HX2.out⟩
          | false =>
            have HLT := Lib.hid (HR.out rfl)
            have c0 := hb2.cell 0 _ rfl
            clear hb2
            have HT2 : Hid (Two w0 w2 room b m g (500 + i) t rv E) := HT.out.ext HX2.out
            obtain ⟨rva, rvc, rfl⟩ := owns_slice HT2.out.rf.ents.row
            have HNM : Hid (NmS w2 (.slice na n.names.length nc) n.names) := ⟨Sl.ext HOKA.out.names.1 (HXR.out.trans HX2.out), HOKA.out.names.2⟩
            have HOW : Hid (∀ W, Kp (fun i => w2.heap.size ≤ i ∨ (nodeFr m t i ∨ refFr g (.slice rva E.length rvc) i)) w2 W → Blk W wr.heap.size #[.int .i64 op, .int .i64 k, .string p, .string d, .int .i64 ver, .int .i64 f, .int .i64 sess, .int .i64 z, .int .i64 n.made, .int .i64 n.chg, .int .i64 n.ver, .int .i64 n.kids, .int .i64 n.own, .int .i64 n.len, .int .i64 n.cnt, .string n.data, .int .i64 n.next, .slice na n.names.length nc] 40) := fun W hW => HB2.out.kp hW (fun e => by
              rcases e with e | e | e
              · have := HB2.out.lt
                omega
              · exact HT2.out.ts.tr.noT (by decide) _ e _ _ HB2.out
              · exact HT2.out.rf.noT (by decide) (by decide) _ e _ _ HB2.out)
            have HEXT : Hid (∀ W, Kp (fun i => w2.heap.size ≤ i ∨ (nodeFr m t i ∨ refFr g (.slice rva E.length rvc) i)) w2 W → Ext w W) := fun W hW => (HXR.out.trans HX2.out).next hW (fun i hi e => by
              have h1 := (HXR.out.trans HX2.out).size
              have h2 := HX0.out.size
              rcases e with e | e | e
              · omega
              · have h3 := HT2.out.ts.tr.low
                rcases e with rfl | ⟨e2, he2, rfl⟩
                · have := h3.2.1
                  omega
                · have := h3.2.2 e2 he2
                  omega
              · have := HT2.out.rf.lowFr i e
                omega)
            by_cases o0 : op = 0
            · subst o0
              as_aux_lemma =>
              obtain ⟨P, R, hPR⟩ : ∃ P R, doP room (pl t) ⟨k, p, d, ver, f⟩ sess z false = (P, R) := ⟨_, _, rfl⟩
              obtain ⟨L, hL⟩ : ∃ L, (doL room (entL E) ⟨k, p, d, ver, f⟩ sess z).1 = L := ⟨_, rfl⟩
              have hLP := doL_doP (room := room) HT2.out.srt HT2.out.ts.pk.1 ⟨k, p, d, ver, f⟩ sess z
              have hLR : doL room (entL E) ⟨k, p, d, ver, f⟩ sess z = (L, R) := Prod.ext hL (by rw [hLP.1, hPR])
              have HSP : Hid (SortedAs L P ∧ GoodK room P) := ⟨by have := hLP.2; rw [hPR, hL] at this; exact this, by have := HT2.out.good.doP ⟨k, p, d, ver, f⟩ sess z false; rw [hPR] at this; exact this⟩
              have hps : p.size ≤ 1000000 := by have := HLT.out.path; simp only at this; omega
              have hds : d.size ≤ 1000000 := by have := HLT.out.data; simp only at this; omega
              have HDT := Lib.hid (fun W h => two_tdo (W := W) (K := 500 + i) (t := t) (b := b) (m := m) HG0.out (by omega) ⟨k, p, d, ver, f⟩ sess z false hps hds hPR h)
              have HDR := Lib.hid (fun W h => two_rdo (W := W) (base := w0.heap.size) (g := g) (v := .slice rva E.length rvc) HT2.out.rise (entsK_of HT2.out.srt HT2.out.ts.pk (by omega)) (by have := HT2.out.few (by omega); omega) ⟨k, p, d, ver, f⟩ sess z hps hds hLR h)
              unfold rsC at HDT HDR
              simp only [Bool.false_eq_true, if_false] at HDT
              clear hL hLP hLR hPR
              go_upto_region 19 with (fail)
              clear c0
              refine' Av.X.wp_region_dagG (fun i => nodeFr m t i ∨ refFr g (.slice rva E.length rvc) i) 18 [(81, [900], [89]), (89, [901], [900])] [900, 901] ((74, .val _) :: (75, .val _) :: (76, .val _) :: (77, .val _) :: (78, .val _) :: (79, .val _) :: (80, .val _) :: (81, ⟨fun v => ∃ a c, v = .agg #[.int .i64 R.err, .string R.path, .string R.data, .slice a R.names.length c, .int .i64 R.st.made, .int .i64 R.st.chg, .int .i64 R.st.ver, .int .i64 R.st.kids, .int .i64 R.st.own, .int .i64 R.st.len, .int .i64 R.st.cnt], fun v w' => TDoV w0 b m room (500 + i + 1) P R v w'⟩) :: (82, .val _) :: (83, .val _) :: (84, .val _) :: (85, .val _) :: (86, .val _) :: (87, .val _) :: (88, .val _) :: (89, ⟨fun v => ∃ a c, v = .agg #[.int .i64 R.err, .string R.path, .string R.data, .slice a R.names.length c, .int .i64 R.st.made, .int .i64 R.st.chg, .int .i64 R.st.ver, .int .i64 R.st.kids, .int .i64 R.st.own, .int .i64 R.st.len, .int .i64 R.st.cnt], fun v w' => RDoV w0.heap.size g room L R v w'⟩) :: (90, .val _) :: (10, .val _) :: (900, ⟨fun _ => True, fun _ w' => TS w0 w' b m room (500 + i) t⟩) :: (901, ⟨fun _ => True, fun _ w' => RefA w' w0.heap.size g room (.slice rva E.length rvc) E⟩) :: []) (by exact ⟨fun _ _ _ _ _ => trivial, ⟨fun _ _ _ _ _ => trivial, ⟨fun _ _ _ _ _ => trivial, ⟨fun _ _ _ _ _ => trivial, ⟨fun _ _ _ _ _ => trivial, ⟨fun _ _ _ _ _ => trivial, ⟨fun _ _ _ _ _ => trivial, ⟨fun _ _ _ hr hv => hv.ext hr, ⟨fun _ _ _ _ _ => trivial, ⟨fun _ _ _ _ _ => trivial, ⟨fun _ _ _ _ _ => trivial, ⟨fun _ _ _ _ _ => trivial, ⟨fun _ _ _ _ _ => trivial, ⟨fun _ _ _ _ _ => trivial, ⟨fun _ _ _ _ _ => trivial, ⟨fun _ _ _ hr hv => hv.ext hr, ⟨fun _ _ _ _ _ => trivial, ⟨fun _ _ _ _ _ => trivial, ⟨fun _ _ _ hr hv => TS.ext hv hr, ⟨fun _ _ _ hr hv => RefA.ext hv hr, trivial⟩⟩⟩⟩⟩⟩⟩⟩⟩⟩⟩⟩⟩⟩⟩⟩⟩⟩⟩⟩) (by exact ⟨⟨undef, HT2.out.ts.ext (Kp.refl (fun _ => False) _).drew⟩, ⟨⟨undef, HT2.out.rf.ext (Kp.refl (fun _ => False) _).drew⟩, trivial⟩⟩) (by kernel_rfl) (by kernel_rfl) (by kernel_rfl) ?_
              rotate_left 16
              simp only [List.take_succ_cons, List.take_zero]
              repeat (first
                | (refine Av.X.wpD_skipv ?_ ?_ ?_
                   focus rfl
                   focus rfl
                   simp only [Act.put, List.setIfInBounds_toArray, List.set_cons_succ, List.set_cons_zero])
                | (refine' Av.X.wpD_val (c := _) ?_ (fun w => Kp.refl _ w) ?_ (fun wq hwq hfz => ?_) ?_
                   rotate_left
                   focus rfl
                   focus rfl
                   focus (have hfq := hfz.at_; have hcq := hfz.use; (have hbq := HOW.out _ hwq; have d1 := hbq.cell 1 _ rfl; have d2 := hbq.cell 2 _ rfl; have d3 := hbq.cell 3 _ rfl; have d4 := hbq.cell 4 _ rfl; have d5 := hbq.cell 5 _ rfl; have d6 := hbq.cell 6 _ rfl; have d7 := hbq.cell 7 _ rfl; clear hbq); go_simp; first | done | rfl)
                   simp only [Act.put, List.setIfInBounds_toArray, List.set_cons_succ, List.set_cons_zero])
                | (refine' Av.X.wpD_con (c := _) ?_ ?_ (fun wq hwq hfz => ?_) ?_
                   rotate_left
                   focus rfl
                   focus rfl
                   focus (have hfq := hfz.at_; have hcq := hfz.use; (have hbq := HOW.out _ hwq; have d1 := hbq.cell 1 _ rfl; have d2 := hbq.cell 2 _ rfl; have d3 := hbq.cell 3 _ rfl; have d4 := hbq.cell 4 _ rfl; have d5 := hbq.cell 5 _ rfl; have d6 := hbq.cell 6 _ rfl; have d7 := hbq.cell 7 _ rfl; clear hbq); go_simp; (try (rw [dUpon_enter])); (have h81 : TDoV w0 b m room (500 + i + 1) P R (.agg #[.int .i64 R.err, .string R.path, .string R.data, .slice a81 R.names.length c81, .int .i64 R.st.made, .int .i64 R.st.chg, .int .i64 R.st.ver, .int .i64 R.st.kids, .int .i64 R.st.own, .int .i64 R.st.len, .int .i64 R.st.cnt]) wq := hfq 81 rfl; have h89 : RDoV w0.heap.size g room L R (.agg #[.int .i64 R.err, .string R.path, .string R.data, .slice a89 R.names.length c89, .int .i64 R.st.made, .int .i64 R.st.chg, .int .i64 R.st.ver, .int .i64 R.st.kids, .int .i64 R.st.own, .int .i64 R.st.len, .int .i64 R.st.cnt]) wq := hfq 89 rfl; refine (two_one h81.1 h89.1).mono ?_; rintro e w' ⟨rfl, hx⟩; exact DEnd.con hx))
                   simp only [Act.put, List.setIfInBounds_toArray, List.set_cons_succ, List.set_cons_zero])
                | (refine Av.X.wpD_used (A := fun v => ∃ a c, v = .agg #[.int .i64 R.err, .string R.path, .string R.data, .slice a R.names.length c, .int .i64 R.st.made, .int .i64 R.st.chg, .int .i64 R.st.ver, .int .i64 R.st.kids, .int .i64 R.st.own, .int .i64 R.st.len, .int .i64 R.st.cnt]) (V := fun v w' => TDoV w0 b m room (500 + i + 1) P R v w') 81 ?_ ?_ ?_ ?_ (fun wq hwq hfz => ?_) (fun v81 h81 => ?_)
                   focus rfl
                   focus rfl
                   focus (exact ⟨_, none, 0, rfl⟩)
                   focus rfl
                   focus (have hfq := hfz.at_; have hcq := hfz.use; (have hbq := HOW.out _ hwq; have d1 := hbq.cell 1 _ rfl; have d2 := hbq.cell 2 _ rfl; have d3 := hbq.cell 3 _ rfl; have d4 := hbq.cell 4 _ rfl; have d5 := hbq.cell 5 _ rfl; have d6 := hbq.cell 6 _ rfl; have d7 := hbq.cell 7 _ rfl; clear hbq); go_simp; (try (rw [dUpon_enter])); have h900 : TS w0 wq b m room (500 + i) t := (hcq 900 rfl).elim (fun _ h => h); (with_reducible refine (HDT.out _ h900).mono ?_); rintro e w' ⟨a, c, rfl, hV, hk⟩; refine ⟨_, rfl, ⟨a, c, rfl⟩, hV, hk.mono (fun i _ e => .inr (.inl e)), ?_⟩; repeat (first | exact PresL.nil | (with_reducible refine PresL.val ?_) | (refine PresL.out rfl ?_) | (refine PresL.keep (fun z h => RefA.offTree h900 h hk) ?_)))
                   obtain ⟨a81, c81, rfl⟩ := h81
                   simp only [Act.put, List.setIfInBounds_toArray, List.set_cons_succ, List.set_cons_zero])
                | (refine Av.X.wpD_used (A := fun v => ∃ a c, v = .agg #[.int .i64 R.err, .string R.path, .string R.data, .slice a R.names.length c, .int .i64 R.st.made, .int .i64 R.st.chg, .int .i64 R.st.ver, .int .i64 R.st.kids, .int .i64 R.st.own, .int .i64 R.st.len, .int .i64 R.st.cnt]) (V := fun v w' => RDoV w0.heap.size g room L R v w') 89 ?_ ?_ ?_ ?_ (fun wq hwq hfz => ?_) (fun v89 h89 => ?_)
                   focus rfl
                   focus rfl
                   focus (exact ⟨_, none, 0, rfl⟩)
                   focus rfl
                   focus (have hfq := hfz.at_; have hcq := hfz.use; (have hbq := HOW.out _ hwq; have d1 := hbq.cell 1 _ rfl; have d2 := hbq.cell 2 _ rfl; have d3 := hbq.cell 3 _ rfl; have d4 := hbq.cell 4 _ rfl; have d5 := hbq.cell 5 _ rfl; have d6 := hbq.cell 6 _ rfl; have d7 := hbq.cell 7 _ rfl; clear hbq); go_simp; (try (rw [dUpon_enter])); have h901 : RefA wq w0.heap.size g room (.slice rva E.length rvc) E := (hcq 901 rfl).elim (fun _ h => h); (with_reducible refine (HDR.out _ h901).mono ?_); rintro e w' ⟨a, c, rfl, hV, hk⟩; refine ⟨_, rfl, ⟨a, c, rfl⟩, hV, hk.mono (fun i _ e => .inr (.inr e)), ?_⟩; repeat (first | exact PresL.nil | (with_reducible refine PresL.val ?_) | (refine PresL.out rfl ?_) | (refine PresL.keep (fun z h => TDoV.off h (Nat.le_refl _) h901 hk) ?_)))
                   obtain ⟨a89, c89, rfl⟩ := h89
                   simp only [Act.put, List.setIfInBounds_toArray, List.set_cons_succ, List.set_cons_zero])
                | fail)
              refine Av.X.wpD_nil ?_
              intro w3 hw3 hend
              refine wpList_nil ?_
              have h81 : TDoV w0 b m room (500 + i + 1) P R (.agg #[.int .i64 R.err, .string R.path, .string R.data, .slice a81 R.names.length c81, .int .i64 R.st.made, .int .i64 R.st.chg, .int .i64 R.st.ver, .int .i64 R.st.kids, .int .i64 R.st.own, .int .i64 R.st.len, .int .i64 R.st.cnt]) w3 := hend 81 (by kernel_rfl)
              have h89 : RDoV w0.heap.size g room L R (.agg #[.int .i64 R.err, .string R.path, .string R.data, .slice a89 R.names.length c89, .int .i64 R.st.made, .int .i64 R.st.chg, .int .i64 R.st.ver, .int .i64 R.st.kids, .int .i64 R.st.own, .int .i64 R.st.len, .int .i64 R.st.cnt]) w3 := hend 89 (by kernel_rfl)
              clear hend
              obtain ⟨_, t3, ht3, hp3⟩ := h81
              obtain ⟨_, v3, E3, hr3, hl3⟩ := h89
              have HT3 : Hid (Two w0 w3 room b m g (500 + (i + 1)) t3 v3 E3) := ⟨ht3, hr3, by rw [hl3, hp3]; exact HSP.out.1, by rw [hp3]; exact HSP.out.2⟩
              have HB3 := Lib.hid (HOW.out _ hw3)
              clear hw3 ht3 hp3 hr3 hl3 HDT HDR HSP HOW hps hds
              as_aux_lemma =>
              obtain ⟨va3, vc3, rfl⟩ := owns_slice HT3.out.rf.ents.row
              have HLEN := Lib.hid (fun W (hW : Ext w3 W) => two_len HT3.out W hW)
              have HOWN := Lib.hid (fun W (hW : Ext w3 W) => two_own HT3.out (by omega) (by omega) W hW)
              have HOF1 := Lib.hid (fun W (hW : Ext w3 W) => two_of HT3.out (by omega) sess W hW)
              have HOF2 := Lib.hid (fun W (hW : Ext w3 W) => two_ofr HT3.out (by omega) sess W hW)
              have hneq : ((E3.length : Int) != (E3.length : Int)) = false := by simp
              go_upto_region 22 with (fail)
              refine' wp_region_dag0 ((111, .val _) :: (112, .val _) :: (113, .val _) :: (114, .val _) :: (115, .val _) :: (116, .val _) :: (117, .val _) :: (118, .val _) :: (119, .val _) :: (120, .val _) :: (121, .val _) :: (122, .val _) :: (123, .val _) :: (124, .val _) :: (125, .val _) :: (126, ⟨fun v => ∃ q, v = .pointer (some ⟨q, 0, none⟩), fun v w' => ∃ q, v = .pointer (some ⟨q, 0, none⟩) ∧ RefT w' 0 q room (entL E3)⟩) :: (127, .val _) :: (128, .val _) :: (129, .val _) :: (130, .val _) :: (131, .val _) :: (132, .val _) :: (133, .val _) :: (134, .val _) :: (135, ⟨fun v => ∃ a c, v = .slice a (ofR E3 sess).length c, fun v w' => NmO w' v (ofR E3 sess)⟩) :: (136, .val _) :: (137, .val _) :: (138, .val _) :: (139, ⟨fun v => ∃ a c, v = .slice a (ofR E3 sess).length c, fun v w' => NmO w' v (ofR E3 sess)⟩) :: (140, .val _) :: (141, .val _) :: (142, .val _) :: []) (by exact ⟨fun _ _ _ _ _ => trivial, ⟨fun _ _ _ _ _ => trivial, ⟨fun _ _ _ _ _ => trivial, ⟨fun _ _ _ _ _ => trivial, ⟨fun _ _ _ _ _ => trivial, ⟨fun _ _ _ _ _ => trivial, ⟨fun _ _ _ _ _ => trivial, ⟨fun _ _ _ _ _ => trivial, ⟨fun _ _ _ _ _ => trivial, ⟨fun _ _ _ _ _ => trivial, ⟨fun _ _ _ _ _ => trivial, ⟨fun _ _ _ _ _ => trivial, ⟨fun _ _ _ _ _ => trivial, ⟨fun _ _ _ _ _ => trivial, ⟨fun _ _ _ _ _ => trivial, ⟨fun _ _ _ hr ⟨q, h1, h2⟩ => ⟨q, h1, h2.ext hr⟩, ⟨fun _ _ _ _ _ => trivial, ⟨fun _ _ _ _ _ => trivial, ⟨fun _ _ _ _ _ => trivial, ⟨fun _ _ _ _ _ => trivial, ⟨fun _ _ _ _ _ => trivial, ⟨fun _ _ _ _ _ => trivial, ⟨fun _ _ _ _ _ => trivial, ⟨fun _ _ _ _ _ => trivial, ⟨fun _ _ _ hr hv => ownsRow.ext hv hr, ⟨fun _ _ _ _ _ => trivial, ⟨fun _ _ _ _ _ => trivial, ⟨fun _ _ _ _ _ => trivial, ⟨fun _ _ _ hr hv => ownsRow.ext hv hr, ⟨fun _ _ _ _ _ => trivial, ⟨fun _ _ _ _ _ => trivial, ⟨fun _ _ _ _ _ => trivial, trivial⟩⟩⟩⟩⟩⟩⟩⟩⟩⟩⟩⟩⟩⟩⟩⟩⟩⟩⟩⟩⟩⟩⟩⟩⟩⟩⟩⟩⟩⟩⟩⟩) (by kernel_rfl) (by kernel_rfl) (by kernel_rfl) ?_
              rotate_left 29
              repeat (first
                | (refine wpD_skipv ?_ ?_ ?_
                   focus rfl
                   focus rfl
                   simp only [Act.put, List.setIfInBounds_toArray, List.set_cons_succ, List.set_cons_zero])
                | (refine' wpD_val (c := _) ?_ (fun w => Kp.refl _ w) ?_ (fun wq hwq hfq => ?_) ?_
                   rotate_left
                   focus rfl
                   focus rfl
                   focus ((have hbq := HB3.out.kp hwq (fun f => f); have d6 := hbq.cell 6 _ rfl; have c1 := (HT3.out.rf.blk.kp hwq (fun f => f)).cell 1 _ rfl; clear hbq); go_simp; first | done | rfl)
                   simp only [Act.put, List.setIfInBounds_toArray, List.set_cons_succ, List.set_cons_zero])
                | (refine' wpD_con (c := _) ?_ ?_ (fun wq hwq hfq => ?_) ?_
                   rotate_left
                   focus rfl
                   focus rfl
                   focus ((have hbq := HB3.out.kp hwq (fun f => f); have d6 := hbq.cell 6 _ rfl; have c1 := (HT3.out.rf.blk.kp hwq (fun f => f)).cell 1 _ rfl; clear hbq); go_simp; (try (rw [dUpon_enter])); (first | (refine (HLEN.out _ hwq).mono ?_; rintro e w' ⟨rfl, hx⟩; exact DEnd.con hx) | (have h126 : ∃ q, Value.pointer (some ⟨q126, 0, none⟩) = .pointer (some ⟨q, 0, none⟩) ∧ RefT wq 0 q room (entL E3) := hfq 126 rfl; obtain ⟨q, hq1, hq2⟩ := h126; simp only [Value.pointer.injEq, Option.some.injEq, Addr.mk.injEq, and_true] at hq1; subst hq1; refine (two_same HT3.out hwq hq2).mono ?_; rintro e w' ⟨rfl, hx⟩; exact DEnd.con hx) | (have h135 : NmO wq (.slice a135 (ofR E3 sess).length c135) (ofR E3 sess) := hfq 135 rfl; have h139 : NmO wq (.slice a139 (ofR E3 sess).length c139) (ofR E3 sess) := hfq 139 rfl; refine (two_names h135 h139).mono ?_; rintro e w' ⟨rfl, hx⟩; exact DEnd.con hx)))
                   simp only [Act.put, List.setIfInBounds_toArray, List.set_cons_succ, List.set_cons_zero])
                | (refine wpD_made (A := fun v => ∃ q, v = .pointer (some ⟨q, 0, none⟩)) (V := fun v w' => ∃ q, v = .pointer (some ⟨q, 0, none⟩) ∧ RefT w' 0 q room (entL E3)) 126 ?_ ?_ ?_ ?_ (fun wq hwq hfq => ?_) (fun v126 h126 => ?_)
                   focus rfl
                   focus rfl
                   focus (exact ⟨.pointer (some ⟨0, 0, none⟩), 0, rfl⟩)
                   focus rfl
                   focus ((have hbq := HB3.out.kp hwq (fun f => f); have d6 := hbq.cell 6 _ rfl; have c1 := (HT3.out.rf.blk.kp hwq (fun f => f)).cell 1 _ rfl; clear hbq); go_simp; (try (rw [dUpon_enter])); (refine (HOWN.out _ hwq).mono ?_); rintro e w' ⟨q, rfl, h, hx⟩; exact DEnd.made ⟨q, rfl⟩ ⟨q, rfl, h⟩ hx)
                   obtain ⟨q126, rfl⟩ := h126
                   simp only [Act.put, List.setIfInBounds_toArray, List.set_cons_succ, List.set_cons_zero])
                | (refine wpD_made (A := fun v => ∃ a c, v = .slice a (ofR E3 sess).length c) (V := fun v w' => NmO w' v (ofR E3 sess)) 135 ?_ ?_ ?_ ?_ (fun wq hwq hfq => ?_) (fun v135 h135 => ?_)
                   focus rfl
                   focus rfl
                   focus (exact ⟨.slice none (ofR E3 sess).length 0, none, 0, rfl⟩)
                   focus rfl
                   focus ((have hbq := HB3.out.kp hwq (fun f => f); have d6 := hbq.cell 6 _ rfl; have c1 := (HT3.out.rf.blk.kp hwq (fun f => f)).cell 1 _ rfl; clear hbq); go_simp; (try (rw [dUpon_enter])); (refine (HOF1.out _ hwq).mono ?_); (rintro e w' ⟨u, rfl, hu, hx⟩; obtain ⟨a, c, rfl⟩ := owns_slice hu; exact DEnd.made ⟨a, c, rfl⟩ hu hx))
                   obtain ⟨a135, c135, rfl⟩ := h135
                   simp only [Act.put, List.setIfInBounds_toArray, List.set_cons_succ, List.set_cons_zero])
                | (refine wpD_made (A := fun v => ∃ a c, v = .slice a (ofR E3 sess).length c) (V := fun v w' => NmO w' v (ofR E3 sess)) 139 ?_ ?_ ?_ ?_ (fun wq hwq hfq => ?_) (fun v139 h139 => ?_)
                   focus rfl
                   focus rfl
                   focus (exact ⟨.slice none (ofR E3 sess).length 0, none, 0, rfl⟩)
                   focus rfl
                   focus ((have hbq := HB3.out.kp hwq (fun f => f); have d6 := hbq.cell 6 _ rfl; have c1 := (HT3.out.rf.blk.kp hwq (fun f => f)).cell 1 _ rfl; clear hbq); go_simp; (try (rw [dUpon_enter])); (refine (HOF2.out _ hwq).mono ?_); (rintro e w' ⟨u, rfl, hu, hx⟩; obtain ⟨a, c, rfl⟩ := owns_slice hu; exact DEnd.made ⟨a, c, rfl⟩ hu hx))
                   obtain ⟨a139, c139, rfl⟩ := h139
                   simp only [Act.put, List.setIfInBounds_toArray, List.set_cons_succ, List.set_cons_zero])
                | fail)
              refine wpD_nil ?_
              intro w9 hx9 hend
              clear hend
              have HT9 := Lib.hid (HT3.out.ext hx9)
              clear hx9 HLEN HOWN HOF1 HOF2 hneq
              go_wp2_with (fail)
              go_light
              refine ⟨⟨i + 1, _, _, _, ?_, ?_, HT9.out⟩, ?_⟩
              · omega
              · go_num
              · simp [intOf]; omega
            · have o0' : (op == 0) = false := by simpa using o0
              by_cases o1 : op = 1
              · subst o1
                as_aux_lemma =>
                obtain ⟨R, hPR⟩ : ∃ R, doP room (pl t) ⟨k, p, d, ver, f⟩ sess z true = (pl t, R) := ⟨_, Prod.ext (doP_try _ _ _ _ _) rfl⟩
                obtain ⟨L, hL⟩ : ∃ L, (doL room (entL E) ⟨k, p, d, ver, f⟩ sess z).1 = L := ⟨_, rfl⟩
                have hLP := doL_doP (room := room) HT2.out.srt HT2.out.ts.pk.1 ⟨k, p, d, ver, f⟩ sess z
                have hLR : doL room (entL E) ⟨k, p, d, ver, f⟩ sess z = (L, R) := Prod.ext hL (by rw [hLP.1, doP_only, hPR])
                have hps : p.size ≤ 1000000 := by have := HLT.out.path; simp only at this; omega
                have hds : d.size ≤ 1000000 := by have := HLT.out.data; simp only at this; omega
                have HDT := Lib.hid (fun W h => two_tdo (W := W) (K := 500 + i) (t := t) (b := b) (m := m) HG0.out (by omega) ⟨k, p, d, ver, f⟩ sess z true hps hds hPR h)
                have HDR := Lib.hid (fun W q v2 h => two_rdo (W := W) (base := w2.heap.size) (g := q) (v := v2) HT2.out.rise (entsK_of HT2.out.srt HT2.out.ts.pk (by omega)) (by have := HT2.out.few (by omega); omega) ⟨k, p, d, ver, f⟩ sess z hps hds hLR h)
                have HEL : Hid (E.length ≤ 100000) := by show _ ≤ _; have := HT2.out.few (by omega); omega
                have HRF : Hid (∀ W, Kp (fun i => w2.heap.size ≤ i ∨ nodeFr m t i) w2 W → RefA W w0.heap.size g room (.slice rva E.length rvc) E) := fun W hW => HT2.out.rf.kpT hW (noT_new (HT2.out.ts.tr.noT (by decide))) (noT_new (HT2.out.ts.tr.noT (by decide))) (noT_new (HT2.out.ts.tr.noT (by decide)))
                have HOW1 : Hid (∀ W, Kp (fun i => w2.heap.size ≤ i ∨ nodeFr m t i) w2 W → Blk W wr.heap.size #[.int .i64 1, .int .i64 k, .string p, .string d, .int .i64 ver, .int .i64 f, .int .i64 sess, .int .i64 z, .int .i64 n.made, .int .i64 n.chg, .int .i64 n.ver, .int .i64 n.kids, .int .i64 n.own, .int .i64 n.len, .int .i64 n.cnt, .string n.data, .int .i64 n.next, .slice na n.names.length nc] 40) := fun W hW => HOW.out W (hW.mono fun i _ e => e.elim .inl (fun e => .inr (.inl e)))
                have HCP := Lib.hid (fun W hW => copy_ref w0.heap.size g room (.slice rva E.length rvc) E W (HRF.out W hW) HEL.out)
                have HGL2 : Hid (w0.heap.size ≤ w2.heap.size) := HT2.out.ts.ex.size
                unfold rsC at HDT HDR
                simp only [↓reduceIte] at HDT
                clear hL hLP hLR hPR
                go_upto_region 21 with (fail)
                clear c0
                refine' Av.X.wp_region_dagG (fun i => nodeFr m t i) 19 [(100, [900], [102]), (109, [102], [])] [900] ((93, .val _) :: (94, .val _) :: (95, .val _) :: (96, .val _) :: (97, .val _) :: (98, .val _) :: (99, .val _) :: (100, ⟨fun v => ∃ a c, v = .agg #[.int .i64 R.err, .string R.path, .string R.data, .slice a R.names.length c, .int .i64 R.st.made, .int .i64 R.st.chg, .int .i64 R.st.ver, .int .i64 R.st.kids, .int .i64 R.st.own, .int .i64 R.st.len, .int .i64 R.st.cnt], fun v w' => TDoV w0 b m room (500 + i + 1) (pl t) R v w'⟩) :: (101, .val _) :: (102, ⟨fun v => ∃ q, v = .pointer (some ⟨q, 0, none⟩), fun v w' => CpyV w2.heap.size room E v w'⟩) :: (103, .val _) :: (104, .val _) :: (105, .val _) :: (106, .val _) :: (107, .val _) :: (108, .val _) :: (109, ⟨fun v => ∃ a c, v = .agg #[.int .i64 R.err, .string R.path, .string R.data, .slice a R.names.length c, .int .i64 R.st.made, .int .i64 R.st.chg, .int .i64 R.st.ver, .int .i64 R.st.kids, .int .i64 R.st.own, .int .i64 R.st.len, .int .i64 R.st.cnt], fun v w' => ResV2 R v w'⟩) :: (110, .val _) :: (10, .val _) :: (900, ⟨fun _ => True, fun _ w' => TS w0 w' b m room (500 + i) t⟩) :: []) (by exact ⟨fun _ _ _ _ _ => trivial, ⟨fun _ _ _ _ _ => trivial, ⟨fun _ _ _ _ _ => trivial, ⟨fun _ _ _ _ _ => trivial, ⟨fun _ _ _ _ _ => trivial, ⟨fun _ _ _ _ _ => trivial, ⟨fun _ _ _ _ _ => trivial, ⟨fun _ _ _ hr hv => hv.ext hr, ⟨fun _ _ _ _ _ => trivial, ⟨fun _ _ _ hr hv => hv.ext hr, ⟨fun _ _ _ _ _ => trivial, ⟨fun _ _ _ _ _ => trivial, ⟨fun _ _ _ _ _ => trivial, ⟨fun _ _ _ _ _ => trivial, ⟨fun _ _ _ _ _ => trivial, ⟨fun _ _ _ _ _ => trivial, ⟨fun _ _ _ hr hv => hv.ext hr, ⟨fun _ _ _ _ _ => trivial, ⟨fun _ _ _ _ _ => trivial, ⟨fun _ _ _ hr hv => TS.ext hv hr, trivial⟩⟩⟩⟩⟩⟩⟩⟩⟩⟩⟩⟩⟩⟩⟩⟩⟩⟩⟩⟩) (by exact ⟨⟨undef, HT2.out.ts.ext (Kp.refl (fun _ => False) _).drew⟩, trivial⟩) (by kernel_rfl) (by kernel_rfl) (by kernel_rfl) ?_
                rotate_left 16
                simp only [List.take_succ_cons, List.take_zero]
                repeat (first
                  | (refine Av.X.wpD_skipv ?_ ?_ ?_
                     focus rfl
                     focus rfl
                     simp only [Act.put, List.setIfInBounds_toArray, List.set_cons_succ, List.set_cons_zero])
                  | (refine' Av.X.wpD_val (c := _) ?_ (fun w => Kp.refl _ w) ?_ (fun wq hwq hfz => ?_) ?_
                     rotate_left
                     focus rfl
                     focus rfl
                     focus (have hfq := hfz.at_; have hcq := hfz.use; (have hbq := HOW1.out _ hwq; have d1 := hbq.cell 1 _ rfl; have d2 := hbq.cell 2 _ rfl; have d3 := hbq.cell 3 _ rfl; have d4 := hbq.cell 4 _ rfl; have d5 := hbq.cell 5 _ rfl; have d6 := hbq.cell 6 _ rfl; have d7 := hbq.cell 7 _ rfl; clear hbq); go_simp; first | done | rfl)
                     simp only [Act.put, List.setIfInBounds_toArray, List.set_cons_succ, List.set_cons_zero])
                  | (refine' Av.X.wpD_con (c := _) ?_ ?_ (fun wq hwq hfz => ?_) ?_
                     rotate_left
                     focus rfl
                     focus rfl
                     focus (have hfq := hfz.at_; have hcq := hfz.use; (have hbq := HOW1.out _ hwq; have d1 := hbq.cell 1 _ rfl; have d2 := hbq.cell 2 _ rfl; have d3 := hbq.cell 3 _ rfl; have d4 := hbq.cell 4 _ rfl; have d5 := hbq.cell 5 _ rfl; have d6 := hbq.cell 6 _ rfl; have d7 := hbq.cell 7 _ rfl; clear hbq); go_simp; (try (rw [dUpon_enter])); (have h100 : TDoV w0 b m room (500 + i + 1) (pl t) R (.agg #[.int .i64 R.err, .string R.path, .string R.data, .slice a100 R.names.length c100, .int .i64 R.st.made, .int .i64 R.st.chg, .int .i64 R.st.ver, .int .i64 R.st.kids, .int .i64 R.st.own, .int .i64 R.st.len, .int .i64 R.st.cnt]) wq := hfq 100 rfl; have h109 : ResV2 R (.agg #[.int .i64 R.err, .string R.path, .string R.data, .slice a109 R.names.length c109, .int .i64 R.st.made, .int .i64 R.st.chg, .int .i64 R.st.ver, .int .i64 R.st.kids, .int .i64 R.st.own, .int .i64 R.st.len, .int .i64 R.st.cnt]) wq := hfq 109 rfl; refine (two_one h100.1 h109).mono ?_; rintro e w' ⟨rfl, hx⟩; exact DEnd.con hx))
                     simp only [Act.put, List.setIfInBounds_toArray, List.set_cons_succ, List.set_cons_zero])
                  | (refine Av.X.wpD_used (A := fun v => ∃ a c, v = .agg #[.int .i64 R.err, .string R.path, .string R.data, .slice a R.names.length c, .int .i64 R.st.made, .int .i64 R.st.chg, .int .i64 R.st.ver, .int .i64 R.st.kids, .int .i64 R.st.own, .int .i64 R.st.len, .int .i64 R.st.cnt]) (V := fun v w' => TDoV w0 b m room (500 + i + 1) (pl t) R v w') 100 ?_ ?_ ?_ ?_ (fun wq hwq hfz => ?_) (fun v100 h100 => ?_)
                     focus rfl
                     focus rfl
                     focus (exact ⟨_, none, 0, rfl⟩)
                     focus rfl
                     focus (have hfq := hfz.at_; have hcq := hfz.use; (have hbq := HOW1.out _ hwq; have d1 := hbq.cell 1 _ rfl; have d2 := hbq.cell 2 _ rfl; have d3 := hbq.cell 3 _ rfl; have d4 := hbq.cell 4 _ rfl; have d5 := hbq.cell 5 _ rfl; have d6 := hbq.cell 6 _ rfl; have d7 := hbq.cell 7 _ rfl; clear hbq); go_simp; (try (rw [dUpon_enter])); have h900 : TS w0 wq b m room (500 + i) t := (hcq 900 rfl).elim (fun _ h => h); (with_reducible refine (HDT.out _ h900).mono ?_); rintro e w' ⟨a, c, rfl, hV, hk⟩; refine ⟨_, rfl, ⟨a, c, rfl⟩, hV, hk.mono (fun i _ e => .inr e), ?_⟩; repeat (first | exact PresL.nil | (with_reducible refine PresL.val ?_) | (refine PresL.out rfl ?_) | (refine PresL.keep (fun z h => ResV2.kpT h hk (h900.tr.noT (by decide))) ?_)))
                     obtain ⟨a100, c100, rfl⟩ := h100
                     simp only [Act.put, List.setIfInBounds_toArray, List.set_cons_succ, List.set_cons_zero])
                  | (refine Av.X.wpD_made (A := fun v => ∃ q, v = .pointer (some ⟨q, 0, none⟩)) (V := fun v w' => CpyV w2.heap.size room E v w') 102 ?_ ?_ ?_ ?_ (fun wq hwq hfz => ?_) (fun v102 h102 => ?_)
                     focus rfl
                     focus rfl
                     focus (exact ⟨_, 0, rfl⟩)
                     focus rfl
                     focus (have hfq := hfz.at_; have hcq := hfz.use; (have hbq := HOW1.out _ hwq; have d1 := hbq.cell 1 _ rfl; have d2 := hbq.cell 2 _ rfl; have d3 := hbq.cell 3 _ rfl; have d4 := hbq.cell 4 _ rfl; have d5 := hbq.cell 5 _ rfl; have d6 := hbq.cell 6 _ rfl; have d7 := hbq.cell 7 _ rfl; clear hbq); go_simp; (try (rw [dUpon_enter])); (refine (HCP.out _ hwq).mono ?_); rintro e w' ⟨q, v', rfl, hra, hx, _⟩; exact DEnd.made ⟨q, rfl⟩ ⟨q, v', rfl, hra.less hwq.size⟩ hx)
                     obtain ⟨q102, rfl⟩ := h102
                     simp only [Act.put, List.setIfInBounds_toArray, List.set_cons_succ, List.set_cons_zero])
                  | (refine Av.X.wpD_used (A := fun v => ∃ a c, v = .agg #[.int .i64 R.err, .string R.path, .string R.data, .slice a R.names.length c, .int .i64 R.st.made, .int .i64 R.st.chg, .int .i64 R.st.ver, .int .i64 R.st.kids, .int .i64 R.st.own, .int .i64 R.st.len, .int .i64 R.st.cnt]) (V := fun v w' => ResV2 R v w') 109 ?_ ?_ ?_ ?_ (fun wq hwq hfz => ?_) (fun v109 h109 => ?_)
                     focus rfl
                     focus rfl
                     focus (exact ⟨_, none, 0, rfl⟩)
                     focus rfl
                     focus (have hfq := hfz.at_; have hcq := hfz.use; (have hbq := HOW1.out _ hwq; have d1 := hbq.cell 1 _ rfl; have d2 := hbq.cell 2 _ rfl; have d3 := hbq.cell 3 _ rfl; have d4 := hbq.cell 4 _ rfl; have d5 := hbq.cell 5 _ rfl; have d6 := hbq.cell 6 _ rfl; have d7 := hbq.cell 7 _ rfl; clear hbq); go_simp; (try (rw [dUpon_enter])); have h102 : CpyV w2.heap.size room E (.pointer (some ⟨q102, 0, none⟩)) wq := hfq 102 rfl; obtain ⟨v2, h102⟩ := h102.open; (refine (HDR.out _ q102 v2 h102).mono ?_); rintro e w' ⟨a, c, rfl, ⟨hV, _⟩, hk⟩; refine ⟨_, rfl, ⟨a, c, rfl⟩, hV, hk.mono (fun i _ e => .inl (h102.lowFr i e)), ?_⟩; repeat (first | exact PresL.nil | (with_reducible refine PresL.val ?_) | (refine PresL.out rfl ?_) | (refine PresL.keep (fun z h => TDoV.off h HGL2.out h102 hk) ?_) | (refine PresL.keep (fun z h => TS.offRef h HGL2.out h102 hk) ?_)))
                     obtain ⟨a109, c109, rfl⟩ := h109
                     simp only [Act.put, List.setIfInBounds_toArray, List.set_cons_succ, List.set_cons_zero])
                  | fail)
                refine Av.X.wpD_nil ?_
                intro w3 hw3 hend
                refine wpList_nil ?_
                have h100 : TDoV w0 b m room (500 + i + 1) (pl t) R (.agg #[.int .i64 R.err, .string R.path, .string R.data, .slice a100 R.names.length c100, .int .i64 R.st.made, .int .i64 R.st.chg, .int .i64 R.st.ver, .int .i64 R.st.kids, .int .i64 R.st.own, .int .i64 R.st.len, .int .i64 R.st.cnt]) w3 := hend 100 (by kernel_rfl)
                clear hend
                obtain ⟨_, t3, ht3, hp3⟩ := h100
                obtain ⟨v3, E3, hr3, hl3⟩ : ∃ v3 E3, RefA w3 w0.heap.size g room v3 E3 ∧ entL E3 = entL E := ⟨_, _, HRF.out w3 hw3, rfl⟩
                have HT3 : Hid (Two w0 w3 room b m g (500 + (i + 1)) t3 v3 E3) := ⟨ht3, hr3, by rw [hl3, hp3]; exact HT2.out.srt, by rw [hp3]; exact HT2.out.good⟩
                have HB3 := Lib.hid (HOW1.out _ hw3)
                clear hw3 ht3 hp3 hr3 hl3 HDT HDR HOW HOW1 HRF HCP HEL hps hds
                as_aux_lemma =>
                obtain ⟨va3, vc3, rfl⟩ := owns_slice HT3.out.rf.ents.row
                have HLEN := Lib.hid (fun W (hW : Ext w3 W) => two_len HT3.out W hW)
                have HOWN := Lib.hid (fun W (hW : Ext w3 W) => two_own HT3.out (by omega) (by omega) W hW)
                have HOF1 := Lib.hid (fun W (hW : Ext w3 W) => two_of HT3.out (by omega) sess W hW)
                have HOF2 := Lib.hid (fun W (hW : Ext w3 W) => two_ofr HT3.out (by omega) sess W hW)
                have hneq : ((E3.length : Int) != (E3.length : Int)) = false := by simp
                go_upto_region 22 with (fail)
                refine' wp_region_dag0 ((111, .val _) :: (112, .val _) :: (113, .val _) :: (114, .val _) :: (115, .val _) :: (116, .val _) :: (117, .val _) :: (118, .val _) :: (119, .val _) :: (120, .val _) :: (121, .val _) :: (122, .val _) :: (123, .val _) :: (124, .val _) :: (125, .val _) :: (126, ⟨fun v => ∃ q, v = .pointer (some ⟨q, 0, none⟩), fun v w' => ∃ q, v = .pointer (some ⟨q, 0, none⟩) ∧ RefT w' 0 q room (entL E3)⟩) :: (127, .val _) :: (128, .val _) :: (129, .val _) :: (130, .val _) :: (131, .val _) :: (132, .val _) :: (133, .val _) :: (134, .val _) :: (135, ⟨fun v => ∃ a c, v = .slice a (ofR E3 sess).length c, fun v w' => NmO w' v (ofR E3 sess)⟩) :: (136, .val _) :: (137, .val _) :: (138, .val _) :: (139, ⟨fun v => ∃ a c, v = .slice a (ofR E3 sess).length c, fun v w' => NmO w' v (ofR E3 sess)⟩) :: (140, .val _) :: (141, .val _) :: (142, .val _) :: []) (by exact ⟨fun _ _ _ _ _ => trivial, ⟨fun _ _ _ _ _ => trivial, ⟨fun _ _ _ _ _ => trivial, ⟨fun _ _ _ _ _ => trivial, ⟨fun _ _ _ _ _ => trivial, ⟨fun _ _ _ _ _ => trivial, ⟨fun _ _ _ _ _ => trivial, ⟨fun _ _ _ _ _ => trivial, ⟨fun _ _ _ _ _ => trivial, ⟨fun _ _ _ _ _ => trivial, ⟨fun _ _ _ _ _ => trivial, ⟨fun _ _ _ _ _ => trivial, ⟨fun _ _ _ _ _ => trivial, ⟨fun _ _ _ _ _ => trivial, ⟨fun _ _ _ _ _ => trivial, ⟨fun _ _ _ hr ⟨q, h1, h2⟩ => ⟨q, h1, h2.ext hr⟩, ⟨fun _ _ _ _ _ => trivial, ⟨fun _ _ _ _ _ => trivial, ⟨fun _ _ _ _ _ => trivial, ⟨fun _ _ _ _ _ => trivial, ⟨fun _ _ _ _ _ => trivial, ⟨fun _ _ _ _ _ => trivial, ⟨fun _ _ _ _ _ => trivial, ⟨fun _ _ _ _ _ => trivial, ⟨fun _ _ _ hr hv => ownsRow.ext hv hr, ⟨fun _ _ _ _ _ => trivial, ⟨fun _ _ _ _ _ => trivial, ⟨fun _ _ _ _ _ => trivial, ⟨fun _ _ _ hr hv => ownsRow.ext hv hr, ⟨fun _ _ _ _ _ => trivial, ⟨fun _ _ _ _ _ => trivial, ⟨fun _ _ _ _ _ => trivial, trivial⟩⟩⟩⟩⟩⟩⟩⟩⟩⟩⟩⟩⟩⟩⟩⟩⟩⟩⟩⟩⟩⟩⟩⟩⟩⟩⟩⟩⟩⟩⟩⟩) (by kernel_rfl) (by kernel_rfl) (by kernel_rfl) ?_
                rotate_left 29
                repeat (first
                  | (refine wpD_skipv ?_ ?_ ?_
                     focus rfl
                     focus rfl
                     simp only [Act.put, List.setIfInBounds_toArray, List.set_cons_succ, List.set_cons_zero])
                  | (refine' wpD_val (c := _) ?_ (fun w => Kp.refl _ w) ?_ (fun wq hwq hfq => ?_) ?_
                     rotate_left
                     focus rfl
                     focus rfl
                     focus ((have hbq := HB3.out.kp hwq (fun f => f); have d6 := hbq.cell 6 _ rfl; have c1 := (HT3.out.rf.blk.kp hwq (fun f => f)).cell 1 _ rfl; clear hbq); go_simp; first | done | rfl)
                     simp only [Act.put, List.setIfInBounds_toArray, List.set_cons_succ, List.set_cons_zero])
                  | (refine' wpD_con (c := _) ?_ ?_ (fun wq hwq hfq => ?_) ?_
                     rotate_left
                     focus rfl
                     focus rfl
                     focus ((have hbq := HB3.out.kp hwq (fun f => f); have d6 := hbq.cell 6 _ rfl; have c1 := (HT3.out.rf.blk.kp hwq (fun f => f)).cell 1 _ rfl; clear hbq); go_simp; (try (rw [dUpon_enter])); (first | (refine (HLEN.out _ hwq).mono ?_; rintro e w' ⟨rfl, hx⟩; exact DEnd.con hx) | (have h126 : ∃ q, Value.pointer (some ⟨q126, 0, none⟩) = .pointer (some ⟨q, 0, none⟩) ∧ RefT wq 0 q room (entL E3) := hfq 126 rfl; obtain ⟨q, hq1, hq2⟩ := h126; simp only [Value.pointer.injEq, Option.some.injEq, Addr.mk.injEq, and_true] at hq1; subst hq1; refine (two_same HT3.out hwq hq2).mono ?_; rintro e w' ⟨rfl, hx⟩; exact DEnd.con hx) | (have h135 : NmO wq (.slice a135 (ofR E3 sess).length c135) (ofR E3 sess) := hfq 135 rfl; have h139 : NmO wq (.slice a139 (ofR E3 sess).length c139) (ofR E3 sess) := hfq 139 rfl; refine (two_names h135 h139).mono ?_; rintro e w' ⟨rfl, hx⟩; exact DEnd.con hx)))
                     simp only [Act.put, List.setIfInBounds_toArray, List.set_cons_succ, List.set_cons_zero])
                  | (refine wpD_made (A := fun v => ∃ q, v = .pointer (some ⟨q, 0, none⟩)) (V := fun v w' => ∃ q, v = .pointer (some ⟨q, 0, none⟩) ∧ RefT w' 0 q room (entL E3)) 126 ?_ ?_ ?_ ?_ (fun wq hwq hfq => ?_) (fun v126 h126 => ?_)
                     focus rfl
                     focus rfl
                     focus (exact ⟨.pointer (some ⟨0, 0, none⟩), 0, rfl⟩)
                     focus rfl
                     focus ((have hbq := HB3.out.kp hwq (fun f => f); have d6 := hbq.cell 6 _ rfl; have c1 := (HT3.out.rf.blk.kp hwq (fun f => f)).cell 1 _ rfl; clear hbq); go_simp; (try (rw [dUpon_enter])); (refine (HOWN.out _ hwq).mono ?_); rintro e w' ⟨q, rfl, h, hx⟩; exact DEnd.made ⟨q, rfl⟩ ⟨q, rfl, h⟩ hx)
                     obtain ⟨q126, rfl⟩ := h126
                     simp only [Act.put, List.setIfInBounds_toArray, List.set_cons_succ, List.set_cons_zero])
                  | (refine wpD_made (A := fun v => ∃ a c, v = .slice a (ofR E3 sess).length c) (V := fun v w' => NmO w' v (ofR E3 sess)) 135 ?_ ?_ ?_ ?_ (fun wq hwq hfq => ?_) (fun v135 h135 => ?_)
                     focus rfl
                     focus rfl
                     focus (exact ⟨.slice none (ofR E3 sess).length 0, none, 0, rfl⟩)
                     focus rfl
                     focus ((have hbq := HB3.out.kp hwq (fun f => f); have d6 := hbq.cell 6 _ rfl; have c1 := (HT3.out.rf.blk.kp hwq (fun f => f)).cell 1 _ rfl; clear hbq); go_simp; (try (rw [dUpon_enter])); (refine (HOF1.out _ hwq).mono ?_); (rintro e w' ⟨u, rfl, hu, hx⟩; obtain ⟨a, c, rfl⟩ := owns_slice hu; exact DEnd.made ⟨a, c, rfl⟩ hu hx))
                     obtain ⟨a135, c135, rfl⟩ := h135
                     simp only [Act.put, List.setIfInBounds_toArray, List.set_cons_succ, List.set_cons_zero])
                  | (refine wpD_made (A := fun v => ∃ a c, v = .slice a (ofR E3 sess).length c) (V := fun v w' => NmO w' v (ofR E3 sess)) 139 ?_ ?_ ?_ ?_ (fun wq hwq hfq => ?_) (fun v139 h139 => ?_)
                     focus rfl
                     focus rfl
                     focus (exact ⟨.slice none (ofR E3 sess).length 0, none, 0, rfl⟩)
                     focus rfl
                     focus ((have hbq := HB3.out.kp hwq (fun f => f); have d6 := hbq.cell 6 _ rfl; have c1 := (HT3.out.rf.blk.kp hwq (fun f => f)).cell 1 _ rfl; clear hbq); go_simp; (try (rw [dUpon_enter])); (refine (HOF2.out _ hwq).mono ?_); (rintro e w' ⟨u, rfl, hu, hx⟩; obtain ⟨a, c, rfl⟩ := owns_slice hu; exact DEnd.made ⟨a, c, rfl⟩ hu hx))
                     obtain ⟨a139, c139, rfl⟩ := h139
                     simp only [Act.put, List.setIfInBounds_toArray, List.set_cons_succ, List.set_cons_zero])
                  | fail)
                refine wpD_nil ?_
                intro w9 hx9 hend
                clear hend
                have HT9 := Lib.hid (HT3.out.ext hx9)
                clear hx9 HLEN HOWN HOF1 HOF2 hneq
                go_wp2_with (fail)
                go_light
                refine ⟨⟨i + 1, _, _, _, ?_, ?_, HT9.out⟩, ?_⟩
                · omega
                · go_num
                · simp [intOf]; omega
              · have o1' : (op == 1) = false := by simpa using o1
                as_aux_lemma =>
                have hn64 : minI ≤ n.ver ∧ minI ≤ n.kids ∧ minI ≤ n.next := ⟨HOKA.out.n64.1.1, HOKA.out.n64.2.1.1, HOKA.out.n64.2.2.1⟩
                have hps : p.size ≤ 1000000 := by have := HLT.out.path; simp only at this; omega
                have hfw : n.names.length ≤ 100000 := by have := HLT.out.few; simp only at this; omega
                have hsh : ∀ s ∈ n.names, s.length ≤ 1000000 := fun s hs => by have := HLT.out.short s hs; omega
                obtain ⟨r, hrr⟩ : ∃ r : Bool, r = true ↔ (goodL p.data.toList = true ∧ Named n.names) := by
                  rcases Classical.em (goodL p.data.toList = true ∧ Named n.names) with h | h
                  · exact ⟨true, by simp [h]⟩
                  · exact ⟨false, by simp [h]⟩
                have hls := load_sorted (room := room) HT2.out.srt (by rw [show (entL E).length = E.length from List.length_map _]; exact HT2.out.len) r p n
                have hgk := HT2.out.good.load (n := n) (fun h => (hrr.1 h).1)
                have HNW : Hid (∀ W, Kp (fun i => w2.heap.size ≤ i ∨ (nodeFr m t i ∨ refFr g (.slice rva E.length rvc) i)) w2 W → NmS W (.slice na n.names.length nc) n.names) := fun W hW => ⟨Sl.ext HOKA.out.names.1 (HEXT.out W hW), HOKA.out.names.2⟩
                have HLT2 := Lib.hid (fun W (hW : Kp (fun i => w2.heap.size ≤ i ∨ (nodeFr m t i ∨ refFr g (.slice rva E.length rvc) i)) w2 W) h => two_tload (W := W) (K := 500 + i) (t := t) (b := b) (m := m) (room := room) HG0.out (by omega) p n (.slice na n.names.length nc) r hps (HNW.out W hW) hfw hsh hn64 hrr h)
                have HLR2 := Lib.hid (fun W (hW : Kp (fun i => w2.heap.size ≤ i ∨ (nodeFr m t i ∨ refFr g (.slice rva E.length rvc) i)) w2 W) h => two_rload (W := W) (base := w0.heap.size) (g := g) (room := room) (v := .slice rva E.length rvc) (E := E) HT2.out.rise (by have := HT2.out.few (by omega); omega) p n (.slice na n.names.length nc) r hps (HNW.out W hW) hfw hsh hrr h)
                have HND := Lib.hid (fun W => nd_any n na n.names.length nc W)
                obtain ⟨P2, hP2⟩ : ∃ P2, (loadP r room (pl t) p n).1 = P2 := ⟨_, rfl⟩
                obtain ⟨z2, hz2⟩ : ∃ z2, (loadP r room (pl t) p n).2 = z2 := ⟨_, rfl⟩
                obtain ⟨L2, hL2⟩ : ∃ L2, (loadR r room (entL E) p n).1 = L2 := ⟨_, rfl⟩
                rw [hls.1] at HLR2
                rw [hL2, hP2] at hls
                rw [hP2] at hgk
                simp only [hP2, hz2] at HLT2
                simp only [hz2, hL2] at HLR2
                have HSP : Hid (SortedAs L2 P2 ∧ GoodK room P2) := ⟨hls.2, hgk⟩
                unfold ndA at HLT2 HLR2 HND
                clear hls hgk hP2 hz2 hL2 hrr
                go_upto_region 17 with (fail)
                clear c0
                refine' Av.X.wp_region_dagG (fun i => nodeFr m t i ∨ refFr g (.slice rva E.length rvc) i) 17 [(62, [900], []), (70, [901], [])] [900, 901] ((56, .val _) :: (57, .val _) :: (58, .val _) :: (59, .val _) :: (60, .val _) :: (61, .val _) :: (62, ⟨fun v => v = .int .i64 z2, fun v w' => TLdV w0 b m room (500 + i) P2 w'⟩) :: (63, .val _) :: (64, .val _) :: (65, .val _) :: (66, .val _) :: (67, .val _) :: (68, .val _) :: (69, .val _) :: (70, ⟨fun v => v = .int .i64 z2, fun v w' => RLdV w0.heap.size g room L2 w'⟩) :: (71, .val _) :: (10, .val _) :: (900, ⟨fun _ => True, fun _ w' => TS w0 w' b m room (500 + i) t⟩) :: (901, ⟨fun _ => True, fun _ w' => RefA w' w0.heap.size g room (.slice rva E.length rvc) E⟩) :: []) (by exact ⟨fun _ _ _ _ _ => trivial, ⟨fun _ _ _ _ _ => trivial, ⟨fun _ _ _ _ _ => trivial, ⟨fun _ _ _ _ _ => trivial, ⟨fun _ _ _ _ _ => trivial, ⟨fun _ _ _ _ _ => trivial, ⟨fun _ _ _ hr hv => hv.ext hr, ⟨fun _ _ _ _ _ => trivial, ⟨fun _ _ _ _ _ => trivial, ⟨fun _ _ _ _ _ => trivial, ⟨fun _ _ _ _ _ => trivial, ⟨fun _ _ _ _ _ => trivial, ⟨fun _ _ _ _ _ => trivial, ⟨fun _ _ _ _ _ => trivial, ⟨fun _ _ _ hr hv => hv.ext hr, ⟨fun _ _ _ _ _ => trivial, ⟨fun _ _ _ _ _ => trivial, ⟨fun _ _ _ hr hv => TS.ext hv hr, ⟨fun _ _ _ hr hv => RefA.ext hv hr, trivial⟩⟩⟩⟩⟩⟩⟩⟩⟩⟩⟩⟩⟩⟩⟩⟩⟩⟩⟩) (by exact ⟨⟨undef, HT2.out.ts.ext (Kp.refl (fun _ => False) _).drew⟩, ⟨⟨undef, HT2.out.rf.ext (Kp.refl (fun _ => False) _).drew⟩, trivial⟩⟩) (by kernel_rfl) (by kernel_rfl) (by kernel_rfl) ?_
                rotate_left 15
                simp only [List.take_succ_cons, List.take_zero]
                repeat (first
                  | (refine Av.X.wpD_skipv ?_ ?_ ?_
                     focus rfl
                     focus rfl
                     simp only [Act.put, List.setIfInBounds_toArray, List.set_cons_succ, List.set_cons_zero])
                  | (refine' Av.X.wpD_val (c := _) ?_ (fun w => Kp.refl _ w) ?_ (fun wq hwq hfz => ?_) ?_
                     rotate_left
                     focus rfl
                     focus rfl
                     focus (have hfq := hfz.at_; have hcq := hfz.use; (have hbq := HOW.out _ hwq; have d2 := hbq.cell 2 _ rfl; have d8 := hbq.cell 8 _ rfl; have d9 := hbq.cell 9 _ rfl; have d10 := hbq.cell 10 _ rfl; have d11 := hbq.cell 11 _ rfl; have d12 := hbq.cell 12 _ rfl; have d13 := hbq.cell 13 _ rfl; have d14 := hbq.cell 14 _ rfl; have d15 := hbq.cell 15 _ rfl; have d16 := hbq.cell 16 _ rfl; have d17 := hbq.cell 17 _ rfl; clear hbq); go_simp; first | done | rfl)
                     simp only [Act.put, List.setIfInBounds_toArray, List.set_cons_succ, List.set_cons_zero])
                  | (refine' Av.X.wpD_con (c := _) ?_ ?_ (fun wq hwq hfz => ?_) ?_
                     rotate_left
                     focus rfl
                     focus rfl
                     focus (have hfq := hfz.at_; have hcq := hfz.use; (have hbq := HOW.out _ hwq; have d2 := hbq.cell 2 _ rfl; have d8 := hbq.cell 8 _ rfl; have d9 := hbq.cell 9 _ rfl; have d10 := hbq.cell 10 _ rfl; have d11 := hbq.cell 11 _ rfl; have d12 := hbq.cell 12 _ rfl; have d13 := hbq.cell 13 _ rfl; have d14 := hbq.cell 14 _ rfl; have d15 := hbq.cell 15 _ rfl; have d16 := hbq.cell 16 _ rfl; have d17 := hbq.cell 17 _ rfl; clear hbq); go_simp; (try (rw [dUpon_enter])); (refine (HND.out _).mono ?_; rintro e w' ⟨rfl, hx⟩; exact DEnd.con hx))
                     simp only [Act.put, List.setIfInBounds_toArray, List.set_cons_succ, List.set_cons_zero])
                  | (refine Av.X.wpD_used (A := fun v => v = .int .i64 z2) (V := fun v w' => TLdV w0 b m room (500 + i) P2 w') 62 ?_ ?_ ?_ ?_ (fun wq hwq hfz => ?_) (fun v62 h62 => ?_)
                     focus rfl
                     focus rfl
                     focus (exact ⟨_, rfl⟩)
                     focus rfl
                     focus (have hfq := hfz.at_; have hcq := hfz.use; (have hbq := HOW.out _ hwq; have d2 := hbq.cell 2 _ rfl; have d8 := hbq.cell 8 _ rfl; have d9 := hbq.cell 9 _ rfl; have d10 := hbq.cell 10 _ rfl; have d11 := hbq.cell 11 _ rfl; have d12 := hbq.cell 12 _ rfl; have d13 := hbq.cell 13 _ rfl; have d14 := hbq.cell 14 _ rfl; have d15 := hbq.cell 15 _ rfl; have d16 := hbq.cell 16 _ rfl; have d17 := hbq.cell 17 _ rfl; clear hbq); go_simp; (try (rw [dUpon_enter])); have h900 : TS w0 wq b m room (500 + i) t := (hcq 900 rfl).elim (fun _ h => h); (refine (HLT2.out _ hwq h900).mono ?_); rintro e w' ⟨rfl, hV, hk⟩; refine ⟨_, rfl, rfl, hV, hk.mono (fun i _ e => .inr (.inl e)), ?_⟩; repeat (first | exact PresL.nil | (with_reducible refine PresL.val ?_) | (refine PresL.out rfl ?_) | (refine PresL.keep (fun z h => RefA.offTree h900 h hk) ?_) | (refine PresL.keep (fun z h => RLdV.offTree h h900 hk) ?_)))
                     subst h62
                     simp only [Act.put, List.setIfInBounds_toArray, List.set_cons_succ, List.set_cons_zero])
                  | (refine Av.X.wpD_used (A := fun v => v = .int .i64 z2) (V := fun v w' => RLdV w0.heap.size g room L2 w') 70 ?_ ?_ ?_ ?_ (fun wq hwq hfz => ?_) (fun v70 h70 => ?_)
                     focus rfl
                     focus rfl
                     focus (exact ⟨_, rfl⟩)
                     focus rfl
                     focus (have hfq := hfz.at_; have hcq := hfz.use; (have hbq := HOW.out _ hwq; have d2 := hbq.cell 2 _ rfl; have d8 := hbq.cell 8 _ rfl; have d9 := hbq.cell 9 _ rfl; have d10 := hbq.cell 10 _ rfl; have d11 := hbq.cell 11 _ rfl; have d12 := hbq.cell 12 _ rfl; have d13 := hbq.cell 13 _ rfl; have d14 := hbq.cell 14 _ rfl; have d15 := hbq.cell 15 _ rfl; have d16 := hbq.cell 16 _ rfl; have d17 := hbq.cell 17 _ rfl; clear hbq); go_simp; (try (rw [dUpon_enter])); have h901 : RefA wq w0.heap.size g room (.slice rva E.length rvc) E := (hcq 901 rfl).elim (fun _ h => h); (refine (HLR2.out _ hwq h901).mono ?_); rintro e w' ⟨rfl, hV, hk⟩; refine ⟨_, rfl, rfl, hV, hk.mono (fun i _ e => .inr (.inr e)), ?_⟩; repeat (first | exact PresL.nil | (with_reducible refine PresL.val ?_) | (refine PresL.out rfl ?_) | (refine PresL.keep (fun z h => TLdV.off h (Nat.le_refl _) h901 hk) ?_) | (refine PresL.keep (fun z h => TS.offRef h (Nat.le_refl _) h901 hk) ?_)))
                     subst h70
                     simp only [Act.put, List.setIfInBounds_toArray, List.set_cons_succ, List.set_cons_zero])
                  | fail)
                refine Av.X.wpD_nil ?_
                intro w3 hw3 hend
                refine wpList_nil ?_
                have h62 : TLdV w0 b m room (500 + i) P2 w3 := hend 62 (by kernel_rfl)
                have h70 : RLdV w0.heap.size g room L2 w3 := hend 70 (by kernel_rfl)
                clear hend
                obtain ⟨t3, ht3, hp3⟩ := h62
                obtain ⟨v3, E3, hr3, hl3⟩ := h70
                have HT3 : Hid (Two w0 w3 room b m g (500 + (i + 1)) t3 v3 E3) := ⟨⟨ht3.tr, ht3.pk.mono (by omega), ht3.ex⟩, hr3, by rw [hl3, hp3]; exact HSP.out.1, by rw [hp3]; exact HSP.out.2⟩
                have HB3 := Lib.hid (HOW.out _ hw3)
                clear hw3 ht3 hp3 hr3 hl3 HLT2 HLR2 HND HNW HSP HOW hps hfw hsh hn64
                as_aux_lemma =>
                obtain ⟨va3, vc3, rfl⟩ := owns_slice HT3.out.rf.ents.row
                have HLEN := Lib.hid (fun W (hW : Ext w3 W) => two_len HT3.out W hW)
                have HOWN := Lib.hid (fun W (hW : Ext w3 W) => two_own HT3.out (by omega) (by omega) W hW)
                have HOF1 := Lib.hid (fun W (hW : Ext w3 W) => two_of HT3.out (by omega) sess W hW)
                have HOF2 := Lib.hid (fun W (hW : Ext w3 W) => two_ofr HT3.out (by omega) sess W hW)
                have hneq : ((E3.length : Int) != (E3.length : Int)) = false := by simp
                go_upto_region 22 with (fail)
                refine' wp_region_dag0 ((111, .val _) :: (112, .val _) :: (113, .val _) :: (114, .val _) :: (115, .val _) :: (116, .val _) :: (117, .val _) :: (118, .val _) :: (119, .val _) :: (120, .val _) :: (121, .val _) :: (122, .val _) :: (123, .val _) :: (124, .val _) :: (125, .val _) :: (126, ⟨fun v => ∃ q, v = .pointer (some ⟨q, 0, none⟩), fun v w' => ∃ q, v = .pointer (some ⟨q, 0, none⟩) ∧ RefT w' 0 q room (entL E3)⟩) :: (127, .val _) :: (128, .val _) :: (129, .val _) :: (130, .val _) :: (131, .val _) :: (132, .val _) :: (133, .val _) :: (134, .val _) :: (135, ⟨fun v => ∃ a c, v = .slice a (ofR E3 sess).length c, fun v w' => NmO w' v (ofR E3 sess)⟩) :: (136, .val _) :: (137, .val _) :: (138, .val _) :: (139, ⟨fun v => ∃ a c, v = .slice a (ofR E3 sess).length c, fun v w' => NmO w' v (ofR E3 sess)⟩) :: (140, .val _) :: (141, .val _) :: (142, .val _) :: []) (by exact ⟨fun _ _ _ _ _ => trivial, ⟨fun _ _ _ _ _ => trivial, ⟨fun _ _ _ _ _ => trivial, ⟨fun _ _ _ _ _ => trivial, ⟨fun _ _ _ _ _ => trivial, ⟨fun _ _ _ _ _ => trivial, ⟨fun _ _ _ _ _ => trivial, ⟨fun _ _ _ _ _ => trivial, ⟨fun _ _ _ _ _ => trivial, ⟨fun _ _ _ _ _ => trivial, ⟨fun _ _ _ _ _ => trivial, ⟨fun _ _ _ _ _ => trivial, ⟨fun _ _ _ _ _ => trivial, ⟨fun _ _ _ _ _ => trivial, ⟨fun _ _ _ _ _ => trivial, ⟨fun _ _ _ hr ⟨q, h1, h2⟩ => ⟨q, h1, h2.ext hr⟩, ⟨fun _ _ _ _ _ => trivial, ⟨fun _ _ _ _ _ => trivial, ⟨fun _ _ _ _ _ => trivial, ⟨fun _ _ _ _ _ => trivial, ⟨fun _ _ _ _ _ => trivial, ⟨fun _ _ _ _ _ => trivial, ⟨fun _ _ _ _ _ => trivial, ⟨fun _ _ _ _ _ => trivial, ⟨fun _ _ _ hr hv => ownsRow.ext hv hr, ⟨fun _ _ _ _ _ => trivial, ⟨fun _ _ _ _ _ => trivial, ⟨fun _ _ _ _ _ => trivial, ⟨fun _ _ _ hr hv => ownsRow.ext hv hr, ⟨fun _ _ _ _ _ => trivial, ⟨fun _ _ _ _ _ => trivial, ⟨fun _ _ _ _ _ => trivial, trivial⟩⟩⟩⟩⟩⟩⟩⟩⟩⟩⟩⟩⟩⟩⟩⟩⟩⟩⟩⟩⟩⟩⟩⟩⟩⟩⟩⟩⟩⟩⟩⟩) (by kernel_rfl) (by kernel_rfl) (by kernel_rfl) ?_
                rotate_left 29
                repeat (first
                  | (refine wpD_skipv ?_ ?_ ?_
                     focus rfl
                     focus rfl
                     simp only [Act.put, List.setIfInBounds_toArray, List.set_cons_succ, List.set_cons_zero])
                  | (refine' wpD_val (c := _) ?_ (fun w => Kp.refl _ w) ?_ (fun wq hwq hfq => ?_) ?_
                     rotate_left
                     focus rfl
                     focus rfl
                     focus ((have hbq := HB3.out.kp hwq (fun f => f); have d6 := hbq.cell 6 _ rfl; have c1 := (HT3.out.rf.blk.kp hwq (fun f => f)).cell 1 _ rfl; clear hbq); go_simp; first | done | rfl)
                     simp only [Act.put, List.setIfInBounds_toArray, List.set_cons_succ, List.set_cons_zero])
                  | (refine' wpD_con (c := _) ?_ ?_ (fun wq hwq hfq => ?_) ?_
                     rotate_left
                     focus rfl
                     focus rfl
                     focus ((have hbq := HB3.out.kp hwq (fun f => f); have d6 := hbq.cell 6 _ rfl; have c1 := (HT3.out.rf.blk.kp hwq (fun f => f)).cell 1 _ rfl; clear hbq); go_simp; (try (rw [dUpon_enter])); (first | (refine (HLEN.out _ hwq).mono ?_; rintro e w' ⟨rfl, hx⟩; exact DEnd.con hx) | (have h126 : ∃ q, Value.pointer (some ⟨q126, 0, none⟩) = .pointer (some ⟨q, 0, none⟩) ∧ RefT wq 0 q room (entL E3) := hfq 126 rfl; obtain ⟨q, hq1, hq2⟩ := h126; simp only [Value.pointer.injEq, Option.some.injEq, Addr.mk.injEq, and_true] at hq1; subst hq1; refine (two_same HT3.out hwq hq2).mono ?_; rintro e w' ⟨rfl, hx⟩; exact DEnd.con hx) | (have h135 : NmO wq (.slice a135 (ofR E3 sess).length c135) (ofR E3 sess) := hfq 135 rfl; have h139 : NmO wq (.slice a139 (ofR E3 sess).length c139) (ofR E3 sess) := hfq 139 rfl; refine (two_names h135 h139).mono ?_; rintro e w' ⟨rfl, hx⟩; exact DEnd.con hx)))
                     simp only [Act.put, List.setIfInBounds_toArray, List.set_cons_succ, List.set_cons_zero])
                  | (refine wpD_made (A := fun v => ∃ q, v = .pointer (some ⟨q, 0, none⟩)) (V := fun v w' => ∃ q, v = .pointer (some ⟨q, 0, none⟩) ∧ RefT w' 0 q room (entL E3)) 126 ?_ ?_ ?_ ?_ (fun wq hwq hfq => ?_) (fun v126 h126 => ?_)
                     focus rfl
                     focus rfl
                     focus (exact ⟨.pointer (some ⟨0, 0, none⟩), 0, rfl⟩)
                     focus rfl
                     focus ((have hbq := HB3.out.kp hwq (fun f => f); have d6 := hbq.cell 6 _ rfl; have c1 := (HT3.out.rf.blk.kp hwq (fun f => f)).cell 1 _ rfl; clear hbq); go_simp; (try (rw [dUpon_enter])); (refine (HOWN.out _ hwq).mono ?_); rintro e w' ⟨q, rfl, h, hx⟩; exact DEnd.made ⟨q, rfl⟩ ⟨q, rfl, h⟩ hx)
                     obtain ⟨q126, rfl⟩ := h126
                     simp only [Act.put, List.setIfInBounds_toArray, List.set_cons_succ, List.set_cons_zero])
                  | (refine wpD_made (A := fun v => ∃ a c, v = .slice a (ofR E3 sess).length c) (V := fun v w' => NmO w' v (ofR E3 sess)) 135 ?_ ?_ ?_ ?_ (fun wq hwq hfq => ?_) (fun v135 h135 => ?_)
                     focus rfl
                     focus rfl
                     focus (exact ⟨.slice none (ofR E3 sess).length 0, none, 0, rfl⟩)
                     focus rfl
                     focus ((have hbq := HB3.out.kp hwq (fun f => f); have d6 := hbq.cell 6 _ rfl; have c1 := (HT3.out.rf.blk.kp hwq (fun f => f)).cell 1 _ rfl; clear hbq); go_simp; (try (rw [dUpon_enter])); (refine (HOF1.out _ hwq).mono ?_); (rintro e w' ⟨u, rfl, hu, hx⟩; obtain ⟨a, c, rfl⟩ := owns_slice hu; exact DEnd.made ⟨a, c, rfl⟩ hu hx))
                     obtain ⟨a135, c135, rfl⟩ := h135
                     simp only [Act.put, List.setIfInBounds_toArray, List.set_cons_succ, List.set_cons_zero])
                  | (refine wpD_made (A := fun v => ∃ a c, v = .slice a (ofR E3 sess).length c) (V := fun v w' => NmO w' v (ofR E3 sess)) 139 ?_ ?_ ?_ ?_ (fun wq hwq hfq => ?_) (fun v139 h139 => ?_)
                     focus rfl
                     focus rfl
                     focus (exact ⟨.slice none (ofR E3 sess).length 0, none, 0, rfl⟩)
                     focus rfl
                     focus ((have hbq := HB3.out.kp hwq (fun f => f); have d6 := hbq.cell 6 _ rfl; have c1 := (HT3.out.rf.blk.kp hwq (fun f => f)).cell 1 _ rfl; clear hbq); go_simp; (try (rw [dUpon_enter])); (refine (HOF2.out _ hwq).mono ?_); (rintro e w' ⟨u, rfl, hu, hx⟩; obtain ⟨a, c, rfl⟩ := owns_slice hu; exact DEnd.made ⟨a, c, rfl⟩ hu hx))
                     obtain ⟨a139, c139, rfl⟩ := h139
                     simp only [Act.put, List.setIfInBounds_toArray, List.set_cons_succ, List.set_cons_zero])
                  | fail)
                refine wpD_nil ?_
                intro w9 hx9 hend
                clear hend
                have HT9 := Lib.hid (HT3.out.ext hx9)
                clear hx9 HLEN HOWN HOF1 HOF2 hneq
                go_wp2_with (fail)
                go_light
                refine ⟨⟨i + 1, _, _, _, ?_, ?_, HT9.out⟩, ?_⟩
                · omega
                · go_num
                · simp [intOf]; omega
        · have hltI : ¬ (i : Int) < (xs.length : Int) := by omega
          have hxr := Lib.hid (HX0.out.trans HT.out.ts.ex)
          go_wp2_with (fail)
          go_ret
          exact ⟨rfl, hxr.out⟩
    · have b1' : (60 : Int) < (xs.length : Int) := by omega
      go_wp2_with (fail)
      refine (tsNew room w0 w0 (Kp.refl _ _) (by omega) (by omega)).mono ?_
      rintro e w1 ⟨b, m, rfl, _, hx1, _, _⟩
      have HX1 := Lib.hid (HX0.out.trans hx1)
      clear hx1
      go_wp2_with (fail)
      go_ret
      exact ⟨rfl, HX1.out⟩
end Go.Proofs.YtdagikbdpeblhaaGreatDoor
