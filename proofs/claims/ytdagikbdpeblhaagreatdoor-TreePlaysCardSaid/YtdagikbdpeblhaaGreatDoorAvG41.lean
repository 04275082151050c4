/- Texts put together: AvRefU, AvRefV, AvLaw11A, AvCopy. -/
import Derived.Test.YtdagikbdpeblhaaGreatDoorAvG40
import Derived.Test.YtdagikbdpeblhaaGreatDoorAvG27
import Derived.Test.YtdagikbdpeblhaaGreatDoorAvG21
import Derived.Test.YtdagikbdpeblhaaGreatDoorAvG2
import Derived.Deep.MidRow
import Derived.Deep.WholeRow

/- A tree and the reference's, side by side: what the calls on one leave of the other. -/
namespace Go.Proofs.YtdagikbdpeblhaaGreatDoor
set_option maxRecDepth 100000
open Go.RowKit Av

theorem NmO.kpS {S : Nat → Prop} {w w' : World} {v : Value} {l : List Bs} (h : NmO w v l) (k : Kp S w w') (hs : NoT w S strT) : NmO w' v l := owns_kpT h k hs
theorem RefA.kpT {S : Nat → Prop} {w w' : World} {base g : Nat} {room : Int} {v : Value} {E : List Ent} (h : RefA w base g room v E) (k : Kp S w w') (h1 : NoT w S strT) (h2 : NoT w S entT) (h3 : NoT w S rtT) : RefA w' base g room v E := ⟨h.low, h.blk.kp k (fun hs => h3 g hs _ _ h.blk), h.ents.kp k h1 h2⟩
/-- What the reference's calls write. -/
def refFr (g : Nat) (v : Value) (i : Nat) : Prop := i = g ∨ v.ownBlock = some i
theorem RefA.noT {w : World} {base g : Nat} {room : Int} {v : Value} {E : List Ent} (h : RefA w base g room v E) {T : TypeId} (h1 : T ≠ rtT) (h2 : T ≠ entT) : NoT w (refFr g v) T := fun i hi cur f hc => by
  rcases hi with rfl | hi
  · have h3 : w.heap[i]? = some (.cells _ rtT (0, 0)) := h.blk
    rw [h3] at hc
    simp only [Option.some.injEq, Obj.cells.injEq] at hc
    exact h1 hc.2.1.symm
  · obtain ⟨cur', f', h3⟩ := own_type h.ents.row hi
    rw [h3] at hc
    simp only [Option.some.injEq, Obj.cells.injEq] at hc
    exact h2 hc.2.1.symm
theorem RefA.lowFr {w : World} {base g : Nat} {room : Int} {v : Value} {E : List Ent} (h : RefA w base g room v E) : ∀ i, refFr g v i → base ≤ i := fun i hi => by
  rcases hi with rfl | hi
  · exact h.low
  · exact (own_in h.ents.row hi).1
/-- A tree stands where blocks of other types are written. -/
theorem TS.offS {w0 w w' : World} {b m : Nat} {room : Int} {K : Nat} {t : Tr} (h : TS w0 w b m room K t) {S : Nat → Prop} (k : Kp S w w') (hl : ∀ i, S i → w0.heap.size ≤ i) (h1 : NoT w S trT) (h2 : NoT w S ndT) (h3 : NoT w S strT) (h4 : ¬ S m) : TS w0 w' b m room K t := by
  refine ⟨h.tr.apart k (fun i hi e => ?_) (fun i e _ cur f => h3 i e cur f), h.pk, h.ex.next k (fun i hi e => by have := hl i e; omega)⟩
  rcases hi with rfl | hi
  · exact h1 i e _ _ h.tr.blk
  · rcases hi with rfl | ⟨e2, he2, rfl⟩
    · exact h4 e
    · obtain ⟨nv, h5, _⟩ := h.tr.nod e2 he2
      exact h2 _ e _ _ h5
theorem RefA.notMap {w : World} {base g : Nat} {rm room : Int} {v : Value} {E : List Ent} (h : RefA w base g rm v E) {w0 : World} {b m : Nat} {K : Nat} {t : Tr} (ht : TS w0 w b m room K t) : ¬ refFr g v m := fun hi => by
  obtain ⟨L, c, hr, _⟩ := ht.tr.map
  have h0 := hr.1
  rcases hi with rfl | hi
  · have h3 : w.heap[m]? = some (.cells _ rtT (0, 0)) := h.blk
    rw [h3] at h0
    simp at h0
  · obtain ⟨cur', f', h3⟩ := own_type h.ents.row hi
    rw [h3] at h0
    simp at h0
theorem TS.offRef {w0 w w' : World} {b m g : Nat} {room : Int} {K : Nat} {t : Tr} (h : TS w0 w b m room K t) {base : Nat} (hb : w0.heap.size ≤ base) {v : Value} {E : List Ent} (hr : RefA w base g room v E) (k : Kp (refFr g v) w w') : TS w0 w' b m room K t :=
  h.offS k (fun i hi => Nat.le_trans hb (hr.lowFr i hi)) (hr.noT (by decide) (by decide)) (hr.noT (by decide) (by decide)) (hr.noT (by decide) (by decide)) (hr.notMap h)
theorem RefA.offTree {w0 w w' : World} {b m g : Nat} {room rm : Int} {K : Nat} {t : Tr} (h : TS w0 w b m room K t) {base : Nat} {v : Value} {E : List Ent} (hr : RefA w base g rm v E) (k : Kp (nodeFr m t) w w') : RefA w' base g rm v E :=
  hr.kpT k (h.tr.noT (by decide)) (h.tr.noT (by decide)) (h.tr.noT (by decide))
/-- The two trees tell the same. -/
structure Two (w0 w : World) (room : Int) (b m g K : Nat) (t : Tr) (v : Value) (E : List Ent) : Prop where
  ts : TS w0 w b m room K t
  rf : RefA w w0.heap.size g room v E
  srt : SortedAs (entL E) (pl t)
  good : GoodK room (pl t)
theorem entsK_of {K : Nat} {t : Pt} {E : List Ent} (hs : SortedAs (entL E) t) (hk : PtK K t) (hK : K ≤ 100000) : EntsK E := fun e he => by
  have h1 : (e.p, e.n) ∈ entL E := List.mem_map.2 ⟨e, he, rfl⟩
  have h2 : mget (entL E) e.p = some e.n := mget_of_mem (rise_nodup hs.rise) h1
  rw [hs.get] at h2
  exact (hk.2 _ (mget_mem h2)).ok hK
theorem Two.rise {w0 w : World} {room : Int} {b m g K : Nat} {t : Tr} {v : Value} {E : List Ent} (h : Two w0 w room b m g K t v E) : Rising (keysR (entL E)) := h.srt.rise
theorem Two.len {w0 w : World} {room : Int} {b m g K : Nat} {t : Tr} {v : Value} {E : List Ent} (h : Two w0 w room b m g K t v E) : E.length = (pl t).length := by
  have h1 := h.srt.own h.ts.pk.1
  have h2 : (entL E).length = E.length := List.length_map _
  rw [← h2, h1, own_len]
theorem Two.few {w0 w : World} {room : Int} {b m g K : Nat} {t : Tr} {v : Value} {E : List Ent} (h : Two w0 w room b m g K t v E) (hr : room ≤ 500) : E.length ≤ 500 := by
  rw [h.len]
  have := h.good.size
  omega
/-- A result's cells. -/
def rsC (r : Rp) (nv : Value) : Array Value := #[.int .i64 r.err, .string r.path, .string r.data, nv, .int .i64 r.st.made, .int .i64 r.st.chg, .int .i64 r.st.ver, .int .i64 r.st.kids, .int .i64 r.st.own, .int .i64 r.st.len, .int .i64 r.st.cnt]
def ResV2 (r : Rp) (v : Value) (w : World) : Prop := ∃ a c, v = .agg (rsC r (.slice a r.names.length c)) ∧ NmO w (.slice a r.names.length c) r.names
theorem ResV2.ext {r : Rp} {v : Value} {w w' : World} (h : ResV2 r v w) (k : Ext w w') : ResV2 r v w' := by
  obtain ⟨a, c, h1, h2⟩ := h
  exact ⟨a, c, h1, ownsRow.ext h2 k⟩
theorem ResV2.kpT {S : Nat → Prop} {r : Rp} {v : Value} {w w' : World} (h : ResV2 r v w) (k : Kp S w w') (hs : NoT w S strT) : ResV2 r v w' := by
  obtain ⟨a, c, h1, h2⟩ := h
  exact ⟨a, c, h1, NmO.kpS h2 k hs⟩
/-- What a Do on the tree leaves; on the reference's. -/
def TDoV (w0 : World) (b m : Nat) (room : Int) (K : Nat) (P : Pt) (r : Rp) (v : Value) (w' : World) : Prop := ResV2 r v w' ∧ ∃ t', TS w0 w' b m room K t' ∧ pl t' = P
def RDoV (base g : Nat) (room : Int) (L : RL) (r : Rp) (v : Value) (w' : World) : Prop := ResV2 r v w' ∧ ∃ v' E', RefA w' base g room v' E' ∧ entL E' = L
theorem TDoV.ext {w0 w w' : World} {b m : Nat} {room : Int} {K : Nat} {P : Pt} {r : Rp} {v : Value} (h : TDoV w0 b m room K P r v w) (k : Ext w w') : TDoV w0 b m room K P r v w' := by
  obtain ⟨h1, t', h2, h3⟩ := h
  exact ⟨h1.ext k, t', h2.ext k, h3⟩
theorem RDoV.ext {w w' : World} {base g : Nat} {room : Int} {L : RL} {r : Rp} {v : Value} (h : RDoV base g room L r v w) (k : Ext w w') : RDoV base g room L r v w' := by
  obtain ⟨h1, v', E', h2, h3⟩ := h
  exact ⟨h1.ext k, v', E', h2.ext k, h3⟩
theorem TDoV.off {w0 w w' : World} {b m g : Nat} {room : Int} {K : Nat} {P : Pt} {r : Rp} {v : Value} (h : TDoV w0 b m room K P r v w) {base : Nat} (hb : w0.heap.size ≤ base) {rm : Int} {u : Value} {E : List Ent} (hr : RefA w base g rm u E) (k : Kp (refFr g u) w w') : TDoV w0 b m room K P r v w' := by
  obtain ⟨h1, t', h2, h3⟩ := h
  exact ⟨h1.kpT k (hr.noT (by decide) (by decide)), t', h2.offS k (fun i hi => Nat.le_trans hb (hr.lowFr i hi)) (hr.noT (by decide) (by decide)) (hr.noT (by decide) (by decide)) (hr.noT (by decide) (by decide)) (hr.notMap h2), h3⟩
theorem two_tdo {w0 : World} {b m : Nat} {room : Int} {K : Nat} {t : Tr} (hG : GT w0) (hK : K ≤ 99999) (o : OpV) (sess z : Int) (only : Bool) (hp : o.path.size ≤ 1000000) (hd : o.data.size ≤ 1000000) {P : Pt} {r : Rp} (hR : doP room (pl t) o sess z only = (P, r)) (W : World) (h : TS w0 W b m room K t) :
    Calls Tryz.prog (if only then 11 else 9) #[.pointer (some ⟨b, 0, none⟩), .agg #[.int .i64 o.kind, .string o.path, .string o.data, .int .i64 o.ver, .int .i64 o.flags], .int .i64 sess, .int .i64 z] W fun e w' => ∃ a c, e = .returned (.agg (rsC r (.slice a r.names.length c))) ∧ TDoV w0 b m room (K + 1) P r (.agg (rsC r (.slice a r.names.length c))) w' ∧ Kp (nodeFr m t) W w' := by
  have key : ∀ {e : Ending} {w' : World}, TDone w0 W b m room K t (doP room (pl t) o sess z only) e w' → ∃ a c, e = .returned (.agg (rsC r (.slice a r.names.length c))) ∧ TDoV w0 b m room (K + 1) P r (.agg (rsC r (.slice a r.names.length c))) w' ∧ Kp (nodeFr m t) W w' := by
    rintro e w' ⟨t', nv, rfl, ho, ht, hp', hk, _⟩
    rw [hR] at ho hp' ⊢
    obtain ⟨a, c, rfl⟩ := owns_slice ho
    exact ⟨a, c, rfl, ⟨⟨a, c, rfl, ho⟩, t', ht, hp'⟩, hk⟩
  cases only with
  | true => exact (tsTry h hG (by omega) o sess z hp hd).mono fun e w' hh => key hh
  | false => exact (tsDo h hG (by omega) o sess z hp hd).mono fun e w' hh => key hh
theorem two_rdo {base g : Nat} {room : Int} {v : Value} {E : List Ent} (hr : Rising (keysR (entL E))) (hok : EntsK E) (hE : E.length ≤ 90000) (o : OpV) (sess z : Int) (hp : o.path.size ≤ 1000000) (hd : o.data.size ≤ 1000000) {L : RL} {r : Rp} (hR : doL room (entL E) o sess z = (L, r)) (W : World) (h : RefA W base g room v E) :
    Calls Tryz.prog 10 #[.pointer (some ⟨g, 0, none⟩), .agg #[.int .i64 o.kind, .string o.path, .string o.data, .int .i64 o.ver, .int .i64 o.flags], .int .i64 sess, .int .i64 z] W fun e w' => ∃ a c, e = .returned (.agg (rsC r (.slice a r.names.length c))) ∧ RDoV base g room L r (.agg (rsC r (.slice a r.names.length c))) w' ∧ Kp (refFr g v) W w' := by
  refine (do_ref base g room v E o sess z W h hr hok (by omega) hp hd).mono ?_
  rintro e w' ⟨v', E', nv, rfl, hn, hra, hel, hk, _⟩
  rw [hR] at hn hel ⊢
  obtain ⟨a, c, rfl⟩ := owns_slice hn
  exact ⟨a, c, rfl, ⟨⟨a, c, rfl, hn⟩, v', E', hra, hel⟩, hk⟩
theorem two_one {r : Rp} {va vb : Value} {W : World} (ha : ResV2 r va W) (hb : ResV2 r vb W) : Calls Tryz.prog 8 #[va, vb] W fun e w' => e = .returned (.bool true) ∧ Ext W w' := by
  obtain ⟨a, c, rfl, h1⟩ := ha
  obtain ⟨a', c', rfl, h2⟩ := hb
  exact oneR_any r _ _ W h1 h2
end Go.Proofs.YtdagikbdpeblhaaGreatDoor

/- A tree and the reference's, side by side: what they tell of themselves. -/
namespace Go.Proofs.YtdagikbdpeblhaaGreatDoor
set_option maxRecDepth 100000
open Go.RowKit Av

theorem paths_ents {P : Pt} {E : List Ent} (h : SortedAs (entL E) P) (hn : (P.map (·.1)).Nodup) : pathsP P = E.map fun e => e.p.data.toList := by
  rw [← keysE, h.own hn]
  unfold keysR ownL
  rw [List.map_map]
  exact (List.map_id' _).symm
theorem of_same {P : Pt} {E : List Ent} (h : SortedAs (entL E) P) (hn : (P.map (·.1)).Nodup) (sess : Int) : ofS P (pathsP P) sess = ofR E sess := by
  rw [paths_ents h hn]
  unfold ofS ofR
  rw [List.filter_map]
  congr 1
  refine List.filter_congr fun e he => ?_
  have h1 : (e.p, e.n) ∈ entL E := List.mem_map.2 ⟨e, he, rfl⟩
  have h2 : mget (entL E) e.p = some e.n := mget_of_mem (rise_nodup h.rise) h1
  rw [h.get] at h2
  show (decide (0 < sess) && (ownI P e.p.data.toList == sess)) = _
  rw [ownI_some (n := e.n) (by rw [bytes_self]; exact h2)]
  rfl
theorem two_len {w0 w : World} {room : Int} {b m g K : Nat} {t : Tr} {v : Value} {E : List Ent} (h : Two w0 w room b m g K t v E) (W : World) (hW : Ext w W) : Calls Tryz.prog 16 #[.pointer (some ⟨b, 0, none⟩)] W fun e w' => e = .returned (.int .i64 E.length) ∧ Ext W w' := by
  rw [h.len]
  exact (tsLen (h.ts.ext hW)).mono fun e w' ⟨h1, h2⟩ => ⟨h1, h2 ▸ Kp.refl _ _⟩
theorem two_own {w0 w : World} {room : Int} {b m g K : Nat} {t : Tr} {v : Value} {E : List Ent} (h : Two w0 w room b m g K t v E) (hr : room ≤ 100000) (hK : K ≤ 100000) (W : World) (hW : Ext w W) : Calls Tryz.prog 18 #[.pointer (some ⟨b, 0, none⟩), .int .i64 room] W fun e w' => ∃ q, e = .returned (.pointer (some ⟨q, 0, none⟩)) ∧ RefT w' 0 q room (entL E) ∧ Ext W w' := by
  refine (treeOwnK_any (h.ts.ext hW) h.good hr hK room).mono ?_
  rintro e w' ⟨q, rfl, h1, h2⟩
  rw [← h.srt.own h.ts.pk.1] at h1
  exact ⟨q, rfl, h1.less (Nat.zero_le _), h2⟩
theorem two_same {w0 w : World} {room : Int} {b m g K : Nat} {t : Tr} {v : Value} {E : List Ent} (h : Two w0 w room b m g K t v E) {q : Nat} {W : World} (hW : Ext w W) (hq : RefT W 0 q room (entL E)) : Calls Tryz.prog 17 #[.pointer (some ⟨q, 0, none⟩), .pointer (some ⟨g, 0, none⟩)] W fun e w' => e = .returned (.bool true) ∧ Ext W w' := by
  have := sameTree_any 0 w0.heap.size q g room room (entL E) (entL E) W hq (h.rf.ext hW).ref
  rw [decide_eq_true rfl] at this
  exact this
theorem two_of {w0 w : World} {room : Int} {b m g K : Nat} {t : Tr} {v : Value} {E : List Ent} (h : Two w0 w room b m g K t v E) (hr : room ≤ 100000) (s : Int) (W : World) (hW : Ext w W) : Calls Tryz.prog 20 #[.pointer (some ⟨b, 0, none⟩), .int .i64 s] W fun e w' => ∃ u, e = .returned u ∧ NmO w' u (ofR E s) ∧ Ext W w' := by
  refine (tsOfK (h.ts.ext hW) h.good hr s).mono ?_
  rintro e w' ⟨u, rfl, h1, h2⟩
  rw [of_same h.srt h.ts.pk.1] at h1
  exact ⟨u, rfl, own_less h1 (Nat.zero_le _), h2⟩
theorem two_ofr {w0 w : World} {room : Int} {b m g K : Nat} {t : Tr} {v : Value} {E : List Ent} (h : Two w0 w room b m g K t v E) (hr : room ≤ 500) (s : Int) (W : World) (hW : Ext w W) : Calls Tryz.prog 21 #[.pointer (some ⟨g, 0, none⟩), .int .i64 s] W fun e w' => ∃ u, e = .returned u ∧ NmO w' u (ofR E s) ∧ Ext W w' := by
  refine (of_ref w0.heap.size g room v E s W (h.rf.ext hW) (by have := h.few hr; omega)).mono ?_
  rintro e w' ⟨u, rfl, h1, h2⟩
  exact ⟨u, rfl, own_less h1 (Nat.zero_le _), h2⟩
theorem two_names {l : List Bs} {va vb : Value} {W : World} (ha : NmO W va l) (hb : NmO W vb l) : Calls Tryz.prog 19 #[va, vb] W fun e w' => e = .returned (.bool true) ∧ Ext W w' := by
  have := refSame_any va vb _ _ W (strs_nmo ha) (strs_nmo hb)
  rw [decide_eq_true rfl] at this
  exact this
theorem load_ref (base g : Nat) (room : Int) (v : Value) (E : List Ent) (p : ByteArray) (n : NodeV) (nv : Value) (r : Bool) (w : World) (h : RefA w base g room v E) (hri : Rising (keysR (entL E))) (hE : E.length ≤ 90000) (hp : p.size ≤ 1000000) (hn : NmS w nv n.names) (hl : n.names.length ≤ 100000) (hsz : ∀ x ∈ n.names, x.length ≤ 1000000) (hr : r = true ↔ (goodL p.data.toList = true ∧ Named n.names)) :
    Calls Tryz.prog 14 #[.pointer (some ⟨g, 0, none⟩), .string p, .agg (ndA n nv)] w fun e w' => LoadRPost w base g room v (loadR r room (entL E) p n) e w' := by
  by_cases hg : goodL p.data.toList = true ∧ Rising n.names ∧ n.names.length ≤ 500
  · refine load_good base g room v E p n nv r w h hri hE hp hn hl hsz ⟨fun h1 => ?_, fun h1 => ?_⟩ hg
    · exact (named_iff.1 (hr.1 h1).2).2.2
    · exact hr.2 ⟨hg.1, named_iff.2 ⟨hg.2.1, hg.2.2, h1⟩⟩
  · refine load_bad base g room v E p n nv r w h hp hn hl ?_ hg
    cases r with
    | false => rfl
    | true =>
      have h1 := hr.1 rfl
      have h2 := named_iff.1 h1.2
      exact absurd ⟨h1.1, h2.1, h2.2.1⟩ hg
theorem load_sorted {room : Int} {L : RL} {P : Pt} (h : SortedAs L P) (hl : L.length = P.length) (r : Bool) (p : ByteArray) (n : NodeV) : (loadR r room L p n).2 = (loadP r room P p n).2 ∧ SortedAs (loadR r room L p n).1 (loadP r room P p n).1 := by
  unfold loadR loadP
  rw [h.get, hl]
  split
  · exact ⟨rfl, h⟩
  · split
    · exact ⟨rfl, h⟩
    · rename_i hs
      split
      · exact ⟨rfl, h⟩
      · exact ⟨rfl, h.put _ (by simpa using hs)⟩
theorem two_tload {w0 W : World} {b m : Nat} {room : Int} {K : Nat} {t : Tr} (hG : GT w0) (hK : 500 ≤ K ∧ K ≤ 90000) (p : ByteArray) (n : NodeV) (nv : Value) (r : Bool) (hp : p.size ≤ 1000000) (hn : NmS W nv n.names) (hl : n.names.length ≤ 100000) (hsz : ∀ s ∈ n.names, s.length ≤ 1000000) (h64 : minI ≤ n.ver ∧ minI ≤ n.kids ∧ minI ≤ n.next) (hr : r = true ↔ (goodL p.data.toList = true ∧ Named n.names)) (h : TS w0 W b m room K t) :
    Calls Tryz.prog 13 #[.pointer (some ⟨b, 0, none⟩), .string p, .agg (ndA n nv)] W fun e w' => e = .returned (.int .i64 (loadP r room (pl t) p n).2) ∧ (∃ t', TS w0 w' b m room K t' ∧ pl t' = (loadP r room (pl t) p n).1) ∧ Kp (nodeFr m t) W w' := by
  cases r with
  | true =>
    have h1 := named_iff.1 (hr.1 rfl).2
    refine (tsLoad h hG (by omega) p n nv true hp hn ⟨h1.1, by omega, h64.1, h64.2.1, h64.2.2⟩ hsz hr).mono ?_
    rintro e w' ⟨t', rfl, h2, h3, h4, _⟩
    exact ⟨rfl, ⟨t', h2, h3⟩, h4⟩
  | false =>
    refine (treeLoad_any w0.heap.size b m room t p n nv false W h.tr (hG.ext h.ex).gl hp hn hl hsz hr).mono ?_
    rintro e w' ⟨t', rfl, h1, h2, h3, h4⟩
    exact ⟨rfl, ⟨t', ⟨h1, by rw [h2]; exact h.pk, h.step h3⟩, h2⟩, h3⟩
theorem two_rload {base g : Nat} {room : Int} {v : Value} {E : List Ent} {W : World} (hri : Rising (keysR (entL E))) (hE : E.length ≤ 90000) (p : ByteArray) (n : NodeV) (nv : Value) (r : Bool) (hp : p.size ≤ 1000000) (hn : NmS W nv n.names) (hl : n.names.length ≤ 100000) (hsz : ∀ s ∈ n.names, s.length ≤ 1000000) (hr : r = true ↔ (goodL p.data.toList = true ∧ Named n.names)) (h : RefA W base g room v E) :
    Calls Tryz.prog 14 #[.pointer (some ⟨g, 0, none⟩), .string p, .agg (ndA n nv)] W fun e w' => e = .returned (.int .i64 (loadR r room (entL E) p n).2) ∧ (∃ v' E', RefA w' base g room v' E' ∧ entL E' = (loadR r room (entL E) p n).1) ∧ Kp (refFr g v) W w' := by
  refine (load_ref base g room v E p n nv r W h hri hE hp hn hl hsz hr).mono ?_
  rintro e w' ⟨v', E', rfl, h1, h2, h3, _⟩
  exact ⟨rfl, ⟨v', E', h1, h2⟩, h3.mono (fun i _ e => .inl e)⟩
end Go.Proofs.YtdagikbdpeblhaaGreatDoor

/- Walks of package aviarylaw11: made, awake. -/
namespace Go.Proofs.YtdagikbdpeblhaaGreatDoor
set_option maxRecDepth 100000
open Go.RowKit Av

abbrev opT : TypeId := 33
def opZA : Array Value := #[.int .i64 0, .string ⟨#[]⟩, .string ⟨#[]⟩, .int .i64 0, .int .i64 0]
def set5 (w : World) (r : Nat) (u0 u1 u2 u3 u4 : Value) : World := ((((w.setCell ⟨r, 0, none⟩ u0).setCell ⟨r, 1, none⟩ u1).setCell ⟨r, 2, none⟩ u2).setCell ⟨r, 3, none⟩ u3).setCell ⟨r, 4, none⟩ u4
theorem kp_set5 (w : World) (r : Nat) (u0 u1 u2 u3 u4 : Value) : Kp (fun i => i = r) w (set5 w r u0 u1 u2 u3 u4) := by
  have k : ∀ {W : World} (i : Nat) (u : Value), Kp (fun i => i = r) w W → Kp (fun i => i = r) w (W.setCell ⟨r, i, none⟩ u) := fun i u h => h.set1 r i u rfl
  exact k 4 u4 (k 3 u3 (k 2 u2 (k 1 u1 (k 0 u0 (Kp.refl _ _)))))
set_option maxHeartbeats 800000 in
theorem made_any (p : ByteArray) (f : Int) (w : World) : Calls Tryz.prog 45 #[.string p, .int .i64 f] w fun e w' => e = .returned (.agg #[.int .i64 1, .string p, .string ⟨#[]⟩, .int .i64 0, .int .i64 f]) ∧ Ext w w' := by
  obtain ⟨wB, hWB⟩ : ∃ wB, w.alloc (.cells opZA opT) = wB := ⟨_, rfl⟩
  have hxB : Ext w wB := by rw [← hWB]; exact (Kp.refl _ _).alloc _
  have hB : Blk wB w.heap.size opZA opT := by rw [← hWB]; exact heap_alloc_new w _
  have HXB := Lib.hid hxB
  have HWB := Lib.hid hWB
  unfold opZA at hB HWB
  have d0 := hB.cell 0 _ rfl
  have d1 := hB.cell 1 _ rfl
  have d2 := hB.cell 2 _ rfl
  have d3 := hB.cell 3 _ rfl
  have d4 := hB.cell 4 _ rfl
  have fd0 := hB.free 0
  have fd1 := hB.free 1
  have fd2 := hB.free 2
  have fd3 := hB.free 3
  have fd4 := hB.free 4
  clear hWB hxB hB
  go_enter Tryz.func45, Tryz.ntmps45
  go_upto_region 1 with (fail)
  rw [HWB.out]
  go_wp2_with (fail)
  go_light
  refine bodyPost_ret (v := .agg #[.int .i64 1, .string p, .string ⟨#[]⟩, .int .i64 0, .int .i64 f]) (by simp [results, Tryz.results45, go_sem, d0, d1, d2, d3, d4]) rfl ?_
  have k5 := kp_set5 wB w.heap.size (.int .i64 1) (.string p) (.string ⟨#[]⟩) (.int .i64 0) (.int .i64 f)
  exact ⟨rfl, HXB.out.next k5 (fun i hi e => by omega)⟩
def oA : OpV := ⟨1, ⟨#[47, 97]⟩, ⟨#[]⟩, 0, 0⟩
def oAB : OpV := ⟨1, ⟨#[47, 97, 47, 98]⟩, ⟨#[]⟩, 0, 2⟩
/-- What the document tells of two Creates. -/
theorem awake_law : (doP 10 [] oA 1 7 false).2.err = 0 ∧ (doP 10 [] oA 1 7 false).2.path = ⟨#[47, 97]⟩ ∧ (doP 10 [] oA 1 7 false).2.st.made = 7 ∧
    (doP 10 (doP 10 [] oA 1 7 false).1 oAB 1 8 false).2.err = 0 ∧ (doP 10 (doP 10 [] oA 1 7 false).1 oAB 1 8 false).2.path = ⟨#[47, 97, 47, 98, 48, 48, 48, 48, 48, 48, 48, 48, 48, 48]⟩ ∧
    (nodeP (doP 10 (doP 10 [] oA 1 7 false).1 oAB 1 8 false).1 ⟨#[47, 97]⟩).2 = true ∧ (nodeP (doP 10 (doP 10 [] oA 1 7 false).1 oAB 1 8 false).1 ⟨#[47, 97]⟩).1.cnt = 1 ∧ (doP 10 (doP 10 [] oA 1 7 false).1 oAB 1 8 false).1.length = 2 := by decide +kernel
def resB (R : Rp) (a : Option Addr) (c : Nat) : Array Value := #[.int .i64 R.err, .string R.path, .string R.data, .slice a R.names.length c, .int .i64 R.st.made, .int .i64 R.st.chg, .int .i64 R.st.ver, .int .i64 R.st.kids, .int .i64 R.st.own, .int .i64 R.st.len, .int .i64 R.st.cnt]
set_option maxHeartbeats 3200000 in
theorem awake_any (w : World) (hG : GT w) : Calls Tryz.prog 5 #[] w fun e w' => e = .returned (.bool true) ∧ Ext w w' := by
  have HG := Lib.hid hG
  clear hG
  obtain ⟨R1, hR1⟩ : ∃ R, doP 10 [] oA 1 7 false = R := ⟨_, rfl⟩
  have hl := awake_law
  rw [hR1] at hl
  obtain ⟨R2, hR2⟩ : ∃ R, doP 10 R1.1 oAB 1 8 false = R := ⟨_, rfl⟩
  rw [hR2] at hl
  have HL := Lib.hid hl
  have HR1 := Lib.hid hR1
  have HR2 := Lib.hid hR2
  clear hl hR1 hR2
  go_enter Tryz.func5, Tryz.ntmps5
  go_wp2_with (fail)
  refine (tsNew 10 w w (Kp.refl _ _) (by decide) (by decide)).mono ?_
  rintro e w1 ⟨b, m, rfl, h1, hx1, _, _⟩
  have H1 := Lib.hid h1
  clear h1 hx1
  go_wp2_with (fail)
  refine (made_any _ _ _).mono ?_
  rintro e w2 ⟨rfl, hx2⟩
  have hD := tsDo (H1.out.ext hx2) HG.out (by decide) oA 1 7 (by decide) (by decide)
  rw [show pl [] = [] from rfl, HR1.out] at hD
  have HD := Lib.hid hD
  clear hx2 H1 hD
  go_wp2_with (fail)
  refine HD.out.mono ?_
  rintro e w3 ⟨t1, nv1, rfl, ho1, h3, hp1, hk3, hf3⟩
  obtain ⟨a1, c1, rfl⟩ := owns_slice ho1
  obtain ⟨wA, hWA⟩ : ∃ wA, w3.alloc (.cells #[.int .i64 R1.2.err, .string R1.2.path, .string R1.2.data, .slice a1 R1.2.names.length c1, .int .i64 R1.2.st.made, .int .i64 R1.2.st.chg, .int .i64 R1.2.st.ver, .int .i64 R1.2.st.kids, .int .i64 R1.2.st.own, .int .i64 R1.2.st.len, .int .i64 R1.2.st.cnt] rsuT) = wA := ⟨_, rfl⟩
  have hxA : Ext w3 wA := by rw [← hWA]; exact (Kp.refl _ _).alloc _
  have hA : Blk wA w3.heap.size (resB R1.2 a1 c1) rsuT := by rw [← hWA]; exact heap_alloc_new w3 _
  have HA := Lib.hid hA
  have H3 := Lib.hid (h3.ext hxA)
  have HP1 := Lib.hid hp1
  have HWA := Lib.hid hWA
  clear hWA hxA hA h3 hp1 hk3 hf3 ho1 HD
  unfold resA
  go_upto_region 5 with (fail)
  rw [HWA.out]
  go_wp2_with (fail)
  refine (made_any _ _ _).mono ?_
  rintro e w4 ⟨rfl, hx4⟩
  have hD := tsDo (H3.out.ext hx4) HG.out (by decide) oAB 1 8 (by decide) (by decide)
  rw [HP1.out, HR2.out] at hD
  have HD := Lib.hid hD
  have HA4 := Lib.hid (HA.out.kp hx4 (fun f => f))
  have H4 := Lib.hid (H3.out.ext hx4)
  clear hx4 hD
  go_wp2_with (fail)
  refine HD.out.mono ?_
  rintro e w5 ⟨t2, nv2, rfl, ho2, h5, hp2, hk5, hf5⟩
  obtain ⟨a2, c2, rfl⟩ := owns_slice ho2
  obtain ⟨wB, hWB⟩ : ∃ wB, w5.alloc (.cells #[.int .i64 R2.2.err, .string R2.2.path, .string R2.2.data, .slice a2 R2.2.names.length c2, .int .i64 R2.2.st.made, .int .i64 R2.2.st.chg, .int .i64 R2.2.st.ver, .int .i64 R2.2.st.kids, .int .i64 R2.2.st.own, .int .i64 R2.2.st.len, .int .i64 R2.2.st.cnt] rsuT) = wB := ⟨_, rfl⟩
  have hxB : Ext w5 wB := by rw [← hWB]; exact (Kp.refl _ _).alloc _
  have hB : Blk wB w5.heap.size (resB R2.2 a2 c2) rsuT := by rw [← hWB]; exact heap_alloc_new w5 _
  have HB := Lib.hid hB
  have HA5 := Lib.hid ((H4.out.tr.blk' hk5 HA4.out (by decide)).kp hxB (fun f => f))
  have H5 := Lib.hid (h5.ext hxB)
  have HP2 := Lib.hid hp2
  have HWB := Lib.hid hWB
  clear hWB hxB hB h5 hp2 hk5 hf5 ho2 HD
  unfold resA
  go_upto_region 6 with (fail)
  rw [HWB.out]
  have hN := tsNode H5.out (by decide) ⟨#[47, 97]⟩
  rw [HP2.out] at hN
  obtain ⟨nd, hnd⟩ : ∃ nd, nodeP R2.1 ⟨#[47, 97]⟩ = nd := ⟨_, rfl⟩
  have hl := HL.out
  rw [hnd] at hl hN
  have HN := Lib.hid hN
  clear hN hnd HL
  obtain ⟨e1, e2, e3, e4, e5, e6, e7, e8⟩ := hl
  rw [e6] at HN
  have E12 := Lib.hid (And.intro e1 (And.intro e2 (And.intro e3 (And.intro e4 (And.intro e5 (And.intro e7 e8))))))
  clear e1 e2 e3 e4 e5 e6 e7 e8
  go_wp2_with (fail)
  refine HN.out.mono ?_
  rintro e w7 ⟨nv7, rfl, ho7, h7, hx7⟩
  obtain ⟨a7, c7, rfl⟩ := owns_slice ho7
  obtain ⟨wC, hWC⟩ : ∃ wC, w7.alloc (.cells #[.int .i64 nd.1.made, .int .i64 nd.1.chg, .int .i64 nd.1.ver, .int .i64 nd.1.kids, .int .i64 nd.1.own, .int .i64 nd.1.len, .int .i64 nd.1.cnt, .string nd.1.data, .int .i64 nd.1.next, .slice a7 nd.1.names.length c7] ndT) = wC := ⟨_, rfl⟩
  have hxC : Ext w7 wC := by rw [← hWC]; exact (Kp.refl _ _).alloc _
  have hC : Blk wC w7.heap.size (ndA nd.1 (.slice a7 nd.1.names.length c7)) ndT := by rw [← hWC]; exact heap_alloc_new w7 _
  have hA9 := (HA5.out.kp hx7 (fun f => f)).kp hxC (fun f => f)
  have hB9 := (HB.out.kp hx7 (fun f => f)).kp hxC (fun f => f)
  have H7 := Lib.hid (h7.ext hxC)
  have hL := tsLen H7.out
  obtain ⟨e1, e2, e3, e4, e5, e7, e8⟩ := E12.out
  rw [HP2.out, e8] at hL
  have r0 := hA9.cell 0 (.int .i64 R1.2.err) rfl
  have r1 := hA9.cell 1 (.string R1.2.path) rfl
  have r4 := hA9.cell 4 (.int .i64 R1.2.st.made) rfl
  have s0 := hB9.cell 0 (.int .i64 R2.2.err) rfl
  have s1 := hB9.cell 1 (.string R2.2.path) rfl
  have n6 := hC.cell 6 (.int .i64 nd.1.cnt) rfl
  rw [e1] at r0
  rw [e2] at r1
  rw [e3] at r4
  rw [e4] at s0
  rw [e5] at s1
  rw [e7] at n6
  have HLN := Lib.hid hL
  have HWC := Lib.hid hWC
  clear hWC hxC hC hA9 hB9 h7 hx7 ho7 hL e1 e2 e3 e4 e5 e7 e8 E12 HN
  unfold ndA
  go_upto_region 7 with (fail)
  rw [HWC.out]
  go_wp2_with (fail)
  refine HLN.out.mono ?_
  rintro e w9 ⟨rfl, rfl⟩
  go_wp2_with (fail)
  go_ret
  exact ⟨rfl, H7.out.ex⟩
end Go.Proofs.YtdagikbdpeblhaaGreatDoor

/- 'x := l[i]' of a struct of many cells, each operation one step, whatever the number of cells. No program. -/
namespace Av
set_option maxRecDepth 100000
open Go Go.RowKit
variable {P : Program} {ops : Array Oper} {rest : List Oper} {o : Oper} {a : Act} {Q : Exit → Act → World → Prop} {w : World}
theorem wpList_mv (hg : o.guard = none) (x : Operand) (ho : o.op = .move x) (v : Value) (hx : a.eval x = v) (h : wpList P ops Q rest (a.put o.dst v) w) : wpList P ops Q (o :: rest) a w := by
  refine wpList_plain hg fun _ hK => ?_
  unfold Oper.wp execOp
  simp only [ho, hx, Sem.run_pure]
  exact hK _ _ h
theorem run_indexAt (t e : TypeId) (K b off n c k : Nat) (hk : k < n) (ht : P.underlying t = some (.slice e)) (hs : (P.info? e).map (·.size) = some K) (w : World) : (Instr.indexAt t (.slice (some ⟨b, off, none⟩) n c) (.int .i64 (k : Int))).run P w = .ok (.pointer (some ⟨b, off + k * K, none⟩)) w := by
  cases hie : P.info? e with
  | none => simp [hie] at hs
  | some i =>
    have hsz : i.size = K := by simpa [hie] using hs
    have h2 : (⟨b, off, none⟩ : Addr).add (k * K) = ⟨b, off + k * K, none⟩ := by unfold Addr.add; split <;> simp_all
    simp [Instr.indexAt, asIntOf, run_underlying ht w, Go.sizeOf, typeInfo, hie, hsz, hk, h2]
theorem wpList_ix (hg : o.guard = none) (t : TypeId) (x y : Operand) (ho : o.op = .indexAddr t x y) (e : TypeId) (K b off n c k : Nat) (hx : a.eval x = .slice (some ⟨b, off, none⟩) n c) (hy : a.eval y = .int .i64 (k : Int)) (hk : k < n) (ht : P.underlying t = some (.slice e)) (hs : (P.info? e).map (·.size) = some K) (h : wpList P ops Q rest (a.put o.dst (.pointer (some ⟨b, off + k * K, none⟩))) w) : wpList P ops Q (o :: rest) a w := by
  refine wpList_plain hg fun _ hK => ?_
  unfold Oper.wp execOp
  simp only [ho, hx, hy, Sem.run_bind, Sem.run_pure, Result.andThen_ok, run_indexAt t e K b off n c k hk ht hs w]
  exact hK _ _ h
theorem wpList_new (hg : o.guard = none) (T : TypeId) (ho : o.op = .alloc T) (zs : Array Value) (n : Nat) (hz : (P.info? T).map (fun i => (i.zero, i.size)) = some (some (.agg zs), n)) (h : wpList P ops Q rest (a.put o.dst (.pointer (some ⟨w.heap.size, 0, none⟩))) (w.alloc (.cells zs T))) : wpList P ops Q (o :: rest) a w := by
  refine wpList_plain hg fun _ hK => ?_
  have hr : (Instr.alloc T true (.tuple #[])).run P w = .ok (.pointer (some ⟨w.heap.size, 0, none⟩)) (w.alloc (.cells zs T)) := by
    simp [Instr.alloc, (zero_of_info hz).1, newVar, newRow, Value.cells]
  unfold Oper.wp execOp
  simp only [ho, Sem.run_bind, Sem.run_pure, Result.andThen_ok, hr]
  exact hK _ _ h
theorem wpList_stNew (hg : o.guard = none) (T : TypeId) (x y : Operand) (ho : o.op = .store T x y) {w0 : World} {zs : Array Value} (hw : w = w0.alloc (.cells zs T)) (cells : Array Value) (hx : a.eval x = .pointer (some ⟨w0.heap.size, 0, none⟩)) (hy : a.eval y = .agg cells) (hi : (P.info? T).map (·.size) = some cells.size) (hs : zs.size = cells.size) (h1 : cells.all (·.oneCell') = true) (h : wpList P ops Q rest (a.put o.dst undef) (w0.alloc (.cells cells T))) : wpList P ops Q (o :: rest) a w := by
  subst hw
  refine wpList_store_row hg T x y ho w0.heap.size cells hx hy T zs (heap_alloc_new w0 _) hi hs h1 ?_
  rw [World.setRow_alloc_new]
  exact h
set_option maxHeartbeats 1000000 in
/-- The whole of it: two moves, the element's address, the load, a new variable, the store. -/
theorem wp_elemCopy {id : Nat} {o1 o2 o3 o4 o5 o6 : Oper} (sT T : TypeId) (x1 x2 : Operand) (d1 d2 d3 d4 d5 : Tmp)
    (h1 : o1.guard = none ∧ o1.op = .move x1 ∧ o1.dst = some d1) (h2 : o2.guard = none ∧ o2.op = .move x2 ∧ o2.dst = some d2) (h3 : o3.guard = none ∧ o3.op = .indexAddr sT (.tmp d1) (.tmp d2) ∧ o3.dst = some d3)
    (h4 : o4.guard = none ∧ o4.op = .load T (.tmp d3) ∧ o4.dst = some d4) (h5 : o5.guard = none ∧ o5.op = .alloc T ∧ o5.dst = some d5) (h6 : o6.guard = none ∧ o6.op = .store T (.tmp d5) (.tmp d4) ∧ o6.dst = none)
    (K b off n c k : Nat) (hx1 : a.eval x1 = .slice (some ⟨b, off, none⟩) n c) (hx2 : (a.put (some d1) (.slice (some ⟨b, off, none⟩) n c)).eval x2 = .int .i64 (k : Int)) (hk : k < n)
    (cs : List Value) (hc : w.rangeAt b (off + k * K) cs) (hl : cs.length = K) (hone : ∀ v ∈ cs, v.oneCell' = true) (zs : Array Value) (fs : Array Field)
    (hf : P.underlying sT = some (.slice T) ∧ P.underlying T = some (.struct fs) ∧ (P.info? T).map (fun i => (i.zero, i.size)) = some (some (.agg zs), K)) (hz : zs.size = K)
    (hd : (decide (d1 ≠ d2) && decide (d4 ≠ d5) && decide (d1 < a.tmps.size) && decide (d2 < a.tmps.size) && decide (d3 < a.tmps.size) && decide (d4 < a.tmps.size) && decide (d5 < a.tmps.size)) = true)
    (h : Q .normal (((((a.put (some d1) (.slice (some ⟨b, off, none⟩) n c)).put (some d2) (.int .i64 (k : Int))).put (some d3) (.pointer (some ⟨b, off + k * K, none⟩))).put (some d4) (.agg cs.toArray)).put (some d5) (.pointer (some ⟨w.heap.size, 0, none⟩))) (w.alloc (.cells cs.toArray T))) :
    (Code.region id [o1, o2, o3, o4, o5, o6].toArray false).wp P Q a w := by
  obtain ⟨g1, p1, e1⟩ := h1
  obtain ⟨g2, p2, e2⟩ := h2
  obtain ⟨g3, p3, e3⟩ := h3
  obtain ⟨g4, p4, e4⟩ := h4
  obtain ⟨g5, p5, e5⟩ := h5
  obtain ⟨g6, p6, e6⟩ := h6
  simp only [Bool.and_eq_true, decide_eq_true_eq] at hd
  obtain ⟨⟨⟨⟨⟨⟨n12, n45⟩, z1⟩, z2⟩, z3⟩, z4⟩, z5⟩ := hd
  have hs : (P.info? T).map (·.size) = some K := (zero_of_info hf.2.2).2
  have get : ∀ (A : Act) (d : Tmp) (v : Value), d < A.tmps.size → (A.put (some d) v).eval (.tmp d) = v := fun A d v hd => by simp [Act.put, Act.eval, hd]
  have skip : ∀ (A : Act) (d d' : Tmp) (v : Value), d ≠ d' → (A.put (some d') v).eval (.tmp d) = A.eval (.tmp d) := fun A d d' v hd => by simp [Act.put, Act.eval, Ne.symm hd]
  have sz : ∀ (A : Act) (d : Tmp) (v : Value), (A.put (some d) v).tmps.size = A.tmps.size := fun A d v => by simp [Act.put]
  refine wp_region_lit ?_
  refine wpList_mv g1 x1 p1 _ hx1 ?_
  rw [e1]
  refine wpList_mv g2 x2 p2 _ hx2 ?_
  rw [e2]
  refine wpList_ix g3 sT _ _ p3 T K b off n c k ((skip _ _ _ _ n12).trans (get _ _ _ z1)) (get _ _ _ (by rw [sz]; exact z2)) hk hf.1 hs ?_
  rw [e3]
  refine wpList_load_mid g4 T _ p4 b (off + k * K) (get _ _ _ (by rw [sz, sz]; exact z3)) cs _ hc hf.2.1 rfl (by rw [hs, hl]) ?_
  rw [e4]
  refine wpList_new g5 T p5 zs K hf.2.2 ?_
  rw [e5]
  refine wpList_stNew g6 T _ _ p6 rfl cs.toArray (get _ _ _ (by rw [sz, sz, sz, sz]; exact z5)) ((skip _ _ _ _ n45).trans (get _ _ _ (by rw [sz, sz, sz]; exact z4))) (by rw [hs, List.size_toArray, hl]) (by rw [hz, List.size_toArray, hl]) (all_oneCell_toArray hone) ?_
  rw [e6]
  exact wpList_nil h
end Av
