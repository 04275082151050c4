/- Texts put together: AvOps, AvRefJ, AvWTreeK, AvRefK, AvRefR. -/
import Derived.Test.YtdagikbdpeblhaaGreatDoorAvG2
import Derived.Test.YtdagikbdpeblhaaGreatDoorAvHRefG
import Derived.Test.YtdagikbdpeblhaaGreatDoorAvHRefI
import Derived.Test.YtdagikbdpeblhaaGreatDoorAvHRefC
import Derived.Test.YtdagikbdpeblhaaGreatDoorAvG21
import Derived.Test.YtdagikbdpeblhaaGreatDoorAvG26
import Derived.Test.YtdagikbdpeblhaaGreatDoorAvHRefN
import Derived.Test.YtdagikbdpeblhaaGreatDoorAvG18

/- Slices of ops in memory; what a request may be. No program. -/
namespace Av
set_option maxRecDepth 100000
open Go Go.RowKit
theorem rows_cell {α : Type} (f : α → List Value) (K : Nat) (hf : ∀ x, (f x).length = K) : ∀ (xs : List α) (k : Nat) (hk : k < xs.length) (j : Nat), j < K → (xs.flatMap f)[k * K + j]? = (f xs[k])[j]?
  | [], _, hk, _, _ => by simp at hk
  | a :: xs, 0, _, j, hj => by
    simp only [List.flatMap_cons, List.getElem_cons_zero, Nat.zero_mul, Nat.zero_add]
    rw [List.getElem?_append_left (by rw [hf]; exact hj)]
  | a :: xs, k + 1, hk, j, hj => by
    simp only [List.flatMap_cons, List.getElem_cons_succ]
    rw [List.getElem?_append_right (by rw [hf, Nat.succ_mul]; omega)]
    have := rows_cell f K hf xs k (by simpa using hk) j hj
    rw [← this, hf]
    congr 1
    rw [Nat.succ_mul]
    omega
theorem rows_len {α : Type} (f : α → List Value) (K : Nat) (hf : ∀ x, (f x).length = K) (xs : List α) : (xs.flatMap f).length = xs.length * K := by
  induction xs with
  | nil => simp
  | cons a l ih => rw [List.flatMap_cons, List.length_append, hf, ih, List.length_cons, Nat.succ_mul]; omega
/-- A slice of ops. -/
def OpsAt (w : World) (v : Value) (xs : List OpV) : Prop := Sl w 5 v xs.length (xs.flatMap OpV.cells) ∧ Shp v
theorem OpsAt.ext {w w' : World} {v : Value} {xs : List OpV} (h : OpsAt w v xs) (k : Ext w w') : OpsAt w' v xs := ⟨h.1.ext k, h.2⟩
theorem OpsAt.kp {S : Nat → Prop} {w w' : World} {v : Value} {xs : List OpV} (h : OpsAt w v xs) (k : Kp S w w') (hs : ∀ b, v.ownBlock = some b → b < w.heap.size → ¬ S b) : OpsAt w' v xs := ⟨h.1.kp k hs, h.2⟩
theorem OpsAt.nil (w : World) : OpsAt w (.slice none 0 0) [] := ⟨Sl.nil w 5, .inl rfl⟩
theorem OpsAt.open {w : World} {v : Value} {xs : List OpV} (h : OpsAt w v xs) :
    ∃ a c, v = .slice a xs.length c ∧ xs.length ≤ c ∧ xs.length ≤ maxLen ∧ (0 < xs.length → ∃ b off, a = some ⟨b, off, none⟩ ∧ b < w.heap.size ∧ ∀ k (hk : k < xs.length),
      w.cell? ⟨b, off + k * 5, none⟩ = some (.int .i64 xs[k].kind) ∧ w.cell? ⟨b, off + k * 5 + 1, none⟩ = some (.string xs[k].path) ∧ w.cell? ⟨b, off + k * 5 + 2, none⟩ = some (.string xs[k].data) ∧
      w.cell? ⟨b, off + k * 5 + 3, none⟩ = some (.int .i64 xs[k].ver) ∧ w.cell? ⟨b, off + k * 5 + 4, none⟩ = some (.int .i64 xs[k].flags)) := by
  obtain ⟨a, c, rfl, hcc, h1, _, h3⟩ := Sl.open h.1
  refine ⟨a, c, rfl, hcc, h1, fun hn => ?_⟩
  obtain ⟨b, off, rfl, hb, hc⟩ := h3 hn
  have key : ∀ k (hk : k < xs.length) j x, j < 5 → (xs[k].cells)[j]? = some x → w.cell? ⟨b, off + (k * 5 + j), none⟩ = some x := fun k hk j x hj hx =>
    hc (k * 5 + j) x (by rw [rows_cell OpV.cells 5 (fun _ => rfl) xs k hk j hj]; exact hx)
  refine ⟨b, off, rfl, hb, fun k hk => ⟨?_, ?_, ?_, ?_, ?_⟩⟩
  · have := key k hk 0 _ (by omega) rfl; rwa [Nat.add_zero] at this
  · have := key k hk 1 _ (by omega) rfl; rwa [← Nat.add_assoc] at this
  · have := key k hk 2 _ (by omega) rfl; rwa [← Nat.add_assoc] at this
  · have := key k hk 3 _ (by omega) rfl; rwa [← Nat.add_assoc] at this
  · have := key k hk 4 _ (by omega) rfl; rwa [← Nat.add_assoc] at this

theorem good_kind {o : OpV} (h : goodO o = 0) : 1 ≤ o.kind ∧ o.kind ≤ 7 ∧ goodL o.path.data.toList = true ∧ -1 ≤ o.ver ∧ 0 ≤ o.flags ∧ o.flags ≤ 3 ∧ o.data.size ≤ 1000 := by
  unfold goodO at h
  split at h
  · rename_i hf
    simp only [formedB, Bool.and_eq_true, decide_eq_true_eq] at hf
    split at h
    · cases h
    · exact ⟨hf.1, hf.2.1, hf.2.2.1, hf.2.2.2.1, hf.2.2.2.2.1, hf.2.2.2.2.2, by omega⟩
  · cases h
end Av

/- Walks over the reference's tree: Do, whatever is done. -/
namespace Go.Proofs.YtdagikbdpeblhaaGreatDoor
set_option maxRecDepth 100000
open Go.RowKit Av

theorem good_numbered {o : OpV} (h : goodO o = 0) : numberedB o = true := by
  unfold goodO at h
  split at h
  · split at h
    · cases h
    · split at h
      · rename_i h1
        simp only [Bool.and_eq_true] at h1
        exact h1.2
      · cases h
  · cases h
set_option maxHeartbeats 6400000 in
theorem do_create (base g : Nat) (room : Int) (v : Value) (E : List Ent) (k : Int) (p d : ByteArray) (ver f sess z : Int) (w : World) (h : RefA w base g room v E) (hr : Rising (keysR (entL E))) (hp : p.size ≤ 1000000) (hd : d.size ≤ 1000000) (hgood : goodO ⟨k, p, d, ver, f⟩ = 0 ∧ 1 ≤ sess ∧ 0 ≤ z) (hk1 : k = 1) (hok : EntsK E) (hE : E.length ≤ 100000) :
    Calls Tryz.prog 10 #[.pointer (some ⟨g, 0, none⟩), .agg #[.int .i64 k, .string p, .string d, .int .i64 ver, .int .i64 f], .int .i64 sess, .int .i64 z] w fun e w' => RDPost w base g room v (doL room (entL E) ⟨k, p, d, ver, f⟩ sess z) e w' := by
  obtain ⟨wA, hWA⟩ : ∃ wA, w.alloc (.cells #[.int .i64 k, .string p, .string d, .int .i64 ver, .int .i64 f] 33) = wA := ⟨_, rfl⟩
  have hxA : Ext w wA := by rw [← hWA]; exact (Kp.refl _ _).alloc _
  have hA : Blk wA w.heap.size #[.int .i64 k, .string p, .string d, .int .i64 ver, .int .i64 f] 33 := by rw [← hWA]; exact heap_alloc_new w _
  obtain ⟨wB, hWB⟩ : ∃ wB, wA.alloc (.cells rsZ rsuT) = wB := ⟨_, rfl⟩
  have hxB : Ext wA wB := by rw [← hWB]; exact (Kp.refl _ _).alloc _
  have hsA : wA.heap.size = w.heap.size + 1 := by rw [← hWA]; exact World.size_alloc _ _
  have hB : Blk wB (w.heap.size + 1) rsZ rsuT := by rw [← hWB, ← hsA]; exact heap_alloc_new wA _
  have HAB := Lib.hid (hA.kp hxB (fun f => f))
  have HB := Lib.hid hB
  have HXB := Lib.hid (hxA.ext hxB)
  have HRB := Lib.hid (h.ext (hxA.ext hxB))
  have HWA := Lib.hid hWA
  unfold rsZ at hWB
  have HWB := Lib.hid hWB
  have HOP : Hid (Calls Tryz.prog 48 #[.agg #[.int .i64 k, .string p, .string d, .int .i64 ver, .int .i64 f]] wB fun e w' => e = .returned (.int .i64 (goodO ⟨k, p, d, ver, f⟩)) ∧ Ext wB w') := refOp_any ⟨k, p, d, ver, f⟩ wB (by show p.size ≤ _; unfold maxLen; omega) (by show d.size ≤ _; unfold maxLen; omega)
  have HAT := Lib.hid (fun W (hW : Ext wB W) => at_any base g room v E p W ((h.ext (hxA.ext hxB)).ext hW))
  obtain ⟨X, hX⟩ : ∃ X, doL room (entL E) ⟨k, p, d, ver, f⟩ sess z = X := ⟨_, rfl⟩
  rw [hX]
  have HC : Hid (X = doL room (entL E) ⟨k, p, d, ver, f⟩ sess z) := hX.symm
  clear hWA hxA hA hWB hxB hB hsA hX
  obtain ⟨hg0, hs1, hz1⟩ := hgood
  rw [hg0] at HOP
  have s0 : ¬ sess < 1 := by omega
  have s1 : ¬ z < 0 := by omega
  obtain ⟨_, _, _, _, hf0, hf3, _⟩ := good_kind hg0
  have hf0 : 0 ≤ f := hf0
  have hf3 : f ≤ 3 := hf3
  have hnum : 2 ≤ f → parentL p.data.toList ≠ none := fun h2 e => by
    have hn := good_numbered hg0
    unfold numberedB at hn
    simp only [Bool.or_eq_true, Bool.and_eq_true, decide_eq_true_eq] at hn
    rcases hn with hn | ⟨hn, _⟩
    · have hn : f < 2 := hn
      omega
    · unfold parentL at e
      have hn : 1 < (partsL p.data.toList).length := hn
      rw [if_neg (by omega)] at e
      cases e
  have HE : Hid (X = createL room (entL E) ⟨k, p, d, ver, f⟩ sess z) := by
    show _ = _
    rw [HC.out]
    unfold doL
    rw [if_neg (by rw [hg0]; simp), if_neg (by omega), if_pos hk1]
  subst hk1
  have HGW : Hid (g < w.heap.size) := h.blk.lt
  have HCR := Lib.hid (fun W (hW : Ext wB W) => create_ref base g room v E 1 p d ver f sess z W (HRB.out.ext hW) hr hok hE hp hf0 hf3 hnum)
  clear h hr hok HC hg0 hs1 hz1 hf0 hf3 hnum HAT
  go_enter Tryz.func10, Tryz.ntmps10
  go_upto_region 1 with (fail)
  rw [HWA.out]
  rw [HWB.out]
  have hab := HAB.out
  have a0 := hab.cell 0 _ rfl
  have a1 := hab.cell 1 _ rfl
  have a2 := hab.cell 2 _ rfl
  have a3 := hab.cell 3 _ rfl
  have a4 := hab.cell 4 _ rfl
  clear hab
  go_wp2_with (fail)
  refine HOP.out.mono ?_
  rintro e w1 ⟨rfl, hx1⟩
  have HX1 := Lib.hid hx1
  have hab := HAB.out.kp hx1 (fun f => f)
  clear hx1 a0 a1 a2 a3 a4
  have b0 := hab.cell 0 _ rfl
  have b1 := hab.cell 1 _ rfl
  have b2 := hab.cell 2 _ rfl
  have b3 := hab.cell 3 _ rfl
  have b4 := hab.cell 4 _ rfl
  clear hab
  go_wp2_with (fail)
  refine (HCR.out w1 HX1.out).mono ?_
  rintro e w2 ⟨v', E', nv, rfl, hn, hra, hel, hk, ho⟩
  rw [← HE.out] at hel hn ⊢
  have hb1 := HB.out.kp HX1.out (fun f => f)
  have hgw := HGW.out
  have hb2 := hb1.kp hk (fun e => by
    rcases e with e | e
    · omega
    · obtain ⟨cur, f, h4⟩ := own_type (HRB.out.ext HX1.out).ents.row e
      have h2 : w1.heap[w.heap.size + 1]? = some (.cells rsZ rsuT (0, 0)) := hb1
      rw [h4] at h2
      simp only [Option.some.injEq, Obj.cells.injEq] at h2
      exact absurd h2.2.1 (by decide))
  have HB2 := Lib.hid hb2
  have HN2 := Lib.hid hn
  have HR2 := Lib.hid hra
  have HEL := Lib.hid hel
  have HO := Lib.hid ho
  have HK2 : Hid (Kp (fun i => i = g ∨ v.ownBlock = some i) w w2) := ((HXB.out.trans HX1.out).mono (fun _ _ f => f.elim)).next hk (fun i hi e => e)
  have HSZ : Hid (w.heap.size ≤ w1.heap.size) := (HXB.out.trans HX1.out).size
  obtain ⟨⟨er, pa, da, nm, st⟩, hX2⟩ : ∃ y, X.2 = y := ⟨_, rfl⟩
  rw [hX2] at hn
  have HX2' := Lib.hid hX2
  obtain ⟨na, nc, rfl⟩ := owns_slice hn
  rw [hX2]
  clear hb1 hb2 hn hra hel hk ho hX2
  have hb2 := HB2.out
  unfold rsZ at hb2
  have c0 := hb2.cell 0 _ rfl
  have c1 := hb2.cell 1 _ rfl
  have c2 := hb2.cell 2 _ rfl
  have c3 := hb2.cell 3 _ rfl
  have c4 := hb2.cell 4 _ rfl
  have c5 := hb2.cell 5 _ rfl
  have c6 := hb2.cell 6 _ rfl
  have c7 := hb2.cell 7 _ rfl
  have c8 := hb2.cell 8 _ rfl
  have c9 := hb2.cell 9 _ rfl
  have c10 := hb2.cell 10 _ rfl
  have fc0 := hb2.free 0
  have fc1 := hb2.free 1
  have fc2 := hb2.free 2
  have fc3 := hb2.free 3
  have fc4 := hb2.free 4
  have fc5 := hb2.free 5
  have fc6 := hb2.free 6
  have fc7 := hb2.free 7
  have fc8 := hb2.free 8
  have fc9 := hb2.free 9
  have fc10 := hb2.free 10
  clear hb2 b0 b1 b2 b3 b4
  simp only
  unfold resA
  go_wp2_with (fail)
  go_light
  refine bodyPost_ret (v := resA er pa da (.slice na nm.length nc) st) (by simp [results, Tryz.results10, go_sem, resA, c0, c1, c2, c3, c4, c5, c6, c7, c8, c9, c10]) rfl ?_
  have k11 := kp_set11 w2 (w.heap.size + 1) (.int .i64 er) (.string pa) (.string da) (.slice na nm.length nc) (.int .i64 st.made) (.int .i64 st.chg) (.int .i64 st.ver) (.int .i64 st.kids) (.int .i64 st.own) (.int .i64 st.len) (.int .i64 st.cnt)
  refine ⟨v', E', .slice na nm.length nc, by rw [HX2'.out], ?_, HR2.out.aside HB2.out k11, HEL.out, HK2.out.next k11 (fun i hi e => by omega), fun i hi => (HO.out i hi).imp id (fun h => Nat.le_trans HSZ.out h)⟩
  refine ownsRow.kp HN2.out k11 (fun i hi e => ?_)
  obtain ⟨cur, f, h1⟩ := own_type HN2.out hi
  have e2 : i = w.heap.size + 1 := e
  subst e2
  have h2 : w2.heap[w.heap.size + 1]? = some (.cells rsZ rsuT (0, 0)) := HB2.out
  rw [h2] at h1
  simp only [Option.some.injEq, Obj.cells.injEq] at h1
  exact absurd h1.2.1 (by decide)
/-- Do, on the reference's tree. -/
theorem do_ref (base g : Nat) (room : Int) (v : Value) (E : List Ent) (o : OpV) (sess z : Int) (w : World) (h : RefA w base g room v E) (hr : Rising (keysR (entL E))) (hok : EntsK E) (hE : E.length ≤ 100000) (hp : o.path.size ≤ 1000000) (hd : o.data.size ≤ 1000000) :
    Calls Tryz.prog 10 #[.pointer (some ⟨g, 0, none⟩), .agg #[.int .i64 o.kind, .string o.path, .string o.data, .int .i64 o.ver, .int .i64 o.flags], .int .i64 sess, .int .i64 z] w fun e w' => RDPost w base g room v (doL room (entL E) o sess z) e w' := by
  obtain ⟨k, p, d, ver, f⟩ := o
  by_cases hb : goodO ⟨k, p, d, ver, f⟩ ≠ 0 ∨ sess < 1 ∨ z < 0
  · exact do_bad base g room v E k p d ver f sess z w h hp hd hb
  · have hg : goodO ⟨k, p, d, ver, f⟩ = 0 ∧ 1 ≤ sess ∧ 0 ≤ z := by
      refine ⟨Classical.not_not.1 fun e => hb (.inl e), ?_, ?_⟩ <;> omega
    obtain ⟨h1, h7, _⟩ := good_kind hg.1
    have h1 : 1 ≤ k := h1
    have h7 : k ≤ 7 := h7
    by_cases hk : k = 1
    · exact do_create base g room v E k p d ver f sess z w h hr hp hd hg hk hok hE
    · cases hm : mget (entL E) p with
      | none => exact do_none base g room v E k p d ver f sess z w h hp hd hg hk hm
      | some n =>
        by_cases h5 : k = 5 ∨ k = 6 ∨ k = 7
        · exact do_read base g room v E k p d ver f sess z w h hr hp hd hg hk hm h5
        · have h4 : k = 2 ∨ k = 3 ∨ k = 4 := by omega
          cases hw : wrongB ⟨k, p, d, ver, f⟩ n with
          | true => exact do_wrong base g room v E k p d ver f sess z w h hr hp hd hg hk hm h4 hw
          | false =>
            rcases h4 with h4 | h4 | h4
            · exact do_del base g room v E k p d ver f sess z w h hr hp hd hg hk hm h4 hok hE hw
            · exact do_set base g room v E k p d ver f sess z w h hr hp hd hg hk hm h4 hok hw
            · exact do_check base g room v E k p d ver f sess z w h hr hp hd hg hk hm h4 hw
end Go.Proofs.YtdagikbdpeblhaaGreatDoor

/- Walks of package tree: Of. -/
namespace Go.Proofs.YtdagikbdpeblhaaGreatDoor
set_option maxRecDepth 100000
open Go.RowKit Av

def ownB (t : Tr) (sess : Int) (p : Bs) : Bool := decide (0 < sess) && (match mget t ⟨p.toArray⟩ with
  | none => false
  | some e => e.2.own == sess)
def OfLoop (w1 : World) (t : Tr) (L : List Bs) (sess : Int) (s5 s11 : Value) (wr : World) : Prop := ∃ (k : Nat) (v : Value), k ≤ L.length ∧ s11 = .int .i64 k ∧ s5 = v ∧ wr.ownsRow w1.heap.size strT 1 v ((L.take k).filter (ownB t sess)).length (((L.take k).filter (ownB t sess)).map encStr) ∧ Ext w1 wr
theorem filter_yes {f : Bs → Bool} {L : List Bs} {k : Nat} (hk : k < L.length) (h : f L[k] = true) : (L.take (k + 1)).filter f = (L.take k).filter f ++ [L[k]] := by
  rw [List.take_succ_eq_append_getElem hk, List.filter_append]
  simp [h]
theorem filter_no {f : Bs → Bool} {L : List Bs} {k : Nat} (hk : k < L.length) (h : f L[k] = false) : (L.take (k + 1)).filter f = (L.take k).filter f := by
  rw [List.take_succ_eq_append_getElem hk, List.filter_append]
  simp [h]
set_option maxHeartbeats 1600000 in
theorem treeOf_any (base b m : Nat) (room : Int) (t : Tr) (sess : Int) (w : World) (hT : TreeR w base b m room t) (hs : ∀ e ∈ t, e.1.size ≤ maxLen) (hn : t.length ≤ 100000) :
    Calls Tryz.prog 20 #[.pointer (some ⟨b, 0, none⟩), .int .i64 sess] w fun e w' => PathsPost w ((pathsP (pl t)).filter (ownB t sess)) e w' := by
  have HP := Lib.hid (treePaths_any base b m room t w hT hs (by omega))
  have HT := Lib.hid hT
  have HM : Hid (∀ x ∈ pathsP (pl t), ∃ g n, mget t ⟨x.toArray⟩ = some (g, n)) := by
    intro x hx
    obtain ⟨e, he, rfl⟩ := pathsP_mem.1 hx
    obtain ⟨y, hy, rfl⟩ := List.mem_map.1 he
    refine ⟨y.2.1, y.2.2, ?_⟩
    rw [bytes_self]
    exact mget_of_mem hT.keys hy
  have hlen : (pathsP (pl t)).length ≤ 100000 := by rw [pathsP_len, pl_len]; exact hn
  generalize pathsP (pl t) = L at HP HM hlen ⊢
  clear hT hs hn
  go_enter Tryz.func20, Tryz.ntmps20
  go_wp2_with (fail)
  refine HP.out.mono ?_
  rintro e w1 ⟨v, rfl, ho, hx⟩
  obtain ⟨a, c, hsl, hop⟩ : ∃ a c, v = .slice a L.length c ∧ (0 < L.length → ∃ g off, a = some ⟨g, off, none⟩ ∧ ∀ k (hk : k < L.length), w1.cell? ⟨g, off + k, none⟩ = some (encStr L[k])) := by
    obtain ⟨a, c, e, _, _, _, h⟩ := Sl.open (Sl.of_owns ho)
    refine ⟨a, c, e, fun h0 => ?_⟩
    obtain ⟨g, off, e2, _, hc⟩ := h h0
    exact ⟨g, off, e2, fun k hk => hc k _ (by rw [List.getElem?_map, List.getElem?_eq_getElem hk]; rfl)⟩
  subst hsl
  have HOP := Lib.hid hop
  have HX := Lib.hid hx
  clear ho hop hx HP
  go_wp2_with (fail)
  go_loopw [5, 11] (fun s5 s11 wr => OfLoop w1 t L sess s5 s11 wr) (fun _ s11 _ => L.length - (intOf s11).toNat)
  case atStart => exact ⟨0, .slice none 0 0, Nat.zero_le _, rfl, rfl, by simp; exact ⟨rfl, .inl ⟨rfl, rfl⟩⟩, Kp.refl _ _⟩
  case round =>
    obtain ⟨k, v, hk, rfl, rfl, how, hxr⟩ := hrel
    have HOW := Lib.hid how
    have HXR := Lib.hid hxr
    obtain ⟨va, vc, rfl⟩ := owns_slice how
    clear how hxr
    by_cases hlt : k < L.length
    · obtain ⟨g, off, rfl, hcl⟩ := HOP.out (by omega)
      have hc := HXR.out.cell (hcl k hlt) (fun f => f)
      obtain ⟨gn, n, hg⟩ := HM.out L[k] (List.getElem_mem hlt)
      have hT := (HT.out.ext HX.out).ext HXR.out
      have hlk := tree_look hT ⟨(L[k]).toArray⟩
      rw [hg] at hlk
      simp only [Option.map_some, Option.getD_some] at hlk
      have c1 := hT.blk.cell 1 _ rfl
      obtain ⟨nv, hnb, _⟩ := hT.nod _ (mget_mem hg)
      have n4 : wr.cell? ⟨gn, 4, none⟩ = some (.int .i64 n.own) := hnb.cell 4 _ rfl
      have HYES := Lib.hid (fun h => filter_yes (f := ownB t sess) hlt h)
      have HNO := Lib.hid (fun h => filter_no (f := ownB t sess) hlt h)
      have HOB : Hid (ownB t sess L[k] = (decide (0 < sess) && (n.own == sess))) := by show _ = _; unfold ownB; rw [hg]
      have hflen := Lib.hid (List.length_filter_le (ownB t sess) (L.take k))
      have HTK : Hid ((L.take k).length ≤ 100000) := by show _ ≤ _; rw [List.length_take]; omega
      generalize L[k] = p at hc hlk HYES HNO HOB
      unfold encStr at hc
      clear hg hT hnb hcl
      by_cases h0 : 0 < sess
      · by_cases h1 : n.own = sess
        · have hb1 : (n.own == sess) = true := by simpa using h1
          have hyes := HYES.out (by rw [HOB.out, hb1]; simp [h0])
          have HY := Lib.hid hyes
          clear hyes HYES HNO HOB
          generalize (L.take k).filter (ownB t sess) = F at *
          have hFl : F.length ≤ 100000 := Nat.le_trans hflen.out HTK.out
          go_wp2_with (at_builtin; refine wpList_app1 36 strT str_facts rfl _ _ rfl w1.heap.size _ F.length (F.map encStr) rfl (ownsRow.ext HOW.out ((Kp.refl _ wr).alloc _)) wr.heap.size 1 (encStr p) rfl (Blk.cell (heap_alloc_new wr _) 0 _ rfl) rfl ?c1 ?c2 ?_)
          case c1 => omega
          case c2 => exact Nat.le_trans HXR.out.size (Nat.le_succ _)
          intro v' w' h1' h2'
          go_wp2_with (fail)
          go_light
          refine ⟨⟨k + 1, v', by omega, by go_num, rfl, ?_, ?_⟩, by simp [intOf]; omega⟩
          · rw [HY.out, List.length_append, List.map_append]
            exact h1'
          · exact (HXR.out.alloc _).next h2' (fun i hi e => by have := (own_in HOW.out e).1; omega)
        · have hb1 : (n.own == sess) = false := by simpa using h1
          have hno := HNO.out (by rw [HOB.out, hb1]; simp)
          have HNX := Lib.hid hno
          clear hno HYES HNO HOB
          go_wp2_with (fail)
          go_light
          exact ⟨⟨k + 1, _, by omega, by go_num, rfl, by rw [HNX.out]; exact HOW.out, HXR.out⟩, by simp [intOf]; omega⟩
      · have hno := HNO.out (by rw [HOB.out]; simp [h0])
        have HNX := Lib.hid hno
        clear hno HYES HNO HOB
        go_wp2_with (fail)
        go_light
        exact ⟨⟨k + 1, _, by omega, by go_num, rfl, by rw [HNX.out]; exact HOW.out, HXR.out⟩, by simp [intOf]; omega⟩
    · have hk2 : k = L.length := by omega
      subst hk2
      rw [List.take_length] at HOW ⊢
      go_wp2_with (fail)
      go_ret
      exact ⟨_, rfl, own_less HOW.out HX.out.size, HX.out.trans HXR.out⟩
end Go.Proofs.YtdagikbdpeblhaaGreatDoor

/- Walks over the reference's tree: Of. -/
namespace Go.Proofs.YtdagikbdpeblhaaGreatDoor
set_option maxRecDepth 100000
open Go.RowKit Av

def ownE (sess : Int) (e : Ent) : Bool := decide (0 < sess) && (e.n.own == sess)
def ofR (E : List Ent) (sess : Int) : List Bs := (E.filter (ownE sess)).map fun e => e.p.data.toList
theorem ofR_yes {E : List Ent} {sess : Int} {k : Nat} (hk : k < E.length) (h : ownE sess E[k] = true) : ofR (E.take (k + 1)) sess = ofR (E.take k) sess ++ [E[k].p.data.toList] := by
  unfold ofR
  rw [List.take_succ_eq_append_getElem hk, List.filter_append]
  simp [h]
theorem ofR_no {E : List Ent} {sess : Int} {k : Nat} (hk : k < E.length) (h : ownE sess E[k] = false) : ofR (E.take (k + 1)) sess = ofR (E.take k) sess := by
  unfold ofR
  rw [List.take_succ_eq_append_getElem hk, List.filter_append]
  simp [h]
theorem ofR_len (E : List Ent) (sess : Int) (k : Nat) : (ofR (E.take k) sess).length ≤ E.length := by
  unfold ofR
  rw [List.length_map]
  exact Nat.le_trans (List.length_filter_le _ _) (by rw [List.length_take]; omega)
theorem ofR_none (E : List Ent) {sess : Int} (h : ¬ 0 < sess) : ofR E sess = [] := by
  unfold ofR ownE
  simp [h]
def OfRel (w : World) (E : List Ent) (sess : Int) (s5 s6 : Value) (wr : World) : Prop := ∃ k, k ≤ E.length ∧ s6 = .int .i64 k ∧ wr.ownsRow w.heap.size strT 1 s5 (ofR (E.take k) sess).length ((ofR (E.take k) sess).map encStr) ∧ Ext w wr
set_option maxHeartbeats 1600000 in
theorem of_ref (base g : Nat) (room : Int) (v : Value) (E : List Ent) (sess : Int) (w : World) (h : RefA w base g room v E) (hE : E.length ≤ 100000) :
    Calls Tryz.prog 21 #[.pointer (some ⟨g, 0, none⟩), .int .i64 sess] w fun e w' => PathsPost w (ofR E sess) e w' := by
  obtain ⟨a, c, rfl, hm, hop⟩ := h.ents.at
  have HB := Lib.hid h.blk
  have HOP : Hid (∀ k (hk : k < E.length), ∃ b off, a = some ⟨b, off, none⟩ ∧ w.cell? ⟨b, off + k * 11, none⟩ = some (.string E[k].p) ∧ w.cell? ⟨b, off + k * 11 + 5, none⟩ = some (.int .i64 E[k].n.own)) := fun k hk => by
    obtain ⟨b, off, e, _, hc⟩ := hop (by omega)
    have h0 := hc k hk 0 (.string E[k].p) (by omega) rfl
    rw [Nat.add_zero] at h0
    exact ⟨b, off, e, h0, hc k hk 5 _ (by omega) rfl⟩
  clear h hop
  unfold maxLen at hm
  by_cases h0 : 0 < sess
  · go_enter Tryz.func21, Tryz.ntmps21
    go_wp2_with (fail)
    go_loopw [5, 6] (fun s5 s6 wr => OfRel w E sess s5 s6 wr) (fun _ s6 _ => E.length - (intOf s6).toNat)
    case atStart => exact ⟨0, Nat.zero_le _, rfl, by simp [ofR]; exact ⟨rfl, .inl ⟨rfl, rfl⟩⟩, Kp.refl _ _⟩
    case round =>
      obtain ⟨k, hk, rfl, how, hxr⟩ := hrel
      have HOW := Lib.hid how
      have HXR := Lib.hid hxr
      obtain ⟨va, vc, rfl⟩ := owns_slice how
      have c1 := (HB.out.kp hxr (fun f => f)).cell 1 _ rfl
      clear how
      by_cases hlt : k < E.length
      · have hkI : (k : Int) < (E.length : Int) := by omega
        have hk0 : (0 : Int) ≤ (k : Int) := by omega
        obtain ⟨b, off, rfl, hc0, hc5⟩ := HOP.out k hlt
        have e0 := hxr.cell hc0 (fun f => f)
        have e5 := hxr.cell hc5 (fun f => f)
        have HYES := Lib.hid (fun h => ofR_yes (sess := sess) hlt h)
        have HNO := Lib.hid (fun h => ofR_no (sess := sess) hlt h)
        have HOB : Hid (ownE sess E[k] = (E[k].n.own == sess)) := by show _ = _; unfold ownE; simp [h0]
        have hFl := ofR_len E sess k
        generalize E[k] = x at e0 e5 HYES HNO HOB
        obtain ⟨xp, xn, xv⟩ := x
        simp only at e0 e5 HYES HNO HOB
        clear hxr hc0 hc5
        by_cases h1 : xn.own = sess
        · have hb1 : (xn.own == sess) = true := by simpa using h1
          have hyes := HYES.out (by rw [HOB.out, hb1])
          have HY := Lib.hid hyes
          have hen : (Value.string xp) = encStr xp.data.toList := rfl
          clear hyes HYES HNO HOB h1
          generalize ofR (E.take k) sess = F at *
          rw [hen] at e0
          generalize xp.data.toList = p at e0 HY
          go_wp2_with (at_builtin; refine wpList_app1 36 strT str_facts rfl _ _ rfl w.heap.size _ F.length (F.map encStr) rfl (ownsRow.ext HOW.out ((Kp.refl _ wr).alloc _)) wr.heap.size 1 (encStr p) rfl (Blk.cell (heap_alloc_new wr _) 0 _ rfl) rfl ?c1 ?c2 ?_)
          case c1 => omega
          case c2 => exact Nat.le_trans HXR.out.size (Nat.le_succ _)
          intro v' w' h1' h2'
          go_wp2_with (fail)
          go_light
          refine ⟨⟨k + 1, ?_, ?_, ?_, ?_⟩, ?_⟩
          · omega
          · go_num
          · rw [HY.out, List.length_append, List.map_append]
            exact h1'
          · exact (HXR.out.alloc _).next h2' (fun i hi e => by have := (own_in HOW.out e).1; omega)
          · simp [intOf]; omega
        · have hb1 : (xn.own == sess) = false := by simpa using h1
          have hno := HNO.out (by rw [HOB.out, hb1])
          have HNX := Lib.hid hno
          clear hno HYES HNO HOB h1
          go_wp2_with (fail)
          go_light
          refine ⟨⟨k + 1, ?_, ?_, ?_, ?_⟩, ?_⟩
          · omega
          · go_num
          · rw [HNX.out]; exact HOW.out
          · exact HXR.out
          · simp [intOf]; omega
      · have hk2 : k = E.length := by omega
        subst hk2
        have hkI : ¬ (E.length : Int) < (E.length : Int) := by omega
        rw [List.take_length] at HOW
        clear hxr
        go_wp2_with (fail)
        go_ret
        exact ⟨_, rfl, HOW.out, HXR.out⟩
  · have HNN := Lib.hid (ofR_none E h0)
    have c1 := HB.out.cell 1 _ rfl
    go_enter Tryz.func21, Tryz.ntmps21
    go_wp2_with (fail)
    go_loopw [5, 6] (fun s5 s6 wr => s5 = .slice none 0 0 ∧ s6 = .int .i64 0 ∧ wr = w) (fun _ _ _ => 0)
    case atStart => exact ⟨rfl, rfl, rfl⟩
    case round =>
      obtain ⟨rfl, rfl, rfl⟩ := hrel
      have hd : decide (0 < sess) = false := decide_eq_false (by omega)
      by_cases hz : (0 : Int) < (E.length : Int)
      · have hz2 : decide ((0 : Int) < (E.length : Int)) = true := decide_eq_true hz
        go_wp2_with (fail)
        all_goals first
          | (exfalso; simp_all; done)
          | (go_ret
             rw [HNN.out]
             exact ⟨_, rfl, ⟨rfl, .inl ⟨rfl, rfl⟩⟩, Kp.refl _ _⟩)
      · go_wp2_with (fail)
        go_ret
        rw [HNN.out]
        exact ⟨_, rfl, ⟨rfl, .inl ⟨rfl, rfl⟩⟩, Kp.refl _ _⟩
end Go.Proofs.YtdagikbdpeblhaaGreatDoor

/- Walks: package aviaryref5: One, at two results that tell the same. -/
namespace Go.Proofs.YtdagikbdpeblhaaGreatDoor
set_option maxRecDepth 100000
open Go.RowKit Av

theorem strs_nmo {w : World} {v : Value} {l : List Bs} (h : NmO w v l) : Strs w v (l.map fun x => (⟨x.toArray⟩ : ByteArray)) := by
  have h1 := Sl.of_owns h
  unfold Strs
  rw [List.length_map, List.map_map]
  exact h1
set_option maxHeartbeats 3200000 in
theorem oneR_any (r : Rp) (va vb : Value) (w : World) (ha : NmO w va r.names) (hb : NmO w vb r.names) : Calls Tryz.prog 8 #[resA r.err r.path r.data va r.st, resA r.err r.path r.data vb r.st] w fun e w' => e = .returned (.bool true) ∧ Ext w w' := by
  obtain ⟨er, p, d, nm, ⟨s0, s1, s2, s3, s4, s5, s6, s7, s8, s9⟩⟩ := r
  unfold resA
  simp only at ha hb ⊢
  obtain ⟨aa, ac, rfl⟩ := owns_slice ha
  obtain ⟨ba, bc, rfl⟩ := owns_slice hb
  have HS := Lib.hid (fun W (hW : Ext w W) => refSame_any (.slice aa nm.length ac) (.slice ba nm.length bc) _ _ W (strs_nmo (ownsRow.ext ha hW)) (strs_nmo (ownsRow.ext hb hW)))
  simp only [decide_true] at HS
  obtain ⟨wA, hWA⟩ : ∃ wA, (w.alloc (.cells #[.int .i64 er, .string p, .string d, .slice aa nm.length ac, .int .i64 s0, .int .i64 s1, .int .i64 s2, .int .i64 s3, .int .i64 s4, .int .i64 s5, .int .i64 s6] rsuT)).alloc (.cells #[.int .i64 er, .string p, .string d, .slice ba nm.length bc, .int .i64 s0, .int .i64 s1, .int .i64 s2, .int .i64 s3, .int .i64 s4, .int .i64 s5, .int .i64 s6] rsuT) = wA := ⟨_, rfl⟩
  have hxA : Ext w wA := by rw [← hWA]; exact ((Kp.refl _ _).alloc _).alloc _
  have hA : Blk wA w.heap.size #[.int .i64 er, .string p, .string d, .slice aa nm.length ac, .int .i64 s0, .int .i64 s1, .int .i64 s2, .int .i64 s3, .int .i64 s4, .int .i64 s5, .int .i64 s6] rsuT := by
    rw [← hWA]
    exact Blk.kp (heap_alloc_new w _) ((Kp.refl (fun _ => False) _).alloc _) (fun f => f)
  have hB : Blk wA (w.heap.size + 1) #[.int .i64 er, .string p, .string d, .slice ba nm.length bc, .int .i64 s0, .int .i64 s1, .int .i64 s2, .int .i64 s3, .int .i64 s4, .int .i64 s5, .int .i64 s6] rsuT := by
    rw [← hWA]
    have := heap_alloc_new (w.alloc (.cells #[.int .i64 er, .string p, .string d, .slice aa nm.length ac, .int .i64 s0, .int .i64 s1, .int .i64 s2, .int .i64 s3, .int .i64 s4, .int .i64 s5, .int .i64 s6] rsuT)) (.cells #[.int .i64 er, .string p, .string d, .slice ba nm.length bc, .int .i64 s0, .int .i64 s1, .int .i64 s2, .int .i64 s3, .int .i64 s4, .int .i64 s5, .int .i64 s6] rsuT)
    rw [World.size_alloc] at this
    exact this
  have HA := Lib.hid hA
  have HB := Lib.hid hB
  have HX := Lib.hid hxA
  have HWA := Lib.hid hWA
  have a0 := hA.cell 0 _ rfl
  have a1 := hA.cell 1 _ rfl
  have a2 := hA.cell 2 _ rfl
  have a3 := hA.cell 3 _ rfl
  have a4 := hA.cell 4 _ rfl
  have a5 := hA.cell 5 _ rfl
  have a6 := hA.cell 6 _ rfl
  have a7 := hA.cell 7 _ rfl
  have a8 := hA.cell 8 _ rfl
  have a9 := hA.cell 9 _ rfl
  have a10 := hA.cell 10 _ rfl
  have b0 := hB.cell 0 _ rfl
  have b1 := hB.cell 1 _ rfl
  have b2 := hB.cell 2 _ rfl
  have b3 := hB.cell 3 _ rfl
  have b4 := hB.cell 4 _ rfl
  have b5 := hB.cell 5 _ rfl
  have b6 := hB.cell 6 _ rfl
  have b7 := hB.cell 7 _ rfl
  have b8 := hB.cell 8 _ rfl
  have b9 := hB.cell 9 _ rfl
  have b10 := hB.cell 10 _ rfl
  clear hA hB hxA hWA ha hb
  go_enter Tryz.func8, Tryz.ntmps8
  go_upto_region 1 with (fail)
  rw [HWA.out]
  go_wp2_with (fail)
  refine (HS.out wA HX.out).mono ?_
  rintro e w1 ⟨rfl, hx1⟩
  have hA1 := HA.out.kp hx1 (fun f => f)
  have hB1 := HB.out.kp hx1 (fun f => f)
  have HX1 := Lib.hid (HX.out.ext hx1)
  clear hx1 a0 a1 a2 a3 a4 a5 a6 a7 a8 a9 a10 b0 b1 b2 b3 b4 b5 b6 b7 b8 b9 b10
  have a0 := hA1.cell 0 _ rfl
  have a1 := hA1.cell 1 _ rfl
  have a2 := hA1.cell 2 _ rfl
  have a3 := hA1.cell 3 _ rfl
  have a4 := hA1.cell 4 _ rfl
  have a5 := hA1.cell 5 _ rfl
  have a6 := hA1.cell 6 _ rfl
  have a7 := hA1.cell 7 _ rfl
  have a8 := hA1.cell 8 _ rfl
  have a9 := hA1.cell 9 _ rfl
  have a10 := hA1.cell 10 _ rfl
  have b0 := hB1.cell 0 _ rfl
  have b1 := hB1.cell 1 _ rfl
  have b2 := hB1.cell 2 _ rfl
  have b3 := hB1.cell 3 _ rfl
  have b4 := hB1.cell 4 _ rfl
  have b5 := hB1.cell 5 _ rfl
  have b6 := hB1.cell 6 _ rfl
  have b7 := hB1.cell 7 _ rfl
  have b8 := hB1.cell 8 _ rfl
  have b9 := hB1.cell 9 _ rfl
  have b10 := hB1.cell 10 _ rfl
  clear hA1 hB1
  go_wp2_with (fail)
  go_ret
  go_light
  refine ⟨ret_bool ?_, HX1.out⟩
  simp
end Go.Proofs.YtdagikbdpeblhaaGreatDoor
