/- Texts put together: AvRefO, AvRefB. -/
import Derived.Test.YtdagikbdpeblhaaGreatDoorAvHRefL
import Derived.Test.YtdagikbdpeblhaaGreatDoorAvG26
import Derived.Test.YtdagikbdpeblhaaGreatDoorAvG10
import Derived.Test.YtdagikbdpeblhaaGreatDoorAvHDagX

/- Walks over the reference's tree: a parent's node is written in place: orphan. -/
namespace Go.Proofs.YtdagikbdpeblhaaGreatDoor
set_option maxRecDepth 100000
open Go.RowKit Av

theorem setMs_flatE {α : Type} (f : α → List Value) (K : Nat) (hf : ∀ x, (f x).length = K) (xs : List α) (i : Nat) (hi : i < xs.length) (x : α) : setMs (xs.flatMap f) (i * K) (f x) = (xs.set i x).flatMap f := by
  have e : xs.flatMap f = (xs.take i).flatMap f ++ f xs[i] ++ (xs.drop (i + 1)).flatMap f := by
    have e0 : xs = xs.take i ++ xs[i] :: xs.drop (i + 1) := by rw [← List.drop_eq_getElem_cons hi, List.take_append_drop]
    conv => lhs; rw [e0]
    rw [List.flatMap_append, List.flatMap_cons, List.append_assoc]
  have hl : ((xs.take i).flatMap f).length = i * K := by rw [rowK_len f K hf, List.length_take, Nat.min_eq_left (by omega)]
  rw [e, ← hl, setMs_mid _ _ _ _ (by rw [hf, hf]), List.set_eq_take_append_cons_drop, if_pos hi]
  simp
def ndL (n : NodeV) (nv : Value) : List Value := [.int .i64 n.made, .int .i64 n.chg, .int .i64 n.ver, .int .i64 n.kids, .int .i64 n.own, .int .i64 n.len, .int .i64 n.cnt, .string n.data, .int .i64 n.next, nv]
theorem put_node {w : World} {q c k : Nat} {E : List Ent} (h : RowB w q entT 11 c (E.flatMap entC)) (hk : k < E.length) (n : NodeV) (nv : Value) : RowB (w.setCells q (k * 11 + 1) (ndL n nv)) q entT 11 c ((E.set k ⟨E[k].p, n, nv⟩).flatMap entC) := by
  have h1 := RowB.setCells (ndL n nv) (k * 11 + 1) h
  have h2 := setMs_flatE entC 11 entC_len E k hk ⟨E[k].p, n, nv⟩
  have hc : (E.flatMap entC)[k * 11]? = some (.string E[k].p) := by
    have := rowK_cell entC 11 entC_len E k hk 0 (by omega)
    rw [Nat.add_zero] at this
    rw [this]; rfl
  have h3 : (E.flatMap entC).set (k * 11) (.string E[k].p) = E.flatMap entC := by
    obtain ⟨hi, he⟩ := List.getElem?_eq_some_iff.1 hc
    rw [← he]
    exact List.set_getElem_self hi
  have h4 : setMs (E.flatMap entC) (k * 11) (entC ⟨E[k].p, n, nv⟩) = setMs ((E.flatMap entC).set (k * 11) (.string E[k].p)) (k * 11 + 1) (ndL n nv) := rfl
  rw [← h2, h4, h3]
  exact h1
/-- A tree, one of whose nodes was written. -/
theorem RefA.node {w : World} {base g : Nat} {room : Int} {v : Value} {E : List Ent} (h : RefA w base g room v E) {k : Nat} (hk : k < E.length) (n : NodeV) (nv : Value) (hn : NmO w nv n.names) : ∃ q c, v = .slice (some ⟨q, 0, none⟩) E.length c ∧ RowB w q entT 11 c (E.flatMap entC) ∧ RefA (w.setCells q (k * 11 + 1) (ndL n nv)) base g room v (E.set k ⟨E[k].p, n, nv⟩) ∧ Kp (fun i => i = q) w (w.setCells q (k * 11 + 1) (ndL n nv)) := by
  obtain ⟨a, c, rfl⟩ := owns_slice h.ents.row
  have ha : ∃ ad, a = some ad := by
    rcases h.ents.row.2 with ⟨h1, h2⟩ | ⟨q, cc, cur, h1, _⟩
    · omega
    · simp only [Value.slice.injEq] at h1
      exact ⟨_, h1.1⟩
  obtain ⟨ad, rfl⟩ := ha
  obtain ⟨q, rfl, hr, hl, hnc, hm, hb⟩ := RowB.of_owns h.ents.row
  have hp := put_node hr hk n nv
  have hkp : Kp (fun i => i = q) w (w.setCells q (k * 11 + 1) (ndL n nv)) := kp_setCells _ _ _
  obtain ⟨cur, hq, _, _⟩ := hr
  have hr : RowB w q entT 11 c (E.flatMap entC) := by
    obtain ⟨q2, e2, hr, _⟩ := RowB.of_owns h.ents.row
    simp only [Addr.mk.injEq, and_true] at e2
    rw [e2]
    exact hr
  have hno : NoT w (fun i => i = q) strT := fun i e cur2 f hc => by
    have e2 : i = q := e
    subst e2
    rw [hq] at hc
    simp only [Option.some.injEq, Obj.cells.injEq] at hc
    exact absurd hc.2.1 (by decide)
  refine ⟨q, c, rfl, hr, ⟨h.low, h.blk.kp hkp (fun e => ?_), ⟨?_, fun e he => ?_⟩⟩, hkp⟩
  · have e2 : g = q := e
    subst e2
    have h1 : w.heap[g]? = some (.cells _ rtT (0, 0)) := h.blk
    rw [hq] at h1
    simp only [Option.some.injEq, Obj.cells.injEq] at h1
    exact absurd h1.2.1 (by decide)
  · have h1 := hp.owns (m := E.length) (by rw [flatE_len, List.length_set]; exact Nat.le_refl _) hnc hm hb
    rw [List.take_of_length_le (by rw [flatE_len, List.length_set]; exact Nat.le_refl _)] at h1
    rw [List.length_set]
    exact h1
  · have h1 : EntOk w e := by
      rcases List.mem_or_eq_of_mem_set he with he | rfl
      · exact h.ents.ok e he
      · exact hn
    exact h1.kp hkp hno
/-- So, by a region that made memory besides. -/
theorem RefA.node2 {w w5 : World} {base g q c k : Nat} {room : Int} {E : List Ent} {e : Ent} (h : RefA w base g room (.slice (some ⟨q, 0, none⟩) E.length c) E) (hx : Kp (fun i => w.heap.size ≤ i ∨ i = q) w w5) (hp : RowB w5 q entT 11 c ((E.set k e).flatMap entC)) (he : EntOk w5 e) : RefA w5 base g room (.slice (some ⟨q, 0, none⟩) E.length c) (E.set k e) := by
  obtain ⟨q2, e2, hr, hl, hnc, hm, hb⟩ := RowB.of_owns h.ents.row
  simp only [Addr.mk.injEq, and_true] at e2
  subst e2
  obtain ⟨cur, hq, _, _⟩ := hr
  have hno : NoT w (fun i => w.heap.size ≤ i ∨ i = q) strT := fun i e cur2 f hc => by
    rcases e with e | e2
    · rw [Array.getElem?_eq_none e] at hc
      cases hc
    · subst e2
      rw [hq] at hc
      simp only [Option.some.injEq, Obj.cells.injEq] at hc
      exact absurd hc.2.1 (by decide)
  refine ⟨h.low, h.blk.kp hx (fun e => ?_), ⟨?_, fun x hx2 => ?_⟩⟩
  · rcases e with e | e2
    · have := h.blk.lt
      omega
    · subst e2
      have h1 : w.heap[g]? = some (.cells _ rtT (0, 0)) := h.blk
      rw [hq] at h1
      simp only [Option.some.injEq, Obj.cells.injEq] at h1
      exact absurd h1.2.1 (by decide)
  · have h1 := hp.owns (m := E.length) (by rw [flatE_len, List.length_set]; exact Nat.le_refl _) hnc hm hb
    rw [List.take_of_length_le (by rw [flatE_len, List.length_set]; exact Nat.le_refl _)] at h1
    rw [List.length_set]
    exact h1
  · rcases List.mem_or_eq_of_mem_set hx2 with hx2 | rfl
    · have h1 : EntOk w x := h.ents.ok x hx2
      exact h1.kp hx hno
    · exact he
/-- Entries whose numbers are in bounds. -/
def EntsK (E : List Ent) : Prop := ∀ e ∈ E, NodeOk e.n
theorem at_ent {E : List Ent} (hr : Rising (keysR (entL E))) {p : ByteArray} {n : NodeV} (h : mget (entL E) p = some n) : ∃ hk : atR (entL E) p < E.length, E[atR (entL E) p].p = p ∧ E[atR (entL E) p].n = n := by
  have h1 := at_some hr h
  have hk : atR (entL E) p < E.length := by
    have := (List.getElem?_eq_some_iff.1 h1).1
    rwa [show (entL E).length = E.length from List.length_map _] at this
  rw [entL_at E _ hk] at h1
  simp only [Option.some.injEq, Prod.mk.injEq] at h1
  exact ⟨hk, h1.1, h1.2⟩
theorem entL_set (E : List Ent) (k : Nat) (e : Ent) : entL (E.set k e) = (entL E).set k (e.p, e.n) := by unfold entL; rw [List.map_set]
def NdV (M : NodeV) (v : Value) (w' : World) : Prop := ∃ a c u, v = .tuple #[.agg #[.int .i64 M.made, .int .i64 M.chg, .int .i64 M.ver, .int .i64 M.kids, .int .i64 M.own, .int .i64 M.len, .int .i64 M.cnt, .string M.data, .int .i64 M.next, .slice a M.names.length c], u] ∧ NmO w' (.slice a M.names.length c) M.names
theorem NdV.ext {M : NodeV} {v : Value} {w w' : World} (h : NdV M v w) (k : Ext w w') : NdV M v w' := by
  obtain ⟨a, c, u, h1, h2⟩ := h
  exact ⟨a, c, u, h1, ownsRow.ext h2 k⟩
def NdU (M : NodeV) (v : Value) (w' : World) : Prop := ∃ a c, v = .agg #[.int .i64 M.made, .int .i64 M.chg, .int .i64 M.ver, .int .i64 M.kids, .int .i64 M.own, .int .i64 M.len, .int .i64 M.cnt, .string M.data, .int .i64 M.next, .slice a M.names.length c] ∧ NmO w' (.slice a M.names.length c) M.names
theorem NdU.ext {M : NodeV} {v : Value} {w w' : World} (h : NdU M v w) (k : Ext w w') : NdU M v w' := by
  obtain ⟨a, c, h1, h2⟩ := h
  exact ⟨a, c, h1, ownsRow.ext h2 k⟩
theorem NdV.kp {S : Nat → Prop} {M : NodeV} {v : Value} {w w' : World} (h : NdV M v w) (k : Kp S w w') (hno : NoT w S strT) : NdV M v w' := by
  obtain ⟨a, c, u, h1, h2⟩ := h
  refine ⟨a, c, u, h1, ownsRow.kp h2 k (fun i hi e => ?_)⟩
  obtain ⟨cur, f, h4⟩ := own_type h2 hi
  exact hno i e cur f h4
theorem NdU.kp {S : Nat → Prop} {M : NodeV} {v : Value} {w w' : World} (h : NdU M v w) (k : Kp S w w') (hno : NoT w S strT) : NdU M v w' := by
  obtain ⟨a, c, h1, h2⟩ := h
  refine ⟨a, c, h1, ownsRow.kp h2 k (fun i hi e => ?_)⟩
  obtain ⟨cur, f, h4⟩ := own_type h2 hi
  exact hno i e cur f h4
theorem NdU.own {M : NodeV} {a : Option Addr} {c : Nat} {w : World} (h : NdU M (.agg #[.int .i64 M.made, .int .i64 M.chg, .int .i64 M.ver, .int .i64 M.kids, .int .i64 M.own, .int .i64 M.len, .int .i64 M.cnt, .string M.data, .int .i64 M.next, .slice a M.names.length c]) w) : NmO w (.slice a M.names.length c) M.names := by
  obtain ⟨a2, c2, h1, h2⟩ := h
  simp only [Value.agg.injEq, Array.mk.injEq, List.cons.injEq, and_true, true_and, Value.slice.injEq] at h1
  rw [h1.1, h1.2]
  exact h2
theorem NdV.one {M : NodeV} {x u : Value} {w : World} (h : NdV M (.tuple #[x, u]) w) : NdU M x w := by
  obtain ⟨a, c, u', h1, h2⟩ := h
  simp only [Value.tuple.injEq, Array.mk.injEq, List.cons.injEq, and_true] at h1
  exact ⟨a, c, h1.1, h2⟩
theorem presL_refl (c : List Tmp) (w : World) : ∀ S : List (Tmp × TSpec), PresL c w w S
  | [] => trivial
  | _ :: r => ⟨.inr fun _ h => h, presL_refl c w r⟩
theorem rowE {W : World} {q c k : Nat} {E : List Ent} (hr : RowB W q entT 11 c (E.flatMap entC)) (hk : k < E.length) {xs : List Value} (he : entC E[k] = xs) (i : Nat) (u : Value) (hi : i < 11) (hu : xs[i]? = some u) : W.cell? ⟨q, k * 11 + i, none⟩ = some u :=
  hr.cell (by rw [rowK_cell entC 11 entC_len E k hk i hi, he]; exact hu)
def TellPost (w : World) (base g : Nat) (room : Int) (v : Value) (L : RL) (e : Ending) (w' : World) : Prop := ∃ u E', e = .returned u ∧ RefA w' base g room v E' ∧ entL E' = L ∧ Kp (fun i => v.ownBlock = some i) w w'
set_option maxHeartbeats 6400000 in
theorem orphan_ref (base g : Nat) (room : Int) (v : Value) (E : List Ent) (p : ByteArray) (w : World) (h : RefA w base g room v E) (hr : Rising (keysR (entL E))) (hok : EntsK E) (hp : p.size ≤ 1000000) :
    Calls Tryz.prog 53 #[.pointer (some ⟨g, 0, none⟩), .string p] w fun e w' => TellPost w base g room v (tellL ndRem (entL E) p) e w' := by
  have HPAR := Lib.hid (refParent_any p w (by unfold maxLen; omega))
  have HH := Lib.hid h
  cases hup : parentL p.data.toList with
  | none =>
    have HE : Hid (tellL ndRem (entL E) p = entL E) := by show _ = _; unfold tellL; rw [hup]
    rw [hup] at HPAR
    clear h hup
    go_enter Tryz.func53, Tryz.ntmps53
    go_wp2_with (fail)
    refine HPAR.out.mono ?_
    rintro e w1 ⟨rfl, hx1⟩
    simp only [Option.isSome_none]
    have HX1 := Lib.hid hx1
    clear hx1
    go_wp2_with (fail)
    go_end0
    exact ⟨_, E, rfl, HH.out.ext HX1.out, HE.out.symm, Ext.kp HX1.out⟩
  | some up =>
    have hul : up.length ≤ p.data.toList.length := by
      have e := child_of hup
      rw [← e]
      simp
    obtain ⟨s, hs⟩ : ∃ s : ByteArray, ⟨up.toArray⟩ = s := ⟨_, rfl⟩
    have hopt : optS (some up) = s := by rw [← hs]; rfl
    rw [hup, hopt] at HPAR
    have HAT := Lib.hid (fun W (hW : Ext w W) => at_any base g room v E s W (h.ext hW))
    cases hg : mget (entL E) s with
    | none =>
      have HE : Hid (tellL ndRem (entL E) p = entL E) := by show _ = _; unfold tellL; rw [hup]; simp only [hs, hg]
      rw [isAt_none hg] at HAT
      clear h hup hul hs hopt hg
      go_enter Tryz.func53, Tryz.ntmps53
      go_wp2_with (fail)
      refine HPAR.out.mono ?_
      rintro e w1 ⟨rfl, hx1⟩
      simp only [Option.isSome_some]
      have HX1 := Lib.hid hx1
      clear hx1
      go_wp2_with (fail)
      refine (HAT.out w1 HX1.out).mono ?_
      rintro e w2 ⟨rfl, hx2⟩
      have HX2 := Lib.hid (HX1.out.trans hx2)
      clear hx2
      go_wp2_with (fail)
      go_end0
      exact ⟨_, E, rfl, HH.out.ext HX2.out, HE.out.symm, Ext.kp HX2.out⟩
    | some n =>
      obtain ⟨hk, hkp, hkn⟩ := at_ent hr hg
      have hmem : E[atR (entL E) s] ∈ E := List.getElem_mem hk
      have hno := hok _ hmem
      have hnm : NmO w E[atR (entL E) s].nv E[atR (entL E) s].n.names := h.ents.ok _ hmem
      have HE : Hid (tellL ndRem (entL E) p = (entL E).set (atR (entL E) s) (s, ndRem n (lastL p.data.toList))) := by show _ = _; unfold tellL; rw [hup]; simp only [hs, hg]
      rw [isAt_some hr hg] at HAT
      have HNAME := Lib.hid (fun W => refName_any p W (by unfold maxLen; omega))
      obtain ⟨x, hx⟩ : ∃ x, lastL p.data.toList = x := ⟨_, rfl⟩
      rw [hx] at HE HNAME
      generalize hkk : atR (entL E) s = k at *
      rw [hkn] at hno hnm
      obtain ⟨nv, hnv⟩ : ∃ nv, E[k].nv = nv := ⟨_, rfl⟩
      rw [hnv] at hnm
      obtain ⟨na, nc, rfl⟩ := owns_slice hnm
      have HNM := Lib.hid hnm
      have HREM := Lib.hid (fun W (hW : NmO W (.slice na n.names.length nc) n.names) => remove10_any n (.slice na n.names.length nc) x W hW hno.few hno.kids)
      obtain ⟨M, hM⟩ : ∃ M, ndRem n x = M := ⟨_, rfl⟩
      rw [hM] at HREM HE
      have HCELL : Hid (∃ q c, v = .slice (some ⟨q, 0, none⟩) E.length c ∧ RowB w q entT 11 c (E.flatMap entC)) := by
        obtain ⟨q, c, h1, h2, _⟩ := h.node hk n (.slice na n.names.length nc) hnm
        exact ⟨q, c, h1, h2⟩
      have HKE : Hid (entC E[k] = [.string s, .int .i64 n.made, .int .i64 n.chg, .int .i64 n.ver, .int .i64 n.kids, .int .i64 n.own, .int .i64 n.len, .int .i64 n.cnt, .string n.data, .int .i64 n.next, .slice na n.names.length nc]) := by show _ = _; unfold entC; rw [hkp, hkn, hnv]
      have HKP := Lib.hid hkp
      clear h hup hul hs hopt hg hkp hkn hmem hno hnm hx hM hnv hkk
      obtain ⟨q, c, rfl, hrow⟩ := HCELL.out
      have HROW := Lib.hid hrow
      have hI1 : (0 : Int) ≤ (k : Int) := by omega
      have hI2 : (k : Int) < (E.length : Int) := by omega
      clear hrow HCELL
      go_enter Tryz.func53, Tryz.ntmps53
      go_wp2_with (fail)
      refine HPAR.out.mono ?_
      rintro e w1 ⟨rfl, hx1⟩
      simp only [Option.isSome_some]
      have HX1 := Lib.hid hx1
      clear hx1
      go_wp2_with (fail)
      refine (HAT.out w1 HX1.out).mono ?_
      rintro e w2 ⟨rfl, hx2⟩
      have HX2 := Lib.hid (HX1.out.trans hx2)
      have HH2 := Lib.hid (HH.out.ext HX2.out)
      have HR2 := Lib.hid (HROW.out.kp HX2.out (fun f => f))
      have HQ2 : Hid (q < w2.heap.size) := HR2.out.lt
      have HG2 : Hid (g < w2.heap.size) := HH2.out.blk.lt
      have HC2 : Hid (∀ W, Ext w2 W → ∀ i u, i < 11 → [Value.string s, .int .i64 n.made, .int .i64 n.chg, .int .i64 n.ver, .int .i64 n.kids, .int .i64 n.own, .int .i64 n.len, .int .i64 n.cnt, .string n.data, .int .i64 n.next, .slice na n.names.length nc][i]? = some u → W.cell? ⟨q, k * 11 + i, none⟩ = some u) := fun W hW i u hi hu => (HR2.out.kp hW (fun f => f)).cell (by rw [rowK_cell entC 11 entC_len E k hk i hi, HKE.out]; exact hu)
      have HGQ : Hid (g ≠ q) := fun e => by
        subst e
        obtain ⟨cur, h1, _⟩ := HR2.out
        have h2 : w2.heap[g]? = some (.cells _ rtT (0, 0)) := HH2.out.blk
        rw [h1] at h2
        simp only [Option.some.injEq, Obj.cells.injEq] at h2
        exact absurd h2.2.1 (by decide)
      have HGX : Hid (∀ W, Kp (fun i => w2.heap.size ≤ i ∨ i = q) w2 W → Blk W g _ rtT) := fun W hW => HH2.out.blk.kp hW (fun e => by
        have h1 : g < w2.heap.size := HG2.out
        rcases e with e | e
        · omega
        · exact HGQ.out e)
      have HNO : Hid (∀ W, (∃ E', RowB W q entT 11 c E') → NoT W (fun i => i = q) strT) := fun W hW i e cur2 f hc => by
        have e2 : i = q := e
        subst e2
        obtain ⟨_, cur, h1, _⟩ := hW
        rw [h1] at hc
        simp only [Option.some.injEq, Obj.cells.injEq] at hc
        exact absurd hc.2.1 (by decide)
      have HNMX : Hid (∀ W, Kp (fun i => w2.heap.size ≤ i ∨ i = q) w2 W → NmO W (.slice na n.names.length nc) n.names) := fun W hW => by
        have h2 : NmO w2 (.slice na n.names.length nc) n.names := ownsRow.ext HNM.out HX2.out
        refine ownsRow.kp h2 hW (fun i hi e => ?_)
        have h3 := (own_in h2 hi).2
        obtain ⟨cur, f, h4⟩ := own_type h2 hi
        rcases e with e | e
        · omega
        · exact HNO.out w2 ⟨_, HR2.out⟩ i e cur f h4
      clear hx2 HPAR HAT HX1 HROW HH
      go_upto_region 4 with (fail)
      refine' Av.X.wp_region_dagP (fun i => i = q) 22 [(35, [900], []), (9999, [901], [900])] [900, 901] ((23, .val _) :: (24, .val _) :: (25, .val _) :: (26, .val _) :: (27, .val _) :: (28, .val _) :: (29, .val _) :: (30, .val _) :: (31, .val _) :: (32, .val _) :: (33, .val _) :: (34, .val _) :: (35, ⟨fun v => v = .agg #[.int .i64 n.made, .int .i64 n.chg, .int .i64 n.ver, .int .i64 n.kids, .int .i64 n.own, .int .i64 n.len, .int .i64 n.cnt, .string n.data, .int .i64 n.next, .slice na n.names.length nc], fun _ _ => True⟩) :: (36, .val _) :: (37, .val _) :: (38, ⟨fun v => ∃ a c u, v = .tuple #[.agg #[.int .i64 M.made, .int .i64 M.chg, .int .i64 M.ver, .int .i64 M.kids, .int .i64 M.own, .int .i64 M.len, .int .i64 M.cnt, .string M.data, .int .i64 M.next, .slice a M.names.length c], u], fun v w' => NdV M v w'⟩) :: (22, ⟨fun v => ∃ a c u, v = .tuple #[.agg #[.int .i64 M.made, .int .i64 M.chg, .int .i64 M.ver, .int .i64 M.kids, .int .i64 M.own, .int .i64 M.len, .int .i64 M.cnt, .string M.data, .int .i64 M.next, .slice a M.names.length c], u], fun v w' => NdV M v w'⟩) :: (39, ⟨fun v => ∃ a c, v = .agg #[.int .i64 M.made, .int .i64 M.chg, .int .i64 M.ver, .int .i64 M.kids, .int .i64 M.own, .int .i64 M.len, .int .i64 M.cnt, .string M.data, .int .i64 M.next, .slice a M.names.length c], fun v w' => NdU M v w'⟩) :: (40, ⟨fun _ => True, fun _ _ => True⟩) :: (41, .val _) :: (42, .val _) :: (900, ⟨fun _ => True, fun _ w' => RowB w' q entT 11 c (E.flatMap entC)⟩) :: (901, ⟨fun _ => True, fun _ w' => RowB w' q entT 11 c (E.flatMap entC)⟩) :: (9999, ⟨fun _ => True, fun _ w' => ∃ nv, RowB w' q entT 11 c ((E.set k ⟨s, M, nv⟩).flatMap entC) ∧ NmO w' nv M.names⟩) :: []) (by exact ⟨fun _ _ _ _ _ => trivial, ⟨fun _ _ _ _ _ => trivial, ⟨fun _ _ _ _ _ => trivial, ⟨fun _ _ _ _ _ => trivial, ⟨fun _ _ _ _ _ => trivial, ⟨fun _ _ _ _ _ => trivial, ⟨fun _ _ _ _ _ => trivial, ⟨fun _ _ _ _ _ => trivial, ⟨fun _ _ _ _ _ => trivial, ⟨fun _ _ _ _ _ => trivial, ⟨fun _ _ _ _ _ => trivial, ⟨fun _ _ _ _ _ => trivial, ⟨fun _ _ _ _ _ => trivial, ⟨fun _ _ _ _ _ => trivial, ⟨fun _ _ _ _ _ => trivial, ⟨fun _ _ _ hr hv => hv.ext hr, ⟨fun _ _ _ hr hv => hv.ext hr, ⟨fun _ _ _ hr hv => hv.ext hr, ⟨fun _ _ _ _ _ => trivial, ⟨fun _ _ _ _ _ => trivial, ⟨fun _ _ _ _ _ => trivial, ⟨fun _ _ _ hr hv => RowB.kp hv hr (fun f => f), ⟨fun _ _ _ hr hv => RowB.kp hv hr (fun f => f), ⟨fun _ _ _ hr hv => hv.elim fun nv h => ⟨nv, h.1.kp hr (fun f => f), ownsRow.ext h.2 hr⟩, trivial⟩⟩⟩⟩⟩⟩⟩⟩⟩⟩⟩⟩⟩⟩⟩⟩⟩⟩⟩⟩⟩⟩⟩⟩) (by exact ⟨⟨undef, RowB.kp HR2.out (Kp.refl (fun _ => False) _).drew (fun f => f)⟩, ⟨⟨undef, RowB.kp HR2.out (Kp.refl (fun _ => False) _).drew (fun f => f)⟩, trivial⟩⟩) (by kernel_rfl) (by kernel_rfl) (by kernel_rfl) ?_
      rotate_left 16
      simp only [List.take_succ_cons, List.take_zero]
      repeat (first
        | (refine Av.X.wpD_skipv ?_ ?_ ?_
           focus rfl
           focus rfl
           simp only [Act.put, List.setIfInBounds_toArray, List.set_cons_succ, List.set_cons_zero])
        | (refine' Av.X.wpD_val (c := _) ?_ (fun w => Kp.refl _ w) ?_ (fun wq hwq hfz => ?_) ?_
           rotate_left
           focus rfl
           focus rfl
           focus (have hfq := hfz.at_; have hcq := hfz.use; (have c1 := (HGX.out _ hwq).cell 1 _ rfl); go_simp; first | done | rfl)
           simp only [Act.put, List.setIfInBounds_toArray, List.set_cons_succ, List.set_cons_zero])
        | (refine' Av.X.wpD_con (c := _) ?_ ?_ (fun wq hwq hfz => ?_) ?_
           rotate_left
           focus rfl
           focus rfl
           focus (have hfq := hfz.at_; have hcq := hfz.use; (have c1 := (HGX.out _ hwq).cell 1 _ rfl); go_simp; (try (rw [dUpon_enter])); ((with_reducible refine (HNAME.out _).mono ?_); rintro e w' ⟨rfl, hx⟩; exact DEnd.con hx))
           simp only [Act.put, List.setIfInBounds_toArray, List.set_cons_succ, List.set_cons_zero])
        | (refine Av.X.wpD_used (A := fun v => v = .agg #[.int .i64 n.made, .int .i64 n.chg, .int .i64 n.ver, .int .i64 n.kids, .int .i64 n.own, .int .i64 n.len, .int .i64 n.cnt, .string n.data, .int .i64 n.next, .slice na n.names.length nc]) (V := fun _ _ => True) 35 ?_ ?_ ?_ ?_ (fun wq hwq hfz => ?_) (fun v35 h35 => ?_)
           focus rfl
           focus rfl
           focus (exact ⟨_, rfl⟩)
           focus rfl
           focus (have hfq := hfz.at_; have hcq := hfz.use; (have c1 := (HGX.out _ hwq).cell 1 _ rfl); have hrow : RowB wq q entT 11 c (E.flatMap entC) := (hcq 900 rfl).elim (fun _ h => h); have e1 := rowE hrow hk HKE.out 1 _ (by decide) rfl; have e2 := rowE hrow hk HKE.out 2 _ (by decide) rfl; have e3 := rowE hrow hk HKE.out 3 _ (by decide) rfl; have e4 := rowE hrow hk HKE.out 4 _ (by decide) rfl; have e5 := rowE hrow hk HKE.out 5 _ (by decide) rfl; have e6 := rowE hrow hk HKE.out 6 _ (by decide) rfl; have e7 := rowE hrow hk HKE.out 7 _ (by decide) rfl; have e8 := rowE hrow hk HKE.out 8 _ (by decide) rfl; have e9 := rowE hrow hk HKE.out 9 _ (by decide) rfl; have e10 := rowE hrow hk HKE.out 10 _ (by decide) rfl; go_simp; rw [dUpon_value]; first | exact ⟨rfl, Kp.refl _ _, presL_refl _ _ _⟩ | exact ⟨rfl, trivial, Kp.refl _ _, presL_refl _ _ _⟩)
           subst h35
           simp only [Act.put, List.setIfInBounds_toArray, List.set_cons_succ, List.set_cons_zero])
        | (refine Av.X.wpD_made (A := fun v => ∃ a c u, v = .tuple #[.agg #[.int .i64 M.made, .int .i64 M.chg, .int .i64 M.ver, .int .i64 M.kids, .int .i64 M.own, .int .i64 M.len, .int .i64 M.cnt, .string M.data, .int .i64 M.next, .slice a M.names.length c], u]) (V := fun v w' => NdV M v w') 38 ?_ ?_ ?_ ?_ (fun wq hwq hfz => ?_) (fun v38 h38 => ?_)
           focus rfl
           focus rfl
           focus (exact ⟨_, none, 0, undef, rfl⟩)
           focus rfl
           focus (have hfq := hfz.at_; have hcq := hfz.use; (have c1 := (HGX.out _ hwq).cell 1 _ rfl); go_simp; (try (rw [dUpon_enter])); (refine (HREM.out _ (HNMX.out _ hwq)).mono ?_); rintro e w' ⟨nv', u, rfl, ho, hx⟩; obtain ⟨a, c, rfl⟩ := owns_slice ho; exact DEnd.made ⟨a, c, u, rfl⟩ ⟨a, c, u, rfl, ho⟩ hx)
           obtain ⟨a38, c38, u38, rfl⟩ := h38
           simp only [Act.put, List.setIfInBounds_toArray, List.set_cons_succ, List.set_cons_zero])
        | (refine Av.X.wpD_made (A := fun v => ∃ a c u, v = .tuple #[.agg #[.int .i64 M.made, .int .i64 M.chg, .int .i64 M.ver, .int .i64 M.kids, .int .i64 M.own, .int .i64 M.len, .int .i64 M.cnt, .string M.data, .int .i64 M.next, .slice a M.names.length c], u]) (V := fun v w' => NdV M v w') 22 ?_ ?_ ?_ ?_ (fun wq hwq hfz => ?_) (fun v22 h22 => ?_)
           focus rfl
           focus rfl
           focus (exact ⟨_, none, 0, undef, rfl⟩)
           focus rfl
           focus (have hfq := hfz.at_; have hcq := hfz.use; (have c1 := (HGX.out _ hwq).cell 1 _ rfl); go_simp; (try (rw [dUpon_enter])); rw [dUpon_value]; exact mPost ⟨_, _, _, rfl⟩ (hfq 38 rfl) (Kp.refl _ _))
           obtain ⟨a22, c22, u22, rfl⟩ := h22
           simp only [Act.put, List.setIfInBounds_toArray, List.set_cons_succ, List.set_cons_zero])
        | (refine Av.X.wpD_made (A := fun v => ∃ a c, v = .agg #[.int .i64 M.made, .int .i64 M.chg, .int .i64 M.ver, .int .i64 M.kids, .int .i64 M.own, .int .i64 M.len, .int .i64 M.cnt, .string M.data, .int .i64 M.next, .slice a M.names.length c]) (V := fun v w' => NdU M v w') 39 ?_ ?_ ?_ ?_ (fun wq hwq hfz => ?_) (fun v39 h39 => ?_)
           focus rfl
           focus rfl
           focus (exact ⟨_, none, 0, rfl⟩)
           focus rfl
           focus (have hfq := hfz.at_; have hcq := hfz.use; (have c1 := (HGX.out _ hwq).cell 1 _ rfl); go_simp; (try (rw [dUpon_enter])); rw [dUpon_value]; exact mPost ⟨_, _, rfl⟩ (NdV.one (hfq 22 rfl)) (Kp.refl _ _))
           obtain ⟨a39, c39, rfl⟩ := h39
           simp only [Act.put, List.setIfInBounds_toArray, List.set_cons_succ, List.set_cons_zero])
        | (refine Av.X.wpD_made (A := fun _ => True) (V := fun _ _ => True) 40 ?_ ?_ ?_ ?_ (fun wq hwq hfz => ?_) (fun v40 h40 => ?_)
           focus rfl
           focus rfl
           focus (exact ⟨undef, trivial⟩)
           focus rfl
           focus (have hfq := hfz.at_; have hcq := hfz.use; (have c1 := (HGX.out _ hwq).cell 1 _ rfl); go_simp; (try (rw [dUpon_enter])); rw [dUpon_value]; exact mPost trivial trivial (Kp.refl _ _))
           clear h40
           simp only [Act.put, List.setIfInBounds_toArray, List.set_cons_succ, List.set_cons_zero])
        | (refine Av.X.wpD_put rfl ?_ (fun wq hwq hfz => ?_) ?_
           focus rfl
           focus (have hfq := hfz.at_; have hcq := hfz.use; (have c1 := (HGX.out _ hwq).cell 1 _ rfl); have hrow : RowB wq q entT 11 c (E.flatMap entC) := (hcq 901 rfl).elim (fun _ h => h); have h39 : NdU M _ wq := hfq 39 rfl; have e1 := rowE hrow hk HKE.out 1 _ (by decide) rfl; have e2 := rowE hrow hk HKE.out 2 _ (by decide) rfl; have e3 := rowE hrow hk HKE.out 3 _ (by decide) rfl; have e4 := rowE hrow hk HKE.out 4 _ (by decide) rfl; have e5 := rowE hrow hk HKE.out 5 _ (by decide) rfl; have e6 := rowE hrow hk HKE.out 6 _ (by decide) rfl; have e7 := rowE hrow hk HKE.out 7 _ (by decide) rfl; have e8 := rowE hrow hk HKE.out 8 _ (by decide) rfl; have e9 := rowE hrow hk HKE.out 9 _ (by decide) rfl; have e10 := rowE hrow hk HKE.out 10 _ (by decide) rfl; have f1 := hrow.free (k * 11 + 1); have f2 := hrow.free (k * 11 + 2); have f3 := hrow.free (k * 11 + 3); have f4 := hrow.free (k * 11 + 4); have f5 := hrow.free (k * 11 + 5); have f6 := hrow.free (k * 11 + 6); have f7 := hrow.free (k * 11 + 7); have f8 := hrow.free (k * 11 + 8); have f9 := hrow.free (k * 11 + 9); have f10 := hrow.free (k * 11 + 10); go_simp; have hk' : Kp (fun i => i = q) wq (wq.setCells q (k * 11 + 1) (ndL M (.slice a39 M.names.length c39))) := kp_setCells _ _ _; have hp := put_node hrow hk M (.slice a39 M.names.length c39); rw [HKP.out] at hp; have hno := HNO.out wq ⟨_, hrow⟩; have hV : ∃ nv, RowB (wq.setCells q (k * 11 + 1) (ndL M (.slice a39 M.names.length c39))) q entT 11 c ((E.set k ⟨s, M, nv⟩).flatMap entC) ∧ NmO (wq.setCells q (k * 11 + 1) (ndL M (.slice a39 M.names.length c39))) nv M.names := ⟨_, hp, (NdU.kp h39 hk' hno).own⟩; rw [dUpon_skip]; refine ⟨hk'.mono (fun i _ e => .inr e), hV, ?_⟩; repeat (first | exact PresL.nil | (with_reducible refine PresL.val ?_) | (refine PresL.out rfl ?_) | (refine PresL.keep (fun u hu => trivial) ?_) | (refine PresL.keep (fun u hu => NdV.kp hu hk' hno) ?_) | (refine PresL.keep (fun u hu => NdU.kp hu hk' hno) ?_) | (refine PresL.keep (fun u hu => hV) ?_))))
        | fail)
      refine Av.X.wpD_nil ?_
      intro w5 hx5 hend hput
      have hq5 : ∃ nv, RowB w5 q entT 11 c ((E.set k ⟨s, M, nv⟩).flatMap entC) ∧ NmO w5 nv M.names := hput (by kernel_rfl)
      clear hend hput
      obtain ⟨nv, hr5, hn5⟩ := hq5
      have HN5 := Lib.hid (HH2.out.node2 hx5 hr5 hn5)
      have HK5 : Hid (Kp (fun i => (Value.slice (some ⟨q, 0, none⟩) E.length c).ownBlock = some i) w w5) := (HX2.out.mono (fun i _ f => f.elim)).trans (hx5.mono (fun i hi e => by
        rcases e with e | e
        · omega
        · rw [e]; rfl))
      clear hx5 hr5 hn5
      go_wp2_with (fail)
      go_end0
      exact ⟨_, E.set k ⟨s, M, nv⟩, rfl, HN5.out, by rw [entL_set]; exact HE.out.symm, HK5.out⟩
end Go.Proofs.YtdagikbdpeblhaaGreatDoor

/- What the reference's Do leaves. -/
namespace Go.Proofs.YtdagikbdpeblhaaGreatDoor
set_option maxRecDepth 100000
open Go.RowKit Av

/-- Another's block was written. -/
theorem RefA.aside {w w' : World} {base g b : Nat} {room : Int} {v : Value} {E : List Ent} {cs : Array Value} (h : RefA w base g room v E) (hB : Blk w b cs rsuT) (hk : Kp (fun i => i = b) w w') : RefA w' base g room v E := by
  have hne : ∀ T : TypeId, T ≠ rsuT → NoT w (fun i => i = b) T := fun T hT i e cur f hc => by
    have e2 : i = b := e
    subst e2
    have h1 : w.heap[i]? = some (.cells cs rsuT (0, 0)) := hB
    rw [h1] at hc
    simp only [Option.some.injEq, Obj.cells.injEq] at hc
    exact hT hc.2.1.symm
  refine ⟨h.low, h.blk.kp hk (fun e => hne rtT (by decide) g e _ _ h.blk), ⟨?_, fun x hx => EntOk.kp (h.ents.ok x hx) hk (hne strT (by decide))⟩⟩
  refine ownsRow.kp h.ents.row hk (fun i hi e => ?_)
  obtain ⟨cur, f, h4⟩ := own_type h.ents.row hi
  exact hne entT (by decide) i e cur f h4
/-- What a Do leaves, when it answers without names. -/
def RDPost (w : World) (base g : Nat) (room : Int) (v : Value) (X : RL × Rp) (e : Ending) (w' : World) : Prop :=
  ∃ v' E' nv, e = .returned (resA X.2.err X.2.path X.2.data nv X.2.st) ∧ NmO w' nv X.2.names ∧ RefA w' base g room v' E' ∧ entL E' = X.1 ∧ Kp (fun i => i = g ∨ v.ownBlock = some i) w w' ∧ ∀ i, v'.ownBlock = some i → v.ownBlock = some i ∨ w.heap.size ≤ i
theorem RDPost.fail {w w' : World} {base g : Nat} {room : Int} {v : Value} {E : List Ent} {X : RL × Rp} {z : Int} (hX : X = (entL E, failR z)) (h : RefA w' base g room v E) (hk : Ext w w') : RDPost w base g room v X (.returned (resA z ⟨#[]⟩ ⟨#[]⟩ (.slice none 0 0) ndZ)) w' := by
  subst hX
  exact ⟨v, E, .slice none 0 0, rfl, own_nil _, h, rfl, hk.mono (fun _ _ f => f.elim), fun i hi => .inl hi⟩
end Go.Proofs.YtdagikbdpeblhaaGreatDoor
