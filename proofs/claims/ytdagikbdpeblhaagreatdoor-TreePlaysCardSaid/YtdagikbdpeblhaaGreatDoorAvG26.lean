/- Texts put together: AvRefD, AvRefW, AvRefM. -/
import Derived.Test.YtdagikbdpeblhaaGreatDoorAvG21
import Derived.Test.YtdagikbdpeblhaaGreatDoorAvG13
import Derived.Test.YtdagikbdpeblhaaGreatDoorAvHRefQ
import Derived.Test.YtdagikbdpeblhaaGreatDoorAvG22

/- Plain laws: the reference's tree as a list: what a Do makes of it. -/
namespace Go.Proofs.YtdagikbdpeblhaaGreatDoor
set_option maxRecDepth 100000
open Go.RowKit Av

/-- Does an entry stand at a path's place? -/
def isAt (L : RL) (p : ByteArray) : Bool := decide ((keysR L)[atR L p]? = some p.data.toList)
/-- A parent hears of its child: the list. -/
def tellL (f : NodeV → Bs → NodeV) (L : RL) (p : ByteArray) : RL := match parentL p.data.toList with
  | none => L
  | some up => match mget L ⟨up.toArray⟩ with
    | none => L
    | some n => L.set (atR L ⟨up.toArray⟩) (⟨up.toArray⟩, f n (lastL p.data.toList))
theorem isAt_some {L : RL} (hr : Rising (keysR L)) {p : ByteArray} {n : NodeV} (h : mget L p = some n) : isAt L p = true := by
  unfold isAt
  rw [decide_eq_true_iff]
  have := at_some hr h
  unfold keysR
  rw [List.getElem?_map, this]; rfl
theorem isAt_none {L : RL} {p : ByteArray} (h : mget L p = none) : isAt L p = false := by
  unfold isAt
  rw [decide_eq_false_iff_not]
  intro e
  have h1 := List.mem_of_getElem? e
  rw [keys_mem, bytes_self] at h1
  exact h1 h
theorem tellL_sorted {f : NodeV → Bs → NodeV} {L : RL} {t : Pt} (h : SortedAs L t) (p : ByteArray) : SortedAs (tellL f L p) (tellP f t p) := by
  unfold tellL tellP
  cases parentL p.data.toList with
  | none => exact h
  | some up =>
    simp only
    rw [h.get]
    cases hg : mget t ⟨up.toArray⟩ with
    | none => exact h
    | some n => exact h.set _ hg
theorem place_sorted {L : RL} {t : Pt} (h : SortedAs L t) (hl : L.length = t.length) (room : Int) (p : ByteArray) (f : Int) : placeP room L p f = placeP room t p f := by
  have hf : ∀ q, finQ room L q = finQ room t q := fun q => by unfold finQ; rw [h.get, hl]
  unfold placeP
  cases parentL p.data.toList with
  | none => exact hf p
  | some up =>
    simp only
    rw [h.get]
    cases mget t ⟨up.toArray⟩ with
    | none => rfl
    | some n => simp only [hf]
def createL (room : Int) (L : RL) (o : OpV) (sess z : Int) : RL × Rp :=
  let q := placeP room L o.path o.flags
  if q.2 ≠ 0 then (L, failR q.2) else
  let n := ndNew z (ownF o.flags sess) o.data
  (putR (tellL ndAdd L q.1) (atR (tellL ndAdd L q.1) q.1) (q.1, n), ⟨0, q.1, ⟨#[]⟩, [], n⟩)
def changeL (L : RL) (o : OpV) (z : Int) : RL × Rp := match mget L o.path with
  | none => (L, failR 4)
  | some n => if wrongB o n = true then (L, failR 6)
    else if o.kind = 2 then (if 0 < n.names.length then (L, failR 7) else (tellL ndRem (delR L (atR L o.path)) o.path, ⟨0, o.path, ⟨#[]⟩, [], ndZ⟩))
    else if o.kind = 3 then (L.set (atR L o.path) (o.path, ndWrite n z o.data), ⟨0, o.path, ⟨#[]⟩, [], ndWrite n z o.data⟩)
    else (L, ⟨0, o.path, ⟨#[]⟩, [], ndZ⟩)
def doL (room : Int) (L : RL) (o : OpV) (sess z : Int) : RL × Rp :=
  if goodO o ≠ 0 then (L, failR (goodO o)) else
  if sess < 1 ∨ z < 0 then (L, failR 1) else
  if o.kind = 1 then createL room L o sess z else
  if o.kind = 2 ∨ o.kind = 3 ∨ o.kind = 4 then changeL L o z else (L, readP L o)
theorem parent_neq {q up : Bs} (h : parentL q = some up) : up ≠ q := fun e => by
  have h1 := child_of h
  have h2 := congrArg List.length h1
  rw [e] at h2
  simp at h2
/-- A node laid, then its parent told; or the other way: the same. -/
theorem tell_set {t : Pt} {q : ByteArray} (n : NodeV) (f : NodeV → Bs → NodeV) (p : ByteArray) : mget (mset (tellP f t q) q n) p = mget (tellP f (mset t q n) q) p := by
  unfold tellP
  cases hu : parentL q.data.toList with
  | none => rfl
  | some up =>
    have hne : (⟨up.toArray⟩ : ByteArray) ≠ q := fun e => parent_ne hu (by rw [← e])
    have e : mget (mset t q n) ⟨up.toArray⟩ = mget t ⟨up.toArray⟩ := by rw [mget_mset, if_neg hne]
    simp only
    rw [e]
    cases mget t ⟨up.toArray⟩ with
    | none => rfl
    | some m =>
      simp only
      rw [mget_mset, mget_mset, mget_mset, mget_mset]
      by_cases h1 : p = q
      · rw [if_pos h1, if_neg (fun h => hne (by rw [← h, h1])), if_pos h1]
      · rw [if_neg h1, if_neg h1]
theorem place_okP {room : Int} {t : Pt} {p q : ByteArray} {f : Int} (h : placeP room t p f = (q, 0)) : mget t q = none ∧ (t.length : Int) < room := by
  have hf : ∀ {a : ByteArray}, finQ room t a = (q, 0) → mget t q = none ∧ (t.length : Int) < room := fun {a} h => by
    unfold finQ at h
    split at h
    · simp at h
    · split at h
      · simp at h
      · rename_i h1 h2
        simp only [Prod.mk.injEq, and_true] at h
        subst h
        exact ⟨by simpa using h1, by omega⟩
  unfold placeP at h
  split at h
  · exact hf h
  · split at h
    · simp at h
    · split at h
      · simp at h
      · split at h
        · split at h
          · simp at h
          · exact hf h
        · exact hf h
/-- The answer is the tree's, and the list is its. -/
theorem doL_doP {room : Int} {L : RL} {t : Pt} (h : SortedAs L t) (ht : (t.map (·.1)).Nodup) (o : OpV) (sess z : Int) :
    (doL room L o sess z).2 = (doP room t o sess z false).2 ∧ SortedAs (doL room L o sess z).1 (doP room t o sess z false).1 := by
  have hl : L.length = t.length := by
    rw [h.own ht, own_len]
  unfold doL doP
  split
  · exact ⟨rfl, h⟩
  · split
    · exact ⟨rfl, h⟩
    · split
      · unfold createL createP
        simp only
        rw [place_sorted h hl]
        split
        · exact ⟨rfl, h⟩
        · rename_i hq
          refine ⟨rfl, ?_⟩
          rw [if_neg (by decide)]
          obtain ⟨q, hqq⟩ : ∃ q, placeP room t o.path o.flags = q := ⟨_, rfl⟩
          rw [hqq] at hq ⊢
          have hq0 : placeP room t o.path o.flags = (q.1, 0) := by rw [hqq]; exact Prod.ext rfl (Classical.not_not.1 hq)
          have hnone : mget t q.1 = none := (place_okP hq0).1
          have h1 := tellL_sorted (f := ndAdd) h q.1
          have hn2 : mget (tellP ndAdd t q.1) q.1 = none := by
            unfold tellP
            cases hu : parentL q.1.data.toList with
            | none => exact hnone
            | some up =>
              have hne : q.1 ≠ (⟨up.toArray⟩ : ByteArray) := fun e => parent_neq hu (by rw [e])
              simp only
              cases mget t ⟨up.toArray⟩ with
              | none => exact hnone
              | some m => simp only; rw [mget_mset, if_neg hne]; exact hnone
          exact (h1.put (ndNew z (ownF o.flags sess) o.data) hn2).congr (fun p => tell_set _ ndAdd p)
      · split
        · unfold changeL changeP
          rw [h.get]
          cases hg : mget t o.path with
          | none => exact ⟨rfl, h⟩
          | some n =>
            simp only
            split
            · exact ⟨rfl, h⟩
            · split
              · split
                · exact ⟨rfl, h⟩
                · refine ⟨rfl, ?_⟩
                  rw [if_neg (by decide)]
                  exact tellL_sorted (h.del hg) _
              · split
                · refine ⟨rfl, ?_⟩
                  rw [if_neg (by decide)]
                  exact h.set _ hg
                · exact ⟨rfl, h⟩
        · unfold readP
          rw [h.get]
          exact ⟨rfl, h⟩
end Go.Proofs.YtdagikbdpeblhaaGreatDoor

/- Walks over the reference's nodes and tree: Write, fail, At. -/
namespace Go.Proofs.YtdagikbdpeblhaaGreatDoor
set_option maxRecDepth 100000
open Go.RowKit Av

set_option maxHeartbeats 3200000 in
theorem write10_any (n : NodeV) (a : Option Addr) (k c : Nat) (z : Int) (d : ByteArray) (w : World) (h0 : -9223372036854775808 ≤ n.ver) :
    Calls Tryz.prog 54 #[.agg (ndA n (.slice a k c)), .int .i64 z, .string d] w fun e w' => e = .returned (.agg (ndA (ndWrite n z d) (.slice a k c))) ∧ Ext w w' := by
  obtain ⟨wA, hWA⟩ : ∃ wA, (w.alloc (.cells #[.int .i64 n.made, .int .i64 n.chg, .int .i64 n.ver, .int .i64 n.kids, .int .i64 n.own, .int .i64 n.len, .int .i64 n.cnt, .string n.data, .int .i64 n.next, .slice a k c] rnT)).alloc (.cells ndZA rnT) = wA := ⟨_, rfl⟩
  have hxA : Ext w wA := by rw [← hWA]; exact ((Kp.refl _ _).alloc _).alloc _
  have hA : Blk wA w.heap.size #[.int .i64 n.made, .int .i64 n.chg, .int .i64 n.ver, .int .i64 n.kids, .int .i64 n.own, .int .i64 n.len, .int .i64 n.cnt, .string n.data, .int .i64 n.next, .slice a k c] rnT := by
    rw [← hWA]
    exact Blk.kp (heap_alloc_new w _) ((Kp.refl (fun _ => False) _).alloc _) (fun f => f)
  have hB : Blk wA (w.heap.size + 1) ndZA rnT := by
    rw [← hWA]
    have := heap_alloc_new (w.alloc (.cells #[.int .i64 n.made, .int .i64 n.chg, .int .i64 n.ver, .int .i64 n.kids, .int .i64 n.own, .int .i64 n.len, .int .i64 n.cnt, .string n.data, .int .i64 n.next, .slice a k c] rnT)) (.cells ndZA rnT)
    rw [World.size_alloc] at this
    exact this
  obtain ⟨W4, hW4⟩ : ∃ W4, (((wA.setCell ⟨w.heap.size, 7, none⟩ (.string d)).setCell ⟨w.heap.size, 1, none⟩ (.int .i64 z)).setCell ⟨w.heap.size, 2, none⟩ (.int .i64 (moreI n.ver))).setCell ⟨w.heap.size, 5, none⟩ (.int .i64 d.size) = W4 := ⟨_, rfl⟩
  have k4 : Kp (fun i => i = w.heap.size) wA W4 := by
    rw [← hW4]
    exact ((((Kp.refl (fun i => i = w.heap.size) wA).set1 _ 7 _ rfl).set1 _ 1 _ rfl).set1 _ 2 _ rfl).set1 _ 5 _ rfl
  have hA4 : Blk W4 w.heap.size #[.int .i64 n.made, .int .i64 z, .int .i64 (moreI n.ver), .int .i64 n.kids, .int .i64 n.own, .int .i64 d.size, .int .i64 n.cnt, .string d, .int .i64 n.next, .slice a k c] rnT := by
    rw [← hW4]
    exact (((hA.set 7 _).set 1 _).set 2 _).set 5 _
  have HA4 := Lib.hid hA4
  have HB4 := Lib.hid (hB.kp k4 (by omega))
  have HX4 : Hid (Ext w W4) := hxA.next k4 (fun i hi e => by omega)
  have HM := Lib.hid (fun W => more10_any n.ver W h0)
  have HW4 := Lib.hid hW4
  have HWA := Lib.hid hWA
  unfold ndZA at HWA
  have d0 := hA.cell 0 _ rfl
  have d1 := hA.cell 1 _ rfl
  have d2 := hA.cell 2 _ rfl
  have d3 := hA.cell 3 _ rfl
  have d4 := hA.cell 4 _ rfl
  have d5 := hA.cell 5 _ rfl
  have d6 := hA.cell 6 _ rfl
  have d7 := hA.cell 7 _ rfl
  have d8 := hA.cell 8 _ rfl
  have d9 := hA.cell 9 _ rfl
  have fd0 := hA.free 0
  have fd1 := hA.free 1
  have fd2 := hA.free 2
  have fd3 := hA.free 3
  have fd4 := hA.free 4
  have fd5 := hA.free 5
  have fd6 := hA.free 6
  have fd7 := hA.free 7
  have fd8 := hA.free 8
  have fd9 := hA.free 9
  clear hWA hxA hA hB hW4 k4 hA4 h0
  unfold ndA
  go_enter Tryz.func54, Tryz.ntmps54
  go_upto_region 1 with (fail)
  rw [HWA.out]
  go_wp2_with (fail)
  refine (HM.out _).mono ?_
  rintro e w3 ⟨rfl, rfl⟩
  go_upto_region 5 with (fail)
  rw [HW4.out]
  have ha := HA4.out
  have hb := HB4.out
  unfold ndZA at hb
  clear d0 d1 d2 d3 d4 d5 d6 d7 d8 d9 fd0 fd1 fd2 fd3 fd4 fd5 fd6 fd7 fd8 fd9
  have d0 := ha.cell 0 _ rfl
  have d1 := ha.cell 1 _ rfl
  have d2 := ha.cell 2 _ rfl
  have d3 := ha.cell 3 _ rfl
  have d4 := ha.cell 4 _ rfl
  have d5 := ha.cell 5 _ rfl
  have d6 := ha.cell 6 _ rfl
  have d7 := ha.cell 7 _ rfl
  have d8 := ha.cell 8 _ rfl
  have d9 := ha.cell 9 _ rfl
  have g0 := hb.cell 0 _ rfl
  have g1 := hb.cell 1 _ rfl
  have g2 := hb.cell 2 _ rfl
  have g3 := hb.cell 3 _ rfl
  have g4 := hb.cell 4 _ rfl
  have g5 := hb.cell 5 _ rfl
  have g6 := hb.cell 6 _ rfl
  have g7 := hb.cell 7 _ rfl
  have g8 := hb.cell 8 _ rfl
  have g9 := hb.cell 9 _ rfl
  have fg0 := hb.free 0
  have fg1 := hb.free 1
  have fg2 := hb.free 2
  have fg3 := hb.free 3
  have fg4 := hb.free 4
  have fg5 := hb.free 5
  have fg6 := hb.free 6
  have fg7 := hb.free 7
  have fg8 := hb.free 8
  have fg9 := hb.free 9
  clear ha hb
  go_wp2_with (fail)
  go_light
  refine bodyPost_ret (v := .agg (ndA (ndWrite n z d) (.slice a k c))) (by simp [results, Tryz.results54, go_sem, ndA, ndWrite, g0, g1, g2, g3, g4, g5, g6, g7, g8, g9]) rfl ⟨rfl, ?_⟩
  have k10 := kp_set10 W4 (w.heap.size + 1) (.int .i64 n.made) (.int .i64 z) (.int .i64 (moreI n.ver)) (.int .i64 n.kids) (.int .i64 n.own) (.int .i64 d.size) (.int .i64 n.cnt) (.string d) (.int .i64 n.next) (.slice a k c)
  exact HX4.out.next k10 (fun i hi e => by omega)
set_option maxHeartbeats 1600000 in
theorem fail10_any (z : Int) (w : World) : Calls Tryz.prog 49 #[.int .i64 z] w fun e w' => e = .returned (resA z ⟨#[]⟩ ⟨#[]⟩ (.slice none 0 0) ndZ) ∧ Ext w w' := by
  obtain ⟨wA, hWA⟩ : ∃ wA, w.alloc (.cells rsZ rsuT) = wA := ⟨_, rfl⟩
  have hxA : Ext w wA := by rw [← hWA]; exact (Kp.refl _ _).alloc _
  have hA : Blk wA w.heap.size rsZ rsuT := by rw [← hWA]; exact heap_alloc_new w _
  have HXA := Lib.hid hxA
  unfold rsZ at hWA hA
  have HWA := Lib.hid hWA
  have g0 := hA.cell 0 _ rfl
  have g1 := hA.cell 1 _ rfl
  have g2 := hA.cell 2 _ rfl
  have g3 := hA.cell 3 _ rfl
  have g4 := hA.cell 4 _ rfl
  have g5 := hA.cell 5 _ rfl
  have g6 := hA.cell 6 _ rfl
  have g7 := hA.cell 7 _ rfl
  have g8 := hA.cell 8 _ rfl
  have g9 := hA.cell 9 _ rfl
  have g10 := hA.cell 10 _ rfl
  have fg0 := hA.free 0
  have fg1 := hA.free 1
  have fg2 := hA.free 2
  have fg3 := hA.free 3
  have fg4 := hA.free 4
  have fg5 := hA.free 5
  have fg6 := hA.free 6
  have fg7 := hA.free 7
  have fg8 := hA.free 8
  have fg9 := hA.free 9
  have fg10 := hA.free 10
  clear hWA hxA hA
  go_enter Tryz.func49, Tryz.ntmps49
  go_upto_region 1 with (fail)
  rw [HWA.out]
  go_wp2_with (fail)
  go_light
  have k11 := kp_set11 wA w.heap.size (.int .i64 z) (.string ⟨#[]⟩) (.string ⟨#[]⟩) (.slice none 0 0) (.int .i64 0) (.int .i64 0) (.int .i64 0) (.int .i64 0) (.int .i64 0) (.int .i64 0) (.int .i64 0)
  exact bodyPost_ret (v := resA z ⟨#[]⟩ ⟨#[]⟩ (.slice none 0 0) ndZ) (by simp [results, Tryz.results49, go_sem, resA, ndZ, g0, g1, g2, g3, g4, g5, g6, g7, g8, g9, g10]) rfl ⟨rfl, HXA.out.next k11 (fun i hi e => by omega)⟩
/-- The reference's tree at block g, its row of entries. -/
structure RefA (w : World) (base g : Nat) (room : Int) (v : Value) (E : List Ent) : Prop where
  low : base ≤ g
  blk : Blk w g #[.int .i64 room, v] rtT
  ents : EntsR w base v E
theorem RefA.ext {w w' : World} {base g : Nat} {room : Int} {v : Value} {E : List Ent} (h : RefA w base g room v E) (k : Ext w w') : RefA w' base g room v E := ⟨h.low, h.blk.kp k (fun f => f), h.ents.ext k⟩
theorem RefA.ref {w : World} {base g : Nat} {room : Int} {v : Value} {E : List Ent} (h : RefA w base g room v E) : RefT w base g room (entL E) := ⟨h.low, v, E, rfl, h.blk, h.ents⟩
theorem RefT.open {w : World} {base g : Nat} {room : Int} {L : RL} (h : RefT w base g room L) : ∃ v E, RefA w base g room v E ∧ entL E = L := by
  obtain ⟨v, E, h1, h2, h3⟩ := h.ex
  exact ⟨v, E, ⟨h.low, h2, h3⟩, h1⟩
theorem keysE (E : List Ent) : keysR (entL E) = E.map (·.p.data.toList) := by unfold keysR entL; rw [List.map_map]; rfl
theorem entL_at (E : List Ent) (k : Nat) (hk : k < E.length) : (entL E)[k]? = some (E[k].p, E[k].n) := by unfold entL; rw [List.getElem?_map, List.getElem?_eq_getElem hk]; rfl
set_option maxHeartbeats 1600000 in
theorem at_any (base g : Nat) (room : Int) (v : Value) (E : List Ent) (p : ByteArray) (w : World) (h : RefA w base g room v E) :
    Calls Tryz.prog 51 #[.pointer (some ⟨g, 0, none⟩), .string p] w fun e w' => e = .returned (.tuple #[.int .i64 (atR (entL E) p : Nat), .bool (isAt (entL E) p)]) ∧ Ext w w' := by
  obtain ⟨a, c, rfl, hm, hop⟩ := h.ents.at
  have c1 := h.blk.cell 1 _ rfl
  have HB := Lib.hid h.blk
  have HOP : Hid (∀ k (hk : k < E.length), ∃ b off, a = some ⟨b, off, none⟩ ∧ w.cell? ⟨b, off + k * 11, none⟩ = some (.string E[k].p)) := fun k hk => by
    obtain ⟨b, off, e, _, hc⟩ := hop (by omega)
    have := hc k hk 0 (.string E[k].p) (by omega) rfl
    rw [Nat.add_zero] at this
    exact ⟨b, off, e, this⟩
  have hKL : (keysR (entL E)).length = E.length := by rw [keysE, List.length_map]
  have hKG : ∀ k (hk : k < E.length), (keysR (entL E))[k]'(by omega) = E[k].p.data.toList := fun k hk => by simp [keysE]
  have hle : atR (entL E) p ≤ E.length := by have := lessN_le p.data.toList (keysR (entL E)); unfold atR; omega
  have HLT : Hid (∀ k (hk : k < E.length), k < atR (entL E) p → Op.bytesLess E[k].p.toList p.toList = true) := fun k hk h1 => by
    rw [Lib.toList_data, Lib.toList_data, lessB, decide_eq_true_iff, ← hKG k hk]
    refine lessN_take p.data.toList (keysR (entL E)) _ ?_
    rw [List.mem_take_iff_getElem]
    exact ⟨k, by unfold atR at h1; omega, rfl⟩
  have HGE : Hid (∀ (hk : atR (entL E) p < E.length), Op.bytesLess E[atR (entL E) p].p.toList p.toList = false) := fun hk => by
    rw [Lib.toList_data, Lib.toList_data, lessB, decide_eq_false_iff_not, ← hKG _ hk]
    exact lessN_get p.data.toList (keysR (entL E)) (by unfold atR at hk; omega)
  have HEQ : Hid (∀ (hk : atR (entL E) p < E.length), (E[atR (entL E) p].p.toList == p.toList) = isAt (entL E) p) := fun hk => by
    unfold isAt
    rw [Lib.toList_data, Lib.toList_data, List.getElem?_eq_getElem (by omega), hKG _ hk, Bool.eq_iff_iff, beq_iff_eq, decide_eq_true_iff, Option.some.injEq]
  have HNO : Hid (¬ atR (entL E) p < E.length → isAt (entL E) p = false) := fun hk => by
    unfold isAt
    rw [List.getElem?_eq_none (by omega)]
    exact decide_eq_false (by simp)
  obtain ⟨r, hr⟩ : ∃ r, isAt (entL E) p = r := ⟨_, rfl⟩
  simp only [hr] at HEQ HNO ⊢
  obtain ⟨k0, hk0⟩ : ∃ k0, atR (entL E) p = k0 := ⟨_, rfl⟩
  simp only [hk0] at HLT HGE HEQ HNO hle ⊢
  unfold maxLen at hm
  clear h hop hr hKL hKG
  go_enter Tryz.func51, Tryz.ntmps51
  go_wp2_with (fail)
  go_loopw [6] (fun s6 wr => PlRel w k0 s6 wr) (fun s6 _ => k0 - (intOf s6).toNat)
  case atStart => exact ⟨0, Nat.zero_le _, rfl, rfl⟩
  case round =>
    obtain ⟨k, hk, rfl, rfl⟩ := hrel
    by_cases hlt : k < k0
    · have hkl : k < E.length := by omega
      have hkI : (k : Int) < (E.length : Int) := by omega
      obtain ⟨b, off, rfl, hc⟩ := HOP.out k hkl
      have hls := HLT.out k hkl hlt
      generalize E[k].p = y at hc hls
      go_wp2_with (fail)
      go_light
      refine ⟨⟨k + 1, ?_, ?_, rfl⟩, ?_⟩
      · omega
      · go_num
      · simp [intOf]; omega
    · obtain rfl : k = k0 := by omega
      by_cases hkl : k < E.length
      · have hkI : (k : Int) < (E.length : Int) := by omega
        obtain ⟨b, off, rfl, hc⟩ := HOP.out k hkl
        have hge := HGE.out hkl
        have heq := HEQ.out hkl
        generalize E[k].p = y at hc hge heq
        have HC := Lib.hid hc
        go_upto_region 4 with (fail)
        clear c1
        refine' wp_region_dag0 ((28, .val _) :: (29, .val _) :: (30, .val _) :: (31, .val _) :: (32, .val _) :: (33, .val _) :: (34, .val _) :: (35, .val _) :: (36, .val _) :: (37, .val _) :: (38, .val _) :: (39, .val _) :: (40, .val _) :: (41, .val _) :: (42, .val _) :: (43, .val _) :: (44, .val _) :: (45, .val _) :: (46, .val _) :: (47, .val _) :: (4, .val _) :: (5, .val _) :: []) (by exact ⟨fun _ _ _ _ _ => trivial, ⟨fun _ _ _ _ _ => trivial, ⟨fun _ _ _ _ _ => trivial, ⟨fun _ _ _ _ _ => trivial, ⟨fun _ _ _ _ _ => trivial, ⟨fun _ _ _ _ _ => trivial, ⟨fun _ _ _ _ _ => trivial, ⟨fun _ _ _ _ _ => trivial, ⟨fun _ _ _ _ _ => trivial, ⟨fun _ _ _ _ _ => trivial, ⟨fun _ _ _ _ _ => trivial, ⟨fun _ _ _ _ _ => trivial, ⟨fun _ _ _ _ _ => trivial, ⟨fun _ _ _ _ _ => trivial, ⟨fun _ _ _ _ _ => trivial, ⟨fun _ _ _ _ _ => trivial, ⟨fun _ _ _ _ _ => trivial, ⟨fun _ _ _ _ _ => trivial, ⟨fun _ _ _ _ _ => trivial, ⟨fun _ _ _ _ _ => trivial, ⟨fun _ _ _ _ _ => trivial, ⟨fun _ _ _ _ _ => trivial, trivial⟩⟩⟩⟩⟩⟩⟩⟩⟩⟩⟩⟩⟩⟩⟩⟩⟩⟩⟩⟩⟩⟩) (by kernel_rfl) (by kernel_rfl) (by kernel_rfl) ?_
        rotate_left 22
        repeat (first
          | (refine wpD_skipv ?_ ?_ ?_
             focus rfl
             focus rfl
             simp only [Act.put, List.setIfInBounds_toArray, List.set_cons_succ, List.set_cons_zero])
          | (refine' wpD_val (c := _) ?_ (fun w => Kp.refl _ w) ?_ (fun wq hwq hfq => ?_) ?_
             rotate_left
             focus rfl
             focus rfl
             focus ((have hc := hwq.cell HC.out (fun f => f); have c1 := (HB.out.kp hwq (fun f => f)).cell 1 _ rfl); go_simp; first | done | rfl)
             simp only [Act.put, List.setIfInBounds_toArray, List.set_cons_succ, List.set_cons_zero])
          | (refine' wpD_con (c := _) ?_ ?_ (fun wq hwq hfq => ?_) ?_
             rotate_left
             focus rfl
             focus rfl
             focus ((have hc := hwq.cell HC.out (fun f => f); have c1 := (HB.out.kp hwq (fun f => f)).cell 1 _ rfl); go_simp; (try (rw [dUpon_enter])); fail)
             simp only [Act.put, List.setIfInBounds_toArray, List.set_cons_succ, List.set_cons_zero])
          | fail)
        refine wpD_nil ?_
        intro w2 hx2 hend
        clear hend
        go_wp2_with (fail)
        go_ret2
        exact ⟨rfl, hx2⟩
      · have hkI : ¬ (k : Int) < (E.length : Int) := by omega
        have HN := Lib.hid (HNO.out hkl)
        go_upto_region 4 with (fail)
        clear c1
        refine' wp_region_dag0 ((28, .val _) :: (29, .val _) :: (30, .val _) :: (31, .val _) :: (32, .val _) :: (33, .val _) :: (34, .val _) :: (35, .val _) :: (36, .val _) :: (37, .val _) :: (38, .val _) :: (39, .val _) :: (40, .val _) :: (41, .val _) :: (42, .val _) :: (43, .val _) :: (44, .val _) :: (45, .val _) :: (46, .val _) :: (47, .val _) :: (4, .val _) :: (5, .val _) :: []) (by exact ⟨fun _ _ _ _ _ => trivial, ⟨fun _ _ _ _ _ => trivial, ⟨fun _ _ _ _ _ => trivial, ⟨fun _ _ _ _ _ => trivial, ⟨fun _ _ _ _ _ => trivial, ⟨fun _ _ _ _ _ => trivial, ⟨fun _ _ _ _ _ => trivial, ⟨fun _ _ _ _ _ => trivial, ⟨fun _ _ _ _ _ => trivial, ⟨fun _ _ _ _ _ => trivial, ⟨fun _ _ _ _ _ => trivial, ⟨fun _ _ _ _ _ => trivial, ⟨fun _ _ _ _ _ => trivial, ⟨fun _ _ _ _ _ => trivial, ⟨fun _ _ _ _ _ => trivial, ⟨fun _ _ _ _ _ => trivial, ⟨fun _ _ _ _ _ => trivial, ⟨fun _ _ _ _ _ => trivial, ⟨fun _ _ _ _ _ => trivial, ⟨fun _ _ _ _ _ => trivial, ⟨fun _ _ _ _ _ => trivial, ⟨fun _ _ _ _ _ => trivial, trivial⟩⟩⟩⟩⟩⟩⟩⟩⟩⟩⟩⟩⟩⟩⟩⟩⟩⟩⟩⟩⟩⟩) (by kernel_rfl) (by kernel_rfl) (by kernel_rfl) ?_
        rotate_left 22
        repeat (first
          | (refine wpD_skipv ?_ ?_ ?_
             focus rfl
             focus rfl
             simp only [Act.put, List.setIfInBounds_toArray, List.set_cons_succ, List.set_cons_zero])
          | (refine' wpD_val (c := _) ?_ (fun w => Kp.refl _ w) ?_ (fun wq hwq hfq => ?_) ?_
             rotate_left
             focus rfl
             focus rfl
             focus ((have c1 := (HB.out.kp hwq (fun f => f)).cell 1 _ rfl); go_simp; first | done | rfl)
             simp only [Act.put, List.setIfInBounds_toArray, List.set_cons_succ, List.set_cons_zero])
          | (refine' wpD_con (c := _) ?_ ?_ (fun wq hwq hfq => ?_) ?_
             rotate_left
             focus rfl
             focus rfl
             focus ((have c1 := (HB.out.kp hwq (fun f => f)).cell 1 _ rfl); go_simp; (try (rw [dUpon_enter])); fail)
             simp only [Act.put, List.setIfInBounds_toArray, List.set_cons_succ, List.set_cons_zero])
          | fail)
        refine wpD_nil ?_
        intro w2 hx2 hend
        clear hend
        go_wp2_with (fail)
        go_ret2
        rw [HN.out]
        exact ⟨rfl, hx2⟩
end Go.Proofs.YtdagikbdpeblhaaGreatDoor

/- Walks over the reference's nodes: Rising. -/
namespace Go.Proofs.YtdagikbdpeblhaaGreatDoor
set_option maxRecDepth 100000
open Go.RowKit Av

theorem rise_step {l : List Bs} {k : Nat} (hk : k < l.length) (h0 : 0 < k) (h : Rising (l.take k)) (hl : l[k - 1] < l[k]) : Rising (l.take (k + 1)) := by
  rw [List.take_succ_eq_append_getElem hk]
  refine List.pairwise_append.2 ⟨h, List.pairwise_singleton _ _, fun x hx y hy => ?_⟩
  rw [List.mem_singleton.1 hy]
  obtain ⟨i, hi, rfl⟩ := List.mem_take_iff_getElem.1 hx
  by_cases e : i = k - 1
  · subst e
    exact hl
  · have h1 := List.pairwise_iff_getElem.1 h i (k - 1) (by rw [List.length_take]; omega) (by rw [List.length_take]; omega) (by omega)
    rw [List.getElem_take, List.getElem_take] at h1
    exact List.lt_trans h1 hl
theorem rise_not {l : List Bs} {k : Nat} (hk : k < l.length) (h0 : 0 < k) (hl : ¬ l[k - 1] < l[k]) : ¬ Rising l := fun h => hl (List.pairwise_iff_getElem.1 h (k - 1) k (by omega) hk (by omega))
def RsLoop (w : World) (l : List Bs) (s3 : Value) (wr : World) : Prop := ∃ k : Nat, 1 ≤ k ∧ (k ≤ l.length ∨ k = 1) ∧ s3 = .int .i64 k ∧ Rising (l.take k) ∧ Ext w wr
set_option maxHeartbeats 1600000 in
theorem rising10_any (v : Value) (l : List Bs) (w : World) (h : NmS w v l) (hl : l.length ≤ 1000000) :
    Calls Tryz.prog 59 #[v] w fun e w' => e = .returned (.bool (decide (Rising l))) ∧ Ext w w' := by
  obtain ⟨a, c, rfl, _, _, hop⟩ := Sl.open h.1
  have HOP : Hid (∀ k (hk : k < l.length), ∃ q off, a = some ⟨q, off, none⟩ ∧ ∀ i (hi : i < l.length), w.cell? ⟨q, off + i, none⟩ = some (encStr l[i])) := fun k hk => by
    obtain ⟨q, off, e, _, hc⟩ := hop.2 (by omega)
    exact ⟨q, off, e, fun i hi => hc i _ (by rw [List.getElem?_map, List.getElem?_eq_getElem hi]; rfl)⟩
  clear hop h
  go_enter Tryz.func59, Tryz.ntmps59
  go_wp2_with (fail)
  go_loopw [3] (fun s3 wr => RsLoop w l s3 wr) (fun s3 _ => l.length + 1 - (intOf s3).toNat)
  case atStart => exact ⟨1, Nat.le_refl _, .inr rfl, rfl, by cases l with | nil => exact List.Pairwise.nil | cons x r => exact List.pairwise_singleton _ _, Kp.refl _ _⟩
  case round =>
    obtain ⟨k, hk1, hk, rfl, hri, hx⟩ := hrel
    have HX := Lib.hid hx
    have HRI := Lib.hid hri
    clear hx hri
    by_cases hlt : k < l.length
    · have hkI : (k : Int) < (l.length : Int) := by omega
      have hk0 : (0 : Int) ≤ (k : Int) := by omega
      obtain ⟨q, off, rfl, hc⟩ := HOP.out k hlt
      obtain ⟨j, hj⟩ : ∃ j, j + 1 = k := ⟨k - 1, by omega⟩
      have hej : k - 1 = j := by omega
      have hc1 := hc k hlt
      have hc0 := hc j (by omega)
      have HST : Hid (l[j] < l[k] → Rising (l.take (k + 1))) := fun h => rise_step hlt (by omega) HRI.out (by simpa only [hej] using h)
      have HNO : Hid (¬ l[j] < l[k] → ¬ Rising l) := fun h => rise_not hlt (by omega) (by simpa only [hej] using h)
      have hw1 : IntKind.i64.wrap ((k : Int) - 1) = (j : Int) := by rw [show ((k : Int) - 1) = (j : Int) by omega]; exact IntWalk.i64_in _ (by omega)
      have hj0 : (0 : Int) ≤ (j : Int) := by omega
      have hkj : j < k := by omega
      have hjI : (j : Int) < (l.length : Int) := by omega
      obtain ⟨x, hxx⟩ : ∃ x, l[j] = x := ⟨_, rfl⟩
      obtain ⟨y, hyy⟩ : ∃ y, l[k] = y := ⟨_, rfl⟩
      rw [hxx] at hc0 HST HNO
      rw [hyy] at hc1 HST HNO
      unfold encStr at hc0 hc1
      have HC0 := Lib.hid (HX.out.cell hc0 (fun f => f))
      have HC1 := Lib.hid (HX.out.cell hc1 (fun f => f))
      have HLE : Hid ((Op.bytesLess y x || y == x) = !decide (x < y)) := by
        show _ = _
        rw [lessB]
        by_cases h1 : x < y
        · have h2 : ¬ y < x := fun h => List.lt_irrefl _ (List.lt_trans h h1)
          have h3 : (y == x) = false := beq_eq_false_iff_ne.2 (fun e => List.lt_irrefl _ (e ▸ h1))
          simp [h1, h2, h3]
        · by_cases h2 : y = x
          · subst h2; simp [h1]
          · have h3 : y < x := (List.le_total x y).elim (fun h => absurd (List.le_antisymm h (List.not_lt.1 h1)).symm h2) (fun h => by
              rcases Classical.em (y < x) with h4 | h4
              · exact h4
              · exact absurd (List.le_antisymm h (List.not_lt.1 h4)) h2)
            simp [h1, h3]
      clear hxx hyy hc hc0 hc1 hj hej hkj
      go_upto_region 4 with (fail)
      refine' wp_region_dag0 ((10, .val _) :: (11, .val _) :: (12, .val _) :: (13, .val _) :: (14, .val _) :: (15, .val _) :: (16, .val _) :: (17, .val _) :: (18, .val _) :: (19, .val _) :: []) (by exact ⟨fun _ _ _ _ _ => trivial, ⟨fun _ _ _ _ _ => trivial, ⟨fun _ _ _ _ _ => trivial, ⟨fun _ _ _ _ _ => trivial, ⟨fun _ _ _ _ _ => trivial, ⟨fun _ _ _ _ _ => trivial, ⟨fun _ _ _ _ _ => trivial, ⟨fun _ _ _ _ _ => trivial, ⟨fun _ _ _ _ _ => trivial, ⟨fun _ _ _ _ _ => trivial, trivial⟩⟩⟩⟩⟩⟩⟩⟩⟩⟩) (by kernel_rfl) (by kernel_rfl) (by kernel_rfl) ?_
      rotate_left 10
      repeat (first
        | (refine wpD_skipv ?_ ?_ ?_
           focus rfl
           focus rfl
           simp only [Act.put, List.setIfInBounds_toArray, List.set_cons_succ, List.set_cons_zero])
        | (refine' wpD_val (c := _) ?_ (fun w => Kp.refl _ w) ?_ (fun wq hwq hfq => ?_) ?_
           rotate_left
           focus rfl
           focus rfl
           focus ((have hc0 := hwq.cell HC0.out (fun f => f); have hc1 := hwq.cell HC1.out (fun f => f)); go_simp; first | done | rfl)
           simp only [Act.put, List.setIfInBounds_toArray, List.set_cons_succ, List.set_cons_zero])
        | (refine' wpD_con (c := _) ?_ ?_ (fun wq hwq hfq => ?_) ?_
           rotate_left
           focus rfl
           focus rfl
           focus ((have hc0 := hwq.cell HC0.out (fun f => f); have hc1 := hwq.cell HC1.out (fun f => f)); go_simp; (try (rw [dUpon_enter])); fail)
           simp only [Act.put, List.setIfInBounds_toArray, List.set_cons_succ, List.set_cons_zero])
        | fail)
      refine wpD_nil ?_
      intro w2 hx2 hend
      clear hend
      have HX2 := Lib.hid (HX.out.trans hx2)
      rw [HLE.out]
      by_cases h1 : x < y
      · have HN := Lib.hid (HST.out h1)
        have hb : (!decide (x < y)) = false := by simp [h1]
        rw [hb]
        clear h1 hb HST HNO
        go_wp2_with (fail)
        go_light
        refine ⟨⟨k + 1, ?_, ?_, ?_, HN.out, HX2.out⟩, ?_⟩
        · omega
        · exact .inl (by omega)
        · go_num
        · simp [intOf]; omega
      · have HN := Lib.hid (HNO.out h1)
        have hb : (!decide (x < y)) = true := by simp [h1]
        rw [hb]
        clear h1 hb HST HNO
        go_wp2_with (fail)
        go_ret
        exact ⟨ret_val (by rw [decide_eq_false HN.out]; rfl), HX2.out⟩
    · have hkI : ¬ (k : Int) < (l.length : Int) := by omega
      have HRL : Hid (Rising l) := by
        have h1 := HRI.out
        rw [List.take_of_length_le (by omega)] at h1
        exact h1
      go_wp2_with (fail)
      go_ret
      exact ⟨ret_val (by rw [decide_eq_true HRL.out]; rfl), HX.out⟩
end Go.Proofs.YtdagikbdpeblhaaGreatDoor
