/- Texts put together: AvOwnMap, AvWTreeJ, AvWTreeL. -/
import Derived.Test.YtjapjpigpakejaaGreatDoorAvMap
import Derived.Maps.Own
import Derived.Sort.KeysCollected
import Derived.Test.YtjapjpigpakejaaGreatDoorAvHTreeQ
import Derived.Test.YtjapjpigpakejaaGreatDoorShelfJ
import Derived.Test.YtjapjpigpakejaaGreatDoorAvHWTreeC

/- A map at string keys, as the shelf's contracts on maps.Keys ask for it. -/
namespace Av
set_option maxRecDepth 100000
open Go Go.RowKit Go.Maps Go.Sort
open Go.WideElems (Fit rd rg rd_mk)
open Go.WideMaps (keyOf_string_mk)
open Go.WideShapes (sorted_perm)

/-- How an element reads: it does not matter. -/
def noVal (_ : Value) : Option (DataW Unit × List MemPlace) := some (.nil, [])
theorem map_owned {P : Program} {K : TypeId} (hK : P.underlying K = some .string) {w : World} {m : Nat} {es : List (ByteArray × Value)} (h : MapK Value.string w m es) (hl : es.length ≤ maxLen) (hs : ∀ e ∈ es, e.1.size ≤ maxLen) :
    ∃ D0 : DataW Unit, w.ownsMap P K noVal m es.length D0 ∧ (strKeys D0).Perm (es.map (·.1.data.toList)) ∧ Maps.size D0 = es.length := by
  obtain ⟨L, clock, ⟨hb, h2, h3, h4⟩, rfl⟩ := h
  have hsz : ∀ t ∈ L, t.1.size ≤ maxLen := fun t ht => hs (t.1, t.2.1) (List.mem_map.2 ⟨t, ht, rfl⟩)
  have hrd : ∀ t ∈ L, rd (H := Unit) P K noVal (ent Value.string t) = some (.string t.1.data.toList, .nil) := fun t ht => by
    have := rd_mk (R := noVal) (yv := (.nil, [])) (born := t.2.2) (keyOf_string_mk hK (hsz t ht)) (show noVal t.2.1 = _ from rfl)
    exact this
  have hrg : (L.map (ent Value.string)).map (rg P K noVal) = L.map fun t => (Lit.string t.1.data.toList, DataW.nil) := by
    rw [List.map_map]
    refine List.map_congr_left fun t ht => ?_
    simp only [Function.comp, rg, hrd t ht, Option.getD_some]
  have hF : Fit P K noVal (L.map (ent Value.string)).toArray clock := by
    refine ⟨by simpa using hl, ⟨?_, ?_, ?_⟩, ?_⟩
    · intro x hx
      obtain ⟨t, ht, rfl⟩ := List.mem_map.1 (List.mem_toArray.1 (Array.mem_toList_iff.1 hx))
      exact h4 t ht
    · simpa [List.map_map, Function.comp_def, ent] using h3
    · have : ((L.map (·.1)).map Value.string).Nodup := List.pairwise_map.2 (h2.imp fun hab hval => hab (by simpa using hval))
      simpa [List.map_map, Function.comp_def, ent] using this
    · intro x hx
      obtain ⟨t, ht, rfl⟩ := List.mem_map.1 (List.mem_toArray.1 (Array.mem_toList_iff.1 hx))
      exact ⟨_, hrd t ht⟩
  refine ⟨_, ⟨_, _, hb, hF, by simp, rfl⟩, ?_, ?_⟩
  · show (List.map _ _).Perm _
    refine ((sorted_perm _).map _).trans ?_
    rw [show (L.map (ent Value.string)).toArray.toList = L.map (ent Value.string) from rfl, hrg, List.map_map, List.map_map]
    exact List.Perm.refl _
  · show List.length _ = _
    rw [(sorted_perm _).length_eq]
    simp
end Av

/- Walks of package tree: Paths. -/
namespace Go.Proofs.YtjapjpigpakejaaGreatDoor
set_option maxRecDepth 100000
open Go.RowKit Av Go.Maps Go.Sort

/-- All paths, rising. -/
def pathsP (t : Pt) : List Bs := (t.map (·.1.data.toList)).mergeSort fun x y => decide (x ≤ y)
def PathsPost (w : World) (l : List Bs) (e : Ending) (w' : World) : Prop := ∃ v, e = .returned v ∧ w'.ownsRow w.heap.size strT 1 v l.length (l.map encStr) ∧ Ext w w'
theorem treePaths_any (base b m : Nat) (room : Int) (t : Tr) (w : World) (hT : TreeR w base b m room t) (hs : ∀ e ∈ t, e.1.size ≤ maxLen) (hn : t.length ≤ 1000000) :
    Calls Tryz.prog 13 #[.pointer (some ⟨b, 0, none⟩)] w fun e w' => PathsPost w (pathsP (pl t)) e w' := by
  have hpl : (ptrs t).length = t.length := List.length_map _
  obtain ⟨D0, hown, hperm, hsize⟩ := map_owned (P := Tryz.prog) (K := strT) Tryz.underlying9 hT.map (by unfold maxLen; omega) (fun e he => by
    obtain ⟨x, hx, rfl⟩ := List.mem_map.1 he
    exact hs x hx)
  have c1 := hT.blk.cell 1 _ rfl
  have HP : Hid ((strKeys D0).Perm ((pl t).map (·.1.data.toList))) := by
    show List.Perm _ _
    refine hperm.trans ?_
    unfold ptrs pl
    rw [List.map_map, List.map_map]
    exact List.Perm.refl _
  have hmax : Maps.size D0 ≤ maxLen := by unfold maxLen; omega
  have hbytes : Maps.size D0 * 16 ≤ 140737488355328 := by omega
  clear hT hs hperm
  refine (callsIn_wide (n := 6)).1 ?_
  have hfK : Fence.wide.fn 42 := trivial
  have hfS : Fence.wide.fn 41 := trivial
  refine callsIn_of_wp Tryz.func13 rfl trivial ?_ rfl
  simp only [Tryz.ntmps13, List.size_toArray, List.length_cons, List.length_nil, Nat.reduceAdd, Nat.reduceSub, Array.replicate_succ, Array.replicate_zero, List.push_toArray, List.append_toArray, List.nil_append, List.cons_append]
  gi_wp2_with (first
    | (gi_at_call 42; refine (Tryz.maps_Keys_42 _ _).mono ?_; rintro e w' ⟨rfl, rfl⟩)
    | (gi_at_call 41; refine (Tryz.slices_Sorted_keys_41_42 m t.length D0 noVal w (hpl ▸ hown) hmax hbytes).mono ?_; rintro e w' ⟨v, ss, rfl, hS, hrow, hnil, hb⟩))
  go_ret
  have e1 : (ss.mergeSort fun x y => decide (x ≤ y)) = pathsP (pl t) := mergeSort_of_perm (hS.trans HP.out)
  have e2 : ss.length = (pathsP (pl t)).length := by rw [← e1]; simp
  rw [e1, e2] at hrow
  exact ⟨v, rfl, own_less hrow (by simp), ((Kp.refl _ w).alloc _).ext (Kp.of_below hb)⟩
theorem pathsP_rising {t : Pt} (h : (t.map (·.1)).Nodup) : Rising (pathsP t) := by
  have tr : ∀ a b c : Bs, decide (a ≤ b) = true → decide (b ≤ c) = true → decide (a ≤ c) = true := fun a b c h1 h2 => by simp only [decide_eq_true_eq] at *; exact List.le_trans h1 h2
  have tt : ∀ a b : Bs, (decide (a ≤ b) || decide (b ≤ a)) = true := fun a b => by simp only [Bool.or_eq_true, decide_eq_true_eq]; exact List.le_total a b
  have hp := List.pairwise_mergeSort tr tt (t.map (·.1.data.toList))
  have hk : (t.map (·.1.data.toList)).Nodup := by
    have : (t.map (·.1.data.toList)) = (t.map (·.1)).map (·.data.toList) := by rw [List.map_map]; rfl
    rw [this]
    exact List.pairwise_map.2 (h.imp fun hab e => hab (bytes_eq e))
  have hn : (pathsP t).Nodup := (List.mergeSort_perm _ _).nodup_iff.2 hk
  exact (hp.and hn).imp fun ⟨h1, h2⟩ => lt_of_not (fun h3 => h2 (List.le_antisymm (by simpa using h1) (List.le_of_lt h3))) (fun e => h2 e.symm)
theorem pathsP_mem {t : Pt} {x : Bs} : x ∈ pathsP t ↔ ∃ e ∈ t, e.1.data.toList = x := by
  unfold pathsP
  rw [(List.mergeSort_perm _ _).mem_iff, List.mem_map]
theorem pathsP_len (t : Pt) : (pathsP t).length = t.length := by simp [pathsP]
end Go.Proofs.YtjapjpigpakejaaGreatDoor

/- Walks of package tree: named. -/
namespace Go.Proofs.YtjapjpigpakejaaGreatDoor
set_option maxRecDepth 100000
open Go.RowKit Av

/-- A name at its place. -/
def okAt (l : List Bs) (j : Nat) : Prop := ∃ h : j < l.length, topL (47 :: l[j]) = l[j] ∧ l[j] ≠ [] ∧ ∀ _ : 0 < j, l[j - 1] < l[j]
def NamedLoop (w : World) (l : List Bs) (s7 : Value) (wr : World) : Prop := ∃ k : Nat, k ≤ l.length ∧ s7 = .int .i64 k ∧ (∀ j, j < k → okAt l j) ∧ Ext w wr
def Named (l : List Bs) : Prop := (∀ j, j < l.length → okAt l j) ∧ l.length ≤ 500
def NamedPost (w : World) (l : List Bs) (e : Ending) (w' : World) : Prop := ∃ r : Bool, e = .returned (.bool r) ∧ (r = true ↔ Named l) ∧ Ext w w'
set_option maxHeartbeats 3200000 in
theorem named_any (v : Value) (l : List Bs) (w : World) (hG : GL w) (h : NmS w v l) (hl : l.length ≤ 1000000) (hs : ∀ s ∈ l, s.length ≤ 1000000) :
    Calls Tryz.prog 54 #[v] w fun e w' => NamedPost w l e w' := by
  obtain ⟨a, c, rfl, _, hm, _, hop⟩ := Sl.open h.1
  have hop' : 0 < l.length → ∃ g off, a = some ⟨g, off, none⟩ ∧ ∀ k (hk : k < l.length), w.cell? ⟨g, off + k, none⟩ = some (encStr l[k]) := fun h0 => by
    obtain ⟨g, off, e2, _, hc⟩ := hop h0
    exact ⟨g, off, e2, fun k hk => hc k _ (by rw [List.getElem?_map, List.getElem?_eq_getElem hk]; rfl)⟩
  have HOP := Lib.hid hop'
  have HG := Lib.hid hG
  have HS := Lib.hid hs
  clear hop hop' hG hs h
  go_enter Tryz.func54, Tryz.ntmps54
  go_wp2_with (fail)
  go_loopw [7] (fun s7 wr => NamedLoop w l s7 wr) (fun s7 _ => l.length - (intOf s7).toNat)
  case atStart => exact ⟨0, Nat.zero_le _, rfl, fun j hj => by omega, Kp.refl _ _⟩
  case round =>
    obtain ⟨k, hk, rfl, hok, hxr⟩ := hrel
    have HOK := Lib.hid hok
    have HX := Lib.hid hxr
    clear hok hxr
    by_cases hlt : k < l.length
    · obtain ⟨g, off, rfl, hcl⟩ := HOP.out (by omega)
      have hc := HX.out.cell (hcl k hlt) (fun f => f)
      have hsk := HS.out _ (List.getElem_mem hlt)
      have HOKK : Hid (okAt l k ↔ topL (47 :: l[k]) = l[k] ∧ l[k] ≠ [] ∧ ∀ _ : 0 < k, l[k - 1] < l[k]) := ⟨fun ⟨_, h⟩ => h, fun h => ⟨hlt, h⟩⟩
      have hprev : Hid (0 < k → wr.cell? ⟨g, off + (k - 1), none⟩ = some (encStr (l[k - 1]'(by omega)))) := fun _ => HX.out.cell (hcl (k - 1) (by omega)) (fun f => f)
      obtain ⟨s, hs⟩ : ∃ s, l[k] = s := ⟨_, rfl⟩
      rw [hs] at hc hsk HOKK
      obtain ⟨p, hp⟩ : ∃ p : ByteArray, ⟨s.toArray⟩ = p := ⟨_, rfl⟩
      have hpl : p.toList = s := by rw [← hp, Lib.toList_data]
      have hps : p.size = s.length := by rw [← hp, Lib.size_eq]
      have hadd : ∀ wx, (Op.stringOp .add ⟨#[47]⟩ p).run Tryz.prog wx = .ok (.string ⟨(47 :: s).toArray⟩) wx := fun wx => by
        rw [run_string_add_sum (P := Tryz.prog) wx _ _ (by have : (⟨#[47]⟩ : ByteArray).size = 1 := rfl; omega)]
        conv => lhs; rw [← bytes_self p]
        rw [show (⟨#[47]⟩ : ByteArray) = ⟨[47].toArray⟩ from rfl, bytes_append, ← hp]
        simp
      unfold encStr at hc
      rw [hp] at hc
      have HTOP := Lib.hid (pathTop_any ⟨(47 :: s).toArray⟩ wr (HG.out.ext HX.out) (by rw [Lib.size_eq]; unfold maxLen; simp; omega))
      have htl : (⟨(47 :: s).toArray⟩ : ByteArray).data.toList = 47 :: s := by simp
      rw [htl] at HTOP
      obtain ⟨q, hq⟩ : ∃ q : ByteArray, ⟨(topL (47 :: s)).toArray⟩ = q := ⟨_, rfl⟩
      have hql : q.toList = topL (47 :: s) := by rw [← hq, Lib.toList_data]
      rw [hq] at HTOP
      have HPQ := Lib.hid (And.intro hpl hql)
      clear hq hp hpl hql htl hps hcl
      go_wp2_with (fail)
      refine HTOP.out.mono ?_
      rintro e w2 ⟨rfl, hx2⟩
      have HX2 := Lib.hid (HX.out.trans hx2)
      have HNO : Hid (¬ (topL (47 :: s) = s ∧ s ≠ [] ∧ ∀ _ : 0 < k, l[k - 1] < s) → ¬ Named l) := fun h hn => h (HOKK.out.1 (hn.1 k hlt))
      by_cases h1 : topL (47 :: s) = s
      · have e1 : (q.toList == p.toList) = true := by rw [HPQ.out.1, HPQ.out.2, h1]; simp
        by_cases h2 : s = []
        · have e2 : (p.toList == []) = true := by rw [HPQ.out.1, h2]; rfl
          clear hx2
          go_wp2_with (fail)
          go_ret
          exact ⟨false, rfl, ⟨fun h => (by cases h), fun h => absurd h (HNO.out (fun h => h.2.1 h2))⟩, HX2.out⟩
        · have e2 : (p.toList == []) = false := by rw [HPQ.out.1]; simpa using h2
          by_cases k0 : k = 0
          · subst k0
            clear hx2
            go_wp2_with (fail)
            go_light
            exact ⟨⟨1, by omega, by go_num, fun j hj => by obtain rfl : j = 0 := by omega
                                                           exact HOKK.out.2 ⟨h1, h2, fun h => absurd h (by omega)⟩, HX2.out⟩, by simp [intOf]; omega⟩
          · have hk0 : (0 : Int) < (k : Int) := by omega
            have hpc := (hprev.out (by omega))
            have hpc := Kp.cell hx2 hpc (fun f => f)
            have hkk : ((k : Int) - 1) = ((k - 1 : Nat) : Int) := by omega
            obtain ⟨y, hy⟩ : ∃ y, l[k - 1] = y := ⟨_, rfl⟩
            rw [hy] at hpc
            have HY := Lib.hid hy
            obtain ⟨z, hz⟩ : ∃ z : ByteArray, ⟨y.toArray⟩ = z := ⟨_, rfl⟩
            have hzl : z.toList = y := by rw [← hz, Lib.toList_data]
            unfold encStr at hpc
            rw [hz] at hpc
            by_cases h3 : y < s
            · have l1 : Op.bytesLess z.toList p.toList = true := by rw [HPQ.out.1, hzl, lessB, decide_eq_true_eq]; exact h3
              clear hx2 hy hz hzl
              go_wp2_with (fail)
              go_light
              exact ⟨⟨k + 1, by omega, by go_num, fun j hj => by
                by_cases hjk : j = k
                · subst hjk
                  exact HOKK.out.2 ⟨h1, h2, fun _ => by rw [HY.out]; exact h3⟩
                · exact HOK.out j (by omega), HX2.out⟩, by simp [intOf]; omega⟩
            · have l1 : Op.bytesLess z.toList p.toList = false := by rw [HPQ.out.1, hzl, lessB, decide_eq_false_iff_not]; exact h3
              clear hx2 hy hz hzl
              go_wp2_with (fail)
              go_ret
              exact ⟨false, rfl, ⟨fun h => (by cases h), fun h => absurd h (HNO.out (fun h => h3 (by have := h.2.2 (by omega); rw [HY.out] at this; exact this)))⟩, HX2.out⟩
      · have e1 : (q.toList == p.toList) = false := by rw [HPQ.out.1, HPQ.out.2]; simpa using h1
        clear hx2
        go_wp2_with (fail)
        go_ret
        exact ⟨false, rfl, ⟨fun h => (by cases h), fun h => absurd h (HNO.out (fun h => h1 h.1))⟩, HX2.out⟩
    · have hk2 : k = l.length := by omega
      subst hk2
      by_cases h5 : l.length ≤ 500
      · have h5' : (l.length : Int) ≤ 500 := by omega
        go_wp2_with (fail)
        go_ret
        exact ⟨true, ret_bool (by simp; try omega), ⟨fun _ => ⟨HOK.out, h5⟩, fun _ => rfl⟩, HX.out⟩
      · have h5' : ¬ (l.length : Int) ≤ 500 := by omega
        go_wp2_with (fail)
        go_ret
        exact ⟨false, ret_bool (by simp; try omega), ⟨fun h => (by cases h), fun h => absurd h.2 h5⟩, HX.out⟩
end Go.Proofs.YtjapjpigpakejaaGreatDoor
