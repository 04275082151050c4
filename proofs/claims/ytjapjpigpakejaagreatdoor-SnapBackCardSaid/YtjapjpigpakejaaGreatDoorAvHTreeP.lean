/- What a tree answers, in plain lists. -/
import Derived.Test.YtjapjpigpakejaaGreatDoorAvHWTreeD
namespace Go.Proofs.YtjapjpigpakejaaGreatDoor
set_option maxRecDepth 100000
open Go.RowKit Av

/-- A tree without its blocks. -/
abbrev Pt := List (ByteArray × NodeV)
def pl (t : Tr) : Pt := t.map fun e => (e.1, e.2.2)
theorem pl_get (t : Tr) (p : ByteArray) : mget (pl t) p = (mget t p).map (·.2) := mget_map (fun e : Nat × NodeV => e.2) t p
theorem pl_set (t : Tr) (p : ByteArray) (g : Nat) (n : NodeV) : pl (mset t p (g, n)) = mset (pl t) p n := (mset_map (fun e : Nat × NodeV => e.2) t p (g, n)).symm
theorem pl_del (t : Tr) (p : ByteArray) : pl (mdel t p) = mdel (pl t) p := (mdel_map (fun e : Nat × NodeV => e.2) t p).symm
theorem pl_len (t : Tr) : (pl t).length = t.length := by simp [pl]
def tellP (f : NodeV → Bs → NodeV) (t : Pt) (p : ByteArray) : Pt := match parentL p.data.toList with
  | none => t
  | some up => match mget t ⟨up.toArray⟩ with
    | none => t
    | some n => mset t ⟨up.toArray⟩ (f n (lastL p.data.toList))
theorem pl_tell (f : NodeV → Bs → NodeV) (t : Tr) (p : ByteArray) : pl (tellUp f t p) = tellP f (pl t) p := by
  unfold tellUp tellP
  cases parentL p.data.toList with
  | none => rfl
  | some up =>
    simp only [pl_get]
    cases h : mget t ⟨up.toArray⟩ with
    | none => rfl
    | some gn => exact pl_set _ _ _ _
def finQ (room : Int) (t : Pt) (p : ByteArray) : ByteArray × Int := if (mget t p).isSome = true then (⟨#[]⟩, 5) else if room ≤ (t.length : Int) then (⟨#[]⟩, 9) else (p, 0)
def placeP (room : Int) (t : Pt) (p : ByteArray) (f : Int) : ByteArray × Int := match parentL p.data.toList with
  | none => finQ room t p
  | some up => match mget t ⟨up.toArray⟩ with
    | none => (⟨#[]⟩, 4)
    | some n => if n.own ≠ 0 then (⟨#[]⟩, 8) else if seqF f = true then (match numberL p.data.toList n.next with
      | none => (⟨#[]⟩, 1)
      | some q => finQ room t ⟨q.toArray⟩) else finQ room t p
theorem pl_fin (room : Int) (t : Tr) (p : ByteArray) : finP room t p = finQ room (pl t) p := by
  unfold finP finQ
  rw [pl_get, pl_len, Option.isSome_map]
theorem pl_place (room : Int) (t : Tr) (p : ByteArray) (f : Int) : placeT room t p f = placeP room (pl t) p f := by
  unfold placeT placeP
  cases parentL p.data.toList with
  | none => exact pl_fin _ _ _
  | some up =>
    simp only [pl_get]
    cases h : mget t ⟨up.toArray⟩ with
    | none => rfl
    | some gn =>
      obtain ⟨g, n⟩ := gn
      simp only [Option.map_some]
      cases numberL p.data.toList n.next <;> simp only [pl_fin]
/-- A result. -/
structure Rp where
  err : Int
  path : ByteArray
  data : ByteArray
  names : List Bs
  st : NodeV
def failR (z : Int) : Rp := ⟨z, ⟨#[]⟩, ⟨#[]⟩, [], ndZ⟩
def ownF (f sess : Int) : Int := if f = 1 ∨ f = 3 then sess else 0
def createP (room : Int) (t : Pt) (o : OpV) (sess z : Int) (only : Bool) : Pt × Rp :=
  let q := placeP room t o.path o.flags
  if q.2 ≠ 0 then (t, failR q.2) else
  let n := ndNew z (ownF o.flags sess) o.data
  (if only then t else tellP ndAdd (mset t q.1 n) q.1, ⟨0, q.1, ⟨#[]⟩, [], n⟩)
def wrongB (o : OpV) (n : NodeV) : Bool := o.ver != -1 && o.ver != n.ver
def changeP (t : Pt) (o : OpV) (z : Int) (only : Bool) : Pt × Rp := match mget t o.path with
  | none => (t, failR 4)
  | some n => if wrongB o n = true then (t, failR 6)
    else if o.kind = 2 then (if 0 < n.names.length then (t, failR 7) else (if only then t else tellP ndRem (mdel t o.path) o.path, ⟨0, o.path, ⟨#[]⟩, [], ndZ⟩))
    else if o.kind = 3 then (if only then t else mset t o.path (ndWrite n z o.data), ⟨0, o.path, ⟨#[]⟩, [], ndWrite n z o.data⟩)
    else (t, ⟨0, o.path, ⟨#[]⟩, [], ndZ⟩)
def readP (t : Pt) (o : OpV) : Rp := match mget t o.path with
  | none => failR 4
  | some n => ⟨0, o.path, if o.kind = 5 then n.data else ⟨#[]⟩, if o.kind = 7 then n.names else [], n⟩
def doP (room : Int) (t : Pt) (o : OpV) (sess z : Int) (only : Bool) : Pt × Rp :=
  if goodO o ≠ 0 then (t, failR (goodO o)) else
  if sess < 1 ∨ z < 0 then (t, failR 1) else
  if o.kind = 1 then createP room t o sess z only else
  if o.kind = 2 ∨ o.kind = 3 ∨ o.kind = 4 then changeP t o z only else (t, readP t o)
/-- A tree's blocks are those that it had, or new. -/
def Fresh (w : World) (t t' : Tr) : Prop := ∀ e ∈ t', (∃ e0 ∈ t, e.2.1 = e0.2.1) ∨ w.heap.size ≤ e.2.1
theorem Fresh.refl (w : World) (t : Tr) : Fresh w t t := fun e he => .inl ⟨e, he, rfl⟩
theorem mem_mset' {α : Type} {l : List (ByteArray × α)} {k : ByteArray} {v : α} {e : ByteArray × α} (h : e ∈ mset l k v) : e = (k, v) ∨ e ∈ l := by
  induction l with
  | nil => exact .inl (by simpa [mset] using h)
  | cons a r ih =>
    unfold mset at h
    by_cases hk : k = a.1
    · rw [if_pos hk] at h
      rcases List.mem_cons.1 h with h | h
      · exact .inl h
      · exact .inr (List.mem_cons_of_mem _ h)
    · rw [if_neg hk] at h
      rcases List.mem_cons.1 h with h | h
      · exact .inr (by simp [h])
      · rcases ih h with h | h
        · exact .inl h
        · exact .inr (List.mem_cons_of_mem _ h)
theorem Fresh.set {w : World} {t t1 : Tr} (h : Fresh w t t1) {g : Nat} (hg : w.heap.size ≤ g) (p : ByteArray) (n : NodeV) : Fresh w t (mset t1 p (g, n)) := fun e he => by
  rcases mem_mset' he with rfl | he
  · exact .inr hg
  · exact h e he
theorem Fresh.del {w : World} {t t1 : Tr} (h : Fresh w t t1) (p : ByteArray) : Fresh w t (mdel t1 p) := fun e he => h e (List.mem_filter.1 he).1
theorem Fresh.tell {w : World} {t t1 : Tr} (h : Fresh w t t1) (f : NodeV → Bs → NodeV) (p : ByteArray) : Fresh w t (tellUp f t1 p) := by
  unfold tellUp
  split
  · exact h
  · split
    · exact h
    · rename_i up g n hg
      intro e he
      rcases mem_mset' he with rfl | he
      · have h2 := h _ (mget_mem hg)
        exact h2
      · exact h e he
theorem Fresh.trans {w w1 : World} {t t1 t2 : Tr} (h : Fresh w t t1) (h2 : Fresh w1 t1 t2) (hs : w.heap.size ≤ w1.heap.size) : Fresh w t t2 := fun e he => by
  rcases h2 e he with ⟨e0, he0, h3⟩ | h3
  · rw [h3]; exact h e0 he0
  · exact .inr (Nat.le_trans hs h3)
theorem Fresh.mono {w w1 : World} {t t1 : Tr} (h : Fresh w1 t t1) (hs : w.heap.size ≤ w1.heap.size) : Fresh w t t1 := (Fresh.refl w t).trans h hs
def DoPost (w : World) (base b m : Nat) (room : Int) (t : Tr) (R : Pt × Rp) (e : Ending) (w' : World) : Prop :=
  ∃ t' nv, e = .returned (resA R.2.err R.2.path R.2.data nv R.2.st) ∧ w'.ownsRow 0 strT 1 nv R.2.names.length (R.2.names.map encStr) ∧ TreeR w' base b m room t' ∧ pl t' = R.1 ∧ Kp (nodeFr m t) w w' ∧ Fresh w t t'
/-- Below the tree's own blocks nothing is written. -/
theorem tree_old {w0 w w' : World} {base b m : Nat} {room : Int} {t : Tr} (hb : w0.heap.size ≤ base) (hT : TreeR w base b m room t) (hE : Ext w0 w) (k : Kp (nodeFr m t) w w') : Ext w0 w' := hE.next k (fun i hi hs => by
  rcases hs with rfl | ⟨e, he, rfl⟩
  · have := hT.low.2.1
    omega
  · have := hT.low.2.2 e he
    omega)
theorem own_nil (w : World) : w.ownsRow 0 strT 1 (.slice none 0 0) ([] : List Bs).length (([] : List Bs).map encStr) := ⟨by simp, .inl ⟨rfl, rfl⟩⟩
/-- A block of another type is written: the tree stands. -/
theorem TreeR.aside {w w' : World} {base b m : Nat} {room : Int} {t : Tr} (h : TreeR w base b m room t) {r : Nat} {A : Array Value} {T : TypeId} (hr : Blk w r A T) (h1 : T ≠ trT) (h2 : T ≠ ndT) (h3 : T ≠ strT) (k : Kp (fun i => i = r) w w') : TreeR w' base b m room t := by
  have hr' : w.heap[r]? = some (.cells A T (0, 0)) := hr
  have hb : b ≠ r := by
    rintro rfl
    have h4 : w.heap[b]? = some (.cells #[.int .i64 room, .map (some m)] trT (0, 0)) := h.blk
    rw [hr'] at h4
    simp only [Option.some.injEq, Obj.cells.injEq] at h4
    exact h1 h4.2.1
  have hm : m ≠ r := by
    rintro rfl
    obtain ⟨L, clock, hq, _⟩ := h.map
    have h4 := hq.1
    rw [hr'] at h4
    simp at h4
  refine ⟨h.low, h.blk.kp k hb, h.map.kp k hm, fun e he => (h.nod e he).kp k ?_ ?_, h.inj⟩
  · rintro rfl
    obtain ⟨nv, h4, _⟩ := h.nod e he
    have h5 : w.heap[e.2.1]? = some (.cells (ndA e.2.2 nv) ndT (0, 0)) := h4
    rw [hr'] at h5
    simp only [Option.some.injEq, Obj.cells.injEq] at h5
    exact h2 h5.2.1
  · rintro i cur f rfl e4
    rw [hr'] at e4
    simp only [Option.some.injEq, Obj.cells.injEq] at e4
    exact h3 e4.2.1
/-- A result's cell. -/
def rsZ : Array Value := #[.int .i64 0, .string ⟨#[]⟩, .string ⟨#[]⟩, .slice none 0 0, .int .i64 0, .int .i64 0, .int .i64 0, .int .i64 0, .int .i64 0, .int .i64 0, .int .i64 0]
def set11 (w : World) (r : Nat) (u0 u1 u2 u3 u4 u5 u6 u7 u8 u9 u10 : Value) : World := ((((((((((w.setCell ⟨r, 0, none⟩ u0).setCell ⟨r, 1, none⟩ u1).setCell ⟨r, 2, none⟩ u2).setCell ⟨r, 3, none⟩ u3).setCell ⟨r, 4, none⟩ u4).setCell ⟨r, 5, none⟩ u5).setCell ⟨r, 6, none⟩ u6).setCell ⟨r, 7, none⟩ u7).setCell ⟨r, 8, none⟩ u8).setCell ⟨r, 9, none⟩ u9).setCell ⟨r, 10, none⟩ u10
theorem kp_set11 (w : World) (r : Nat) (u0 u1 u2 u3 u4 u5 u6 u7 u8 u9 u10 : Value) : Kp (fun i => i = r) w (set11 w r u0 u1 u2 u3 u4 u5 u6 u7 u8 u9 u10) := by
  have k : ∀ {W : World} (i : Nat) (u : Value), Kp (fun i => i = r) w W → Kp (fun i => i = r) w (W.setCell ⟨r, i, none⟩ u) := fun i u h => h.set1 r i u rfl
  exact k 10 u10 (k 9 u9 (k 8 u8 (k 7 u7 (k 6 u6 (k 5 u5 (k 4 u4 (k 3 u3 (k 2 u2 (k 1 u1 (k 0 u0 (Kp.refl _ _)))))))))))
end Go.Proofs.YtjapjpigpakejaaGreatDoor
