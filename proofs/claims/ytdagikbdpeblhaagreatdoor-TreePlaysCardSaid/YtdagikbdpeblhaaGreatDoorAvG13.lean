/- Texts put together: AvTreeP, AvTreeQ. -/
import Derived.Test.YtdagikbdpeblhaaGreatDoorAvHWTreeD
import Derived.Test.YtdagikbdpeblhaaGreatDoorAvG2

/- What a tree answers, in plain lists. -/
namespace Go.Proofs.YtdagikbdpeblhaaGreatDoor
set_option maxRecDepth 100000
open Go.RowKit Av

/-- A tree without its blocks. -/
abbrev Pt := List (ByteArray × NodeV)
def pl (t : Tr) : Pt := t.map fun e => (e.1, e.2.2)
theorem pl_get (t : Tr) (p : ByteArray) : mget (pl t) p = (mget t p).map (·.2) := mget_map (fun e : Nat × NodeV => e.2) t p
theorem pl_set (t : Tr) (p : ByteArray) (g : Nat) (n : NodeV) : pl (mset t p (g, n)) = mset (pl t) p n := (mset_map (fun e : Nat × NodeV => e.2) t p (g, n)).symm
theorem pl_del (t : Tr) (p : ByteArray) : pl (mdel t p) = mdel (pl t) p := (mdel_map (fun e : Nat × NodeV => e.2) t p).symm
theorem pl_len (t : Tr) : (pl t).length = t.length := by simp [pl]
def tellP (f : NodeV → Bs → NodeV) (t : Pt) (p : ByteArray) : Pt := match parentL p.data.toList with
  | none => t
  | some up => match mget t ⟨up.toArray⟩ with
    | none => t
    | some n => mset t ⟨up.toArray⟩ (f n (lastL p.data.toList))
theorem pl_tell (f : NodeV → Bs → NodeV) (t : Tr) (p : ByteArray) : pl (tellUp f t p) = tellP f (pl t) p := by
  unfold tellUp tellP
  cases parentL p.data.toList with
  | none => rfl
  | some up =>
    simp only [pl_get]
    cases h : mget t ⟨up.toArray⟩ with
    | none => rfl
    | some gn => exact pl_set _ _ _ _
def finQ (room : Int) (t : Pt) (p : ByteArray) : ByteArray × Int := if (mget t p).isSome = true then (⟨#[]⟩, 5) else if room ≤ (t.length : Int) then (⟨#[]⟩, 9) else (p, 0)
def placeP (room : Int) (t : Pt) (p : ByteArray) (f : Int) : ByteArray × Int := match parentL p.data.toList with
  | none => finQ room t p
  | some up => match mget t ⟨up.toArray⟩ with
    | none => (⟨#[]⟩, 4)
    | some n => if n.own ≠ 0 then (⟨#[]⟩, 8) else if seqF f = true then (match numberL p.data.toList n.next with
      | none => (⟨#[]⟩, 1)
      | some q => finQ room t ⟨q.toArray⟩) else finQ room t p
theorem pl_fin (room : Int) (t : Tr) (p : ByteArray) : finP room t p = finQ room (pl t) p := by
  unfold finP finQ
  rw [pl_get, pl_len, Option.isSome_map]
theorem pl_place (room : Int) (t : Tr) (p : ByteArray) (f : Int) : placeT room t p f = placeP room (pl t) p f := by
  unfold placeT placeP
  cases parentL p.data.toList with
  | none => exact pl_fin _ _ _
  | some up =>
    simp only [pl_get]
    cases h : mget t ⟨up.toArray⟩ with
    | none => rfl
    | some gn =>
      obtain ⟨g, n⟩ := gn
      simp only [Option.map_some]
      cases numberL p.data.toList n.next <;> simp only [pl_fin]
/-- A result. -/
structure Rp where
  err : Int
  path : ByteArray
  data : ByteArray
  names : List Bs
  st : NodeV
def failR (z : Int) : Rp := ⟨z, ⟨#[]⟩, ⟨#[]⟩, [], ndZ⟩
def ownF (f sess : Int) : Int := if f = 1 ∨ f = 3 then sess else 0
def createP (room : Int) (t : Pt) (o : OpV) (sess z : Int) (only : Bool) : Pt × Rp :=
  let q := placeP room t o.path o.flags
  if q.2 ≠ 0 then (t, failR q.2) else
  let n := ndNew z (ownF o.flags sess) o.data
  (if only then t else tellP ndAdd (mset t q.1 n) q.1, ⟨0, q.1, ⟨#[]⟩, [], n⟩)
def wrongB (o : OpV) (n : NodeV) : Bool := o.ver != -1 && o.ver != n.ver
def changeP (t : Pt) (o : OpV) (z : Int) (only : Bool) : Pt × Rp := match mget t o.path with
  | none => (t, failR 4)
  | some n => if wrongB o n = true then (t, failR 6)
    else if o.kind = 2 then (if 0 < n.names.length then (t, failR 7) else (if only then t else tellP ndRem (mdel t o.path) o.path, ⟨0, o.path, ⟨#[]⟩, [], ndZ⟩))
    else if o.kind = 3 then (if only then t else mset t o.path (ndWrite n z o.data), ⟨0, o.path, ⟨#[]⟩, [], ndWrite n z o.data⟩)
    else (t, ⟨0, o.path, ⟨#[]⟩, [], ndZ⟩)
def readP (t : Pt) (o : OpV) : Rp := match mget t o.path with
  | none => failR 4
  | some n => ⟨0, o.path, if o.kind = 5 then n.data else ⟨#[]⟩, if o.kind = 7 then n.names else [], n⟩
def doP (room : Int) (t : Pt) (o : OpV) (sess z : Int) (only : Bool) : Pt × Rp :=
  if goodO o ≠ 0 then (t, failR (goodO o)) else
  if sess < 1 ∨ z < 0 then (t, failR 1) else
  if o.kind = 1 then createP room t o sess z only else
  if o.kind = 2 ∨ o.kind = 3 ∨ o.kind = 4 then changeP t o z only else (t, readP t o)
/-- A tree's blocks are those that it had, or new. -/
def Fresh (w : World) (t t' : Tr) : Prop := ∀ e ∈ t', (∃ e0 ∈ t, e.2.1 = e0.2.1) ∨ w.heap.size ≤ e.2.1
theorem Fresh.refl (w : World) (t : Tr) : Fresh w t t := fun e he => .inl ⟨e, he, rfl⟩
theorem mem_mset' {α : Type} {l : List (ByteArray × α)} {k : ByteArray} {v : α} {e : ByteArray × α} (h : e ∈ mset l k v) : e = (k, v) ∨ e ∈ l := by
  induction l with
  | nil => exact .inl (by simpa [mset] using h)
  | cons a r ih =>
    unfold mset at h
    by_cases hk : k = a.1
    · rw [if_pos hk] at h
      rcases List.mem_cons.1 h with h | h
      · exact .inl h
      · exact .inr (List.mem_cons_of_mem _ h)
    · rw [if_neg hk] at h
      rcases List.mem_cons.1 h with h | h
      · exact .inr (by simp [h])
      · rcases ih h with h | h
        · exact .inl h
        · exact .inr (List.mem_cons_of_mem _ h)
theorem Fresh.set {w : World} {t t1 : Tr} (h : Fresh w t t1) {g : Nat} (hg : w.heap.size ≤ g) (p : ByteArray) (n : NodeV) : Fresh w t (mset t1 p (g, n)) := fun e he => by
  rcases mem_mset' he with rfl | he
  · exact .inr hg
  · exact h e he
theorem Fresh.del {w : World} {t t1 : Tr} (h : Fresh w t t1) (p : ByteArray) : Fresh w t (mdel t1 p) := fun e he => h e (List.mem_filter.1 he).1
theorem Fresh.tell {w : World} {t t1 : Tr} (h : Fresh w t t1) (f : NodeV → Bs → NodeV) (p : ByteArray) : Fresh w t (tellUp f t1 p) := by
  unfold tellUp
  split
  · exact h
  · split
    · exact h
    · rename_i up g n hg
      intro e he
      rcases mem_mset' he with rfl | he
      · have h2 := h _ (mget_mem hg)
        exact h2
      · exact h e he
theorem Fresh.trans {w w1 : World} {t t1 t2 : Tr} (h : Fresh w t t1) (h2 : Fresh w1 t1 t2) (hs : w.heap.size ≤ w1.heap.size) : Fresh w t t2 := fun e he => by
  rcases h2 e he with ⟨e0, he0, h3⟩ | h3
  · rw [h3]; exact h e0 he0
  · exact .inr (Nat.le_trans hs h3)
theorem Fresh.mono {w w1 : World} {t t1 : Tr} (h : Fresh w1 t t1) (hs : w.heap.size ≤ w1.heap.size) : Fresh w t t1 := (Fresh.refl w t).trans h hs
def DoPost (w : World) (base b m : Nat) (room : Int) (t : Tr) (R : Pt × Rp) (e : Ending) (w' : World) : Prop :=
  ∃ t' nv, e = .returned (resA R.2.err R.2.path R.2.data nv R.2.st) ∧ w'.ownsRow 0 strT 1 nv R.2.names.length (R.2.names.map encStr) ∧ TreeR w' base b m room t' ∧ pl t' = R.1 ∧ Kp (nodeFr m t) w w' ∧ Fresh w t t'
/-- Below the tree's own blocks nothing is written. -/
theorem tree_old {w0 w w' : World} {base b m : Nat} {room : Int} {t : Tr} (hb : w0.heap.size ≤ base) (hT : TreeR w base b m room t) (hE : Ext w0 w) (k : Kp (nodeFr m t) w w') : Ext w0 w' := hE.next k (fun i hi hs => by
  rcases hs with rfl | ⟨e, he, rfl⟩
  · have := hT.low.2.1
    omega
  · have := hT.low.2.2 e he
    omega)
theorem own_nil (w : World) : w.ownsRow 0 strT 1 (.slice none 0 0) ([] : List Bs).length (([] : List Bs).map encStr) := ⟨by simp, .inl ⟨rfl, rfl⟩⟩
/-- A block of another type is written: the tree stands. -/
theorem TreeR.aside {w w' : World} {base b m : Nat} {room : Int} {t : Tr} (h : TreeR w base b m room t) {r : Nat} {A : Array Value} {T : TypeId} (hr : Blk w r A T) (h1 : T ≠ trT) (h2 : T ≠ ndT) (h3 : T ≠ strT) (k : Kp (fun i => i = r) w w') : TreeR w' base b m room t := by
  have hr' : w.heap[r]? = some (.cells A T (0, 0)) := hr
  have hb : b ≠ r := by
    rintro rfl
    have h4 : w.heap[b]? = some (.cells #[.int .i64 room, .map (some m)] trT (0, 0)) := h.blk
    rw [hr'] at h4
    simp only [Option.some.injEq, Obj.cells.injEq] at h4
    exact h1 h4.2.1
  have hm : m ≠ r := by
    rintro rfl
    obtain ⟨L, clock, hq, _⟩ := h.map
    have h4 := hq.1
    rw [hr'] at h4
    simp at h4
  refine ⟨h.low, h.blk.kp k hb, h.map.kp k hm, fun e he => (h.nod e he).kp k ?_ ?_, h.inj⟩
  · rintro rfl
    obtain ⟨nv, h4, _⟩ := h.nod e he
    have h5 : w.heap[e.2.1]? = some (.cells (ndA e.2.2 nv) ndT (0, 0)) := h4
    rw [hr'] at h5
    simp only [Option.some.injEq, Obj.cells.injEq] at h5
    exact h2 h5.2.1
  · rintro i cur f rfl e4
    rw [hr'] at e4
    simp only [Option.some.injEq, Obj.cells.injEq] at e4
    exact h3 e4.2.1
/-- A result's cell. -/
def rsZ : Array Value := #[.int .i64 0, .string ⟨#[]⟩, .string ⟨#[]⟩, .slice none 0 0, .int .i64 0, .int .i64 0, .int .i64 0, .int .i64 0, .int .i64 0, .int .i64 0, .int .i64 0]
def set11 (w : World) (r : Nat) (u0 u1 u2 u3 u4 u5 u6 u7 u8 u9 u10 : Value) : World := ((((((((((w.setCell ⟨r, 0, none⟩ u0).setCell ⟨r, 1, none⟩ u1).setCell ⟨r, 2, none⟩ u2).setCell ⟨r, 3, none⟩ u3).setCell ⟨r, 4, none⟩ u4).setCell ⟨r, 5, none⟩ u5).setCell ⟨r, 6, none⟩ u6).setCell ⟨r, 7, none⟩ u7).setCell ⟨r, 8, none⟩ u8).setCell ⟨r, 9, none⟩ u9).setCell ⟨r, 10, none⟩ u10
theorem kp_set11 (w : World) (r : Nat) (u0 u1 u2 u3 u4 u5 u6 u7 u8 u9 u10 : Value) : Kp (fun i => i = r) w (set11 w r u0 u1 u2 u3 u4 u5 u6 u7 u8 u9 u10) := by
  have k : ∀ {W : World} (i : Nat) (u : Value), Kp (fun i => i = r) w W → Kp (fun i => i = r) w (W.setCell ⟨r, i, none⟩ u) := fun i u h => h.set1 r i u rfl
  exact k 10 u10 (k 9 u9 (k 8 u8 (k 7 u7 (k 6 u6 (k 5 u5 (k 4 u4 (k 3 u3 (k 2 u2 (k 1 u1 (k 0 u0 (Kp.refl _ _)))))))))))
end Go.Proofs.YtdagikbdpeblhaaGreatDoor

/- Plain laws of trees: what each op keeps of the nodes; a parent whose numbered children come and go; a tree of one node. -/
namespace Go.Proofs.YtdagikbdpeblhaaGreatDoor
set_option maxRecDepth 100000
open Go.RowKit Av

theorem insN_mem {l : List Bs} {i : Nat} {x y : Bs} : y ∈ insN l i x ↔ y ∈ l ∨ y = x := by
  unfold insN
  conv => rhs; rw [← List.take_append_drop i l]
  simp only [List.mem_append, List.mem_cons]
  constructor
  · rintro (h | h | h)
    · exact .inl (.inl h)
    · exact .inr h
    · exact .inl (.inr h)
  · rintro ((h | h) | h)
    · exact .inl h
    · exact .inr (.inr h)
    · exact .inr (.inl h)
theorem insN_rising {t : List Bs} {s : Bs} (ht : Rising t) (h2 : ¬ t[lessN s t]? = some s) : Rising (insN t (lessN s t) s) := by
  have hl := lessN_take s t
  have hr : ∀ x ∈ t.drop (lessN s t), s < x := by
    by_cases hlt : lessN s t < t.length
    · have hg := lessN_get s t hlt
      have hne : t[lessN s t] ≠ s := fun e => h2 (by rw [List.getElem?_eq_getElem hlt, e])
      have h3 := lt_of_not hg hne
      have hd : t.drop (lessN s t) = t[lessN s t] :: t.drop (lessN s t + 1) := List.drop_eq_getElem_cons hlt
      have hp : Rising (t.drop (lessN s t)) := ht.sublist (List.drop_sublist _ _)
      rw [hd] at hp ⊢
      intro x hx
      rcases List.mem_cons.1 hx with e | e
      · rw [e]; exact h3
      · exact List.lt_trans h3 ((List.pairwise_cons.1 hp).1 x e)
    · rw [List.drop_of_length_le (by omega)]; simp
  have h1 : Rising (t.take (lessN s t)) := ht.sublist (List.take_sublist _ _)
  have h3 : Rising (t.drop (lessN s t)) := ht.sublist (List.drop_sublist _ _)
  refine List.pairwise_append.2 ⟨h1, List.pairwise_cons.2 ⟨hr, h3⟩, fun a ha b hb => ?_⟩
  rcases List.mem_cons.1 hb with e | e
  · rw [e]; exact hl a ha
  · exact List.lt_trans (hl a ha) (hr b e)
theorem delN_sub (t : List Bs) (i : Nat) : (delN t i).Sublist t := by
  unfold delN
  conv => rhs; rw [← List.take_append_drop i t]
  refine List.Sublist.append (List.Sublist.refl _) ?_
  rw [← List.drop_drop]
  exact List.drop_sublist _ _
abbrev minI : Int := -9223372036854775808
theorem moreI_ge {n : Int} (h : minI ≤ n) : minI ≤ moreI n := by
  unfold moreI
  split
  · exact h
  · unfold minI at *; omega
/-- At most K names. -/
structure NodeK (K : Nat) (n : NodeV) : Prop where
  rise : Rising n.names
  few : n.names.length ≤ K
  ver : minI ≤ n.ver
  kids : minI ≤ n.kids
  next : minI ≤ n.next
theorem NodeK.ok {K : Nat} {n : NodeV} (h : NodeK K n) (hK : K ≤ 100000) : NodeOk n := ⟨h.rise, Nat.le_trans h.few hK, h.ver, h.kids, h.next⟩
theorem NodeK.mono {K L : Nat} {n : NodeV} (h : NodeK K n) (hK : K ≤ L) : NodeK L n := ⟨h.rise, Nat.le_trans h.few hK, h.ver, h.kids, h.next⟩
theorem NodeK.new (K : Nat) (z o : Int) (d : ByteArray) : NodeK K (ndNew z o d) := ⟨List.Pairwise.nil, Nat.zero_le _, by simp [ndNew, minI], by simp [ndNew, minI], by simp [ndNew, minI]⟩
theorem NodeK.write {K : Nat} {n : NodeV} (h : NodeK K n) (z : Int) (d : ByteArray) : NodeK K (ndWrite n z d) := ⟨h.rise, h.few, moreI_ge h.ver, h.kids, h.next⟩
theorem NodeK.add {K : Nat} {n : NodeV} (h : NodeK K n) (x : Bs) : NodeK (K + 1) (ndAdd n x) := by
  unfold ndAdd
  split
  · exact h.mono (Nat.le_succ _)
  · rename_i hx
    exact ⟨insN_rising h.rise hx, by show (insN _ _ _).length ≤ _; rw [insN_len _ (lessN_le _ _)]; have := h.few; omega, h.ver, moreI_ge h.kids, moreI_ge h.next⟩
theorem NodeK.rem {K : Nat} {n : NodeV} (h : NodeK K n) (x : Bs) : NodeK K (ndRem n x) := by
  unfold ndRem
  split
  · exact ⟨h.rise.sublist (delN_sub _ _), Nat.le_trans (delN_sub _ _).length_le h.few, h.ver, moreI_ge h.kids, h.next⟩
  · exact h
def PtK (K : Nat) (t : Pt) : Prop := (t.map (·.1)).Nodup ∧ ∀ e ∈ t, NodeK K e.2
theorem PtK.nil : PtK 0 [] := ⟨List.nodup_nil, by simp⟩
theorem PtK.mono {K L : Nat} {t : Pt} (h : PtK K t) (hK : K ≤ L) : PtK L t := ⟨h.1, fun e he => (h.2 e he).mono hK⟩
theorem PtK.ok {K : Nat} {t : Tr} (h : PtK K (pl t)) (hK : K ≤ 100000) : TrOk t := fun e he => (h.2 (e.1, e.2.2) (List.mem_map.2 ⟨e, he, rfl⟩)).ok hK
theorem PtK.set {K : Nat} {t : Pt} (h : PtK K t) (p : ByteArray) {n : NodeV} (hn : NodeK K n) : PtK K (mset t p n) := ⟨mset_nodup h.1 _ _, fun e he => by
  rcases mem_mset h.1 he with rfl | ⟨he, _⟩
  · exact hn
  · exact h.2 e he⟩
theorem PtK.del {K : Nat} {t : Pt} (h : PtK K t) (p : ByteArray) : PtK K (mdel t p) := ⟨mdel_nodup h.1 _, fun e he => h.2 e (List.mem_filter.1 he).1⟩
theorem PtK.tell {K L : Nat} {t : Pt} (h : PtK K t) (hKL : K ≤ L) {f : NodeV → Bs → NodeV} (hf : ∀ n x, NodeK K n → NodeK L (f n x)) (p : ByteArray) : PtK L (tellP f t p) := by
  unfold tellP
  split
  · exact h.mono hKL
  · split
    · exact h.mono hKL
    · rename_i n hn
      exact (h.mono hKL).set _ (hf _ _ (h.2 _ (mget_mem hn)))
theorem PtK.create {K : Nat} {t : Pt} (h : PtK K t) (room : Int) (o : OpV) (sess z : Int) (only : Bool) : PtK (K + 1) (createP room t o sess z only).1 := by
  unfold createP
  simp only
  split
  · exact h.mono (Nat.le_succ _)
  · split
    · exact h.mono (Nat.le_succ _)
    · exact (h.set _ (NodeK.new K _ _ _)).tell (Nat.le_succ _) (fun n x hn => hn.add x) _
theorem PtK.change {K : Nat} {t : Pt} (h : PtK K t) (o : OpV) (z : Int) (only : Bool) : PtK K (changeP t o z only).1 := by
  unfold changeP
  split
  · exact h
  · rename_i n hn
    split
    · exact h
    · split
      · split
        · exact h
        · show PtK K (if _ then _ else _)
          split
          · exact h
          · exact (h.del _).tell (Nat.le_refl _) (fun n x hn => hn.rem x) _
      · split
        · show PtK K (if _ then _ else _)
          split
          · exact h
          · exact h.set _ ((h.2 _ (mget_mem hn)).write _ _)
        · exact h
theorem PtK.doP {K : Nat} {t : Pt} (h : PtK K t) (room : Int) (o : OpV) (sess z : Int) (only : Bool) : PtK (K + 1) (doP room t o sess z only).1 := by
  unfold Proofs.YtdagikbdpeblhaaGreatDoor.doP
  split
  · exact h.mono (Nat.le_succ _)
  · split
    · exact h.mono (Nat.le_succ _)
    · split
      · exact h.create _ _ _ _ _
      · split
        · exact (h.change _ _ _).mono (Nat.le_succ _)
        · exact h.mono (Nat.le_succ _)

theorem bs_eq (b : Bs) : (⟨b.toArray⟩ : ByteArray).data.toList = b := by simp
theorem bs_inj {a b : Bs} (h : (⟨a.toArray⟩ : ByteArray) = ⟨b.toArray⟩) : a = b := by
  have := congrArg (fun x : ByteArray => x.data.toList) h
  simpa using this
/-- A path that takes numbers, under a parent. -/
structure Chan (c up : Bs) : Prop where
  good : goodL c = true
  good0 : goodL (c ++ fw 10 0) = true
  par : parentL c = some up
def numP (c : Bs) (j : Nat) : ByteArray := ⟨(c ++ fw 10 j).toArray⟩
def numN (c : Bs) (j : Nat) : Bs := lastL c ++ fw 10 j
section
variable {c up : Bs} (H : Chan c up)
include H
theorem Chan.goodN (j : Nat) : goodL (c ++ fw 10 j) = true := number_good (fw_free 10 0) (fw_free 10 j) (fw_sign 10 0) (fw_sign 10 j) (by rw [fw_len, fw_len]) (by rw [fw_len]; decide) H.good H.good0
theorem Chan.number {j : Nat} (hj : j ≤ 2147483647) : numberL c j = some (c ++ fw 10 j) := by
  unfold numberL
  rw [if_pos, Int.toNat_natCast, padL_fw hj]
  rw [Int.toNat_natCast, padL_fw hj]
  simp only [Bool.and_eq_true, decide_eq_true_eq]
  exact ⟨⟨H.good, by omega, by omega⟩, H.goodN j⟩
theorem Chan.parN (j : Nat) : parentL (numP c j).data.toList = some up := by
  unfold numP
  rw [bs_eq, number_parent (fw_free 10 j) H.good (H.goodN j), H.par]
theorem Chan.lastN (j : Nat) : lastL (numP c j).data.toList = numN c j := by
  obtain ⟨i, x, h1, h2⟩ := number_parts (fw_free 10 j) H.good (H.goodN j)
  unfold numP numN lastL
  rw [bs_eq, h1, h2]
  simp
theorem Chan.notUp (j : Nat) : (numP c j) ≠ ⟨up.toArray⟩ := by
  intro h
  obtain ⟨_, _, h3⟩ := top_parent (numP c j).data.toList up (H.parN j)
  have h4 : (numP c j).data.toList = up := by rw [h]
  rw [h4] at h3
  omega
end
theorem pow10 {j : Nat} (h : j ≤ 2147483647) : j < 10 ^ 10 := by omega
theorem numP_inj {c : Bs} {a b : Nat} (ha : a ≤ 2147483647) (hb : b ≤ 2147483647) (h : numP c a = numP c b) : a = b :=
  (fw_inj 10 a b (pow10 ha) (pow10 hb)).1 (List.append_cancel_left (bs_inj h))
theorem numN_lt {c : Bs} {a b : Nat} (ha : a ≤ 2147483647) (hb : b ≤ 2147483647) : numN c a < numN c b ↔ a < b :=
  (lex_app _ _ _).trans (fw_lt 10 a b (pow10 ha) (pow10 hb))
/-- A child, new: nobody's, no data, no children. -/
def isNew (v : NodeV) : Prop := v.ver = 0 ∧ v.names = [] ∧ v.own = 0
/-- The tree: the parent, and children of these numbers. -/
structure SeqSt (c up : Bs) (t : Pt) (i : Nat) (D : List Nat) (n : NodeV) : Prop where
  keys : (t.map (·.1)).Nodup
  root : mget t ⟨up.toArray⟩ = some n
  own : n.own = 0
  next : n.next = i
  few : i ≤ 1000
  names : n.names = D.map (numN c)
  rise : D.Pairwise (· < ·)
  less : ∀ j ∈ D, j < i
  kid : ∀ j ∈ D, ∃ v, mget t (numP c j) = some v ∧ isNew v
  none : ∀ j, j ∉ D → j ≤ 2147483647 → mget t (numP c j) = none
  size : t.length ≤ 1 + i
theorem moreI_nat {k : Nat} (h : k ≤ 1000) : moreI (k : Int) = ((k + 1 : Nat) : Int) := by
  unfold moreI
  rw [if_neg (by omega)]
  omega
theorem SeqSt.rising {c up : Bs} {t : Pt} {i : Nat} {D : List Nat} {n : NodeV} (h : SeqSt c up t i D n) : Rising n.names := by
  rw [h.names]
  refine List.pairwise_map.2 (h.rise.imp_of_mem fun ha hb hab => ?_)
  have h1 := h.less _ ha
  have h2 := h.less _ hb
  have := h.few
  exact (numN_lt (by omega) (by omega)).2 hab
/-- Where a created child is laid. -/
theorem SeqSt.place {c up : Bs} (H : Chan c up) {t : Pt} {i : Nat} {D : List Nat} {n : NodeV} (h : SeqSt c up t i D n) {room : Int} (hr : (t.length : Int) < room) : placeP room t ⟨c.toArray⟩ 2 = (numP c i, 0) := by
  have h3 : i ≤ 2147483647 := by have := h.few; omega
  unfold placeP
  rw [bs_eq, H.par]
  simp only [h.root]
  rw [if_neg (by simp [h.own]), if_pos (by decide), h.next, H.number h3]
  show finQ room t (numP c i) = _
  unfold finQ
  rw [h.none i (fun hm => by have := h.less i hm; omega) h3, if_neg (by simp), if_neg (by omega)]
theorem SeqSt.create {c up : Bs} (H : Chan c up) {t : Pt} {i : Nat} {D : List Nat} {n : NodeV} (h : SeqSt c up t i D n) {room : Int} (hr : (t.length : Int) < room) (hi : i < 1000) (z sess : Int) :
    ∃ t' x, createP room t ⟨1, ⟨c.toArray⟩, ⟨#[]⟩, 0, 2⟩ sess z false = (t', ⟨0, numP c i, ⟨#[]⟩, [], x⟩) ∧ SeqSt c up t' (i + 1) (D ++ [i]) { n with names := n.names ++ [numN c i], cnt := (n.names.length + 1 : Nat), kids := moreI n.kids, next := moreI n.next } ∧ t'.length ≤ t.length + 1 := by
  have hD : i ∉ D := fun hm => by have := h.less i hm; omega
  have hadd : ndAdd n (numN c i) = { n with names := n.names ++ [numN c i], cnt := (n.names.length + 1 : Nat), kids := moreI n.kids, next := moreI n.next } := by
    have hall : ∀ x ∈ n.names, x < numN c i := by
      rw [h.names]
      intro x hx
      obtain ⟨j, hj, rfl⟩ := List.mem_map.1 hx
      have := h.less j hj
      have := h.few
      exact (numN_lt (by omega) (by omega)).2 (by omega)
    unfold ndAdd
    rw [lessN_all _ _ hall, if_neg (by simp)]
    unfold insN
    simp
  refine ⟨tellP ndAdd (mset t (numP c i) (ndNew z (ownF 2 sess) ⟨#[]⟩)) (numP c i), ndNew z (ownF 2 sess) ⟨#[]⟩, ?_, ?_, ?_⟩
  · unfold createP
    simp only [h.place H hr]
    rfl
  · unfold tellP
    rw [H.parN]
    simp only [mget_mset]
    rw [if_neg (H.notUp i).symm, h.root]
    simp only [H.lastN, hadd]
    refine ⟨mset_nodup (mset_nodup h.keys _ _) _ _, by rw [mget_mset, if_pos rfl], h.own, ?_, by have := h.few; omega, ?_, ?_, ?_, ?_, ?_, ?_⟩
    · show moreI n.next = _
      rw [h.next, moreI_nat h.few]
    · show n.names ++ [numN c i] = _
      rw [h.names, List.map_append]; rfl
    · exact List.pairwise_append.2 ⟨h.rise, List.pairwise_singleton _ _, fun a ha b hb => by simp at hb; subst hb; exact h.less a ha⟩
    · intro j hj
      rcases List.mem_append.1 hj with hj | hj
      · have := h.less j hj; omega
      · simp at hj; omega
    · intro j hj
      rw [mget_mset, if_neg (H.notUp j), mget_mset]
      by_cases hji : j = i
      · subst hji
        exact ⟨ndNew z (ownF 2 sess) ⟨#[]⟩, if_pos rfl, rfl, rfl, rfl⟩
      · rcases List.mem_append.1 hj with hj | hj
        · rw [if_neg (fun e => hji (numP_inj (by have := h.less j hj; have := h.few; omega) (by have := h.few; omega) e))]
          exact h.kid j hj
        · simp at hj; exact absurd hj hji
    · intro j hj hj2
      rw [List.mem_append, not_or] at hj
      have hne : j ≠ i := fun e => hj.2 (by simp [e])
      rw [mget_mset, if_neg (H.notUp j), mget_mset, if_neg (fun e => hne (numP_inj hj2 (by have := h.few; omega) e))]
      exact h.none j hj.1 hj2
    · rw [mset_length, mget_mset, if_neg (H.notUp i).symm, h.root, mset_length]
      have := h.size
      simp only [Option.isSome_some, if_true]
      split <;> omega
  · unfold tellP
    rw [H.parN]
    simp only [mget_mset]
    rw [if_neg (H.notUp i).symm, h.root]
    simp only
    rw [mset_length, mget_mset, if_neg (H.notUp i).symm, h.root, mset_length]
    simp only [Option.isSome_some, if_true]
    split <;> omega
theorem lessN_mid {s : Bs} {A B : List Bs} (h : ∀ x ∈ A, x < s) : lessN s (A ++ s :: B) = A.length := by
  refine lessN_at s _ A.length (by simp) (fun x hx => h x ?_) ?_
  · rwa [List.take_left] at hx
  · rw [List.getElem_append_right (Nat.le_refl _)]
    simp only [Nat.sub_self, List.getElem_cons_zero]
    exact List.lt_irrefl s
/-- A child goes. -/
theorem SeqSt.delete {c up : Bs} (H : Chan c up) {t : Pt} {i : Nat} {A B : List Nat} {j : Nat} {n : NodeV} (h : SeqSt c up t i (A ++ j :: B) n) {ver : Int} (hv : ver = 0 ∨ ver = -1) (z : Int) :
    ∃ t', changeP t ⟨2, numP c j, ⟨#[]⟩, ver, 0⟩ z false = (t', ⟨0, numP c j, ⟨#[]⟩, [], ndZ⟩) ∧ SeqSt c up t' i (A ++ B) { n with names := A.map (numN c) ++ B.map (numN c), cnt := ((A ++ j :: B).length - 1 : Nat), kids := moreI n.kids } ∧ t'.length ≤ t.length := by
  have hjm : j ∈ A ++ j :: B := by simp
  obtain ⟨v, hv1, hv2, hv3, hv4⟩ := h.kid j hjm
  have hfew := h.few
  have hrise := List.pairwise_append.1 h.rise
  have hAj : ∀ a ∈ A, a < j := fun a ha => hrise.2.2 a ha j (by simp)
  have hjB : ∀ b ∈ B, j < b := (List.pairwise_cons.1 hrise.2.1).1
  have hless := h.less j hjm
  have hnames : n.names = A.map (numN c) ++ numN c j :: B.map (numN c) := by rw [h.names]; simp
  have hrem : ndRem n (numN c j) = { n with names := A.map (numN c) ++ B.map (numN c), cnt := ((A ++ j :: B).length - 1 : Nat), kids := moreI n.kids } := by
    have hl : lessN (numN c j) n.names = A.length := by
      rw [hnames, lessN_mid, List.length_map]
      intro x hx
      obtain ⟨a, ha, rfl⟩ := List.mem_map.1 hx
      have := hAj a ha
      exact (numN_lt (by omega) (by omega)).2 this
    have hg : n.names[A.length]? = some (numN c j) := by
      rw [hnames, List.getElem?_append_right (by simp)]
      simp
    unfold ndRem
    rw [hl, if_pos hg]
    have hd : delN n.names A.length = A.map (numN c) ++ B.map (numN c) := by
      unfold delN
      rw [hnames]
      have e1 : A.length = (A.map (numN c)).length := by simp
      rw [e1, List.take_left, List.drop_append]
      simp
    rw [hd]
    congr 1
    rw [hnames]; simp
  refine ⟨tellP ndRem (mdel t (numP c j)) (numP c j), ?_, ?_, ?_⟩
  · have hw : ¬ wrongB ⟨2, numP c j, ⟨#[]⟩, ver, 0⟩ v = true := by
      unfold wrongB
      rcases hv with rfl | rfl
      · simp [hv2]
      · simp
    unfold changeP
    simp only [hv1]
    rw [if_neg hw]
    simp [hv3]
  · unfold tellP
    rw [H.parN]
    simp only [mget_mdel]
    rw [if_neg (H.notUp j).symm, h.root]
    simp only [H.lastN, hrem]
    have hsub : ∀ x ∈ A ++ B, x ∈ A ++ j :: B := fun x hx => by
      rcases List.mem_append.1 hx with hx | hx
      · simp [hx]
      · simp [hx]
    have hne : ∀ x ∈ A ++ B, x ≠ j := fun x hx => by
      rcases List.mem_append.1 hx with hx | hx
      · have := hAj x hx; omega
      · have := hjB x hx; omega
    refine ⟨mset_nodup (mdel_nodup h.keys _) _ _, by rw [mget_mset, if_pos rfl], h.own, h.next, h.few, ?_, ?_, fun x hx => h.less x (hsub x hx), ?_, ?_, ?_⟩
    · show A.map (numN c) ++ B.map (numN c) = _
      simp
    · exact List.pairwise_append.2 ⟨hrise.1, (List.pairwise_cons.1 hrise.2.1).2, fun a ha b hb => hrise.2.2 a ha b (by simp [hb])⟩
    · intro x hx
      have hx1 := h.less x (hsub x hx)
      rw [mget_mset, if_neg (H.notUp x), mget_mdel, if_neg (fun e => hne x hx (numP_inj (by omega) (by omega) e))]
      exact h.kid x (hsub x hx)
    · intro x hx hx2
      rw [mget_mset, if_neg (H.notUp x), mget_mdel]
      by_cases hxj : x = j
      · rw [if_pos (by rw [hxj])]
      · rw [if_neg (fun e => hxj (numP_inj hx2 (by omega) e))]
        refine h.none x (fun hm => hx ?_) hx2
        rcases List.mem_append.1 hm with hm | hm
        · simp [hm]
        · rcases List.mem_cons.1 hm with hm | hm
          · exact absurd hm hxj
          · simp [hm]
    · have h1 : (mdel t (numP c j)).length ≤ t.length := List.length_filter_le _ _
      have := h.size
      rw [mset_length, mget_mdel, if_neg (H.notUp j).symm, h.root]
      simp only [Option.isSome_some, if_true]
      omega
  · unfold tellP
    rw [H.parN]
    simp only [mget_mdel]
    rw [if_neg (H.notUp j).symm, h.root]
    simp only
    have h1 : (mdel t (numP c j)).length ≤ t.length := List.length_filter_le _ _
    rw [mset_length, mget_mdel, if_neg (H.notUp j).symm, h.root]
    simp only [Option.isSome_some, if_true]
    omega

/-! A tree of one node. -/
end Go.Proofs.YtdagikbdpeblhaaGreatDoor
