/- Texts put together: AvWTreeL, AvAllN. -/
import Derived.Test.YtjapjpigpakejaaGreatDoorAvHWTreeC
import Derived.Test.YtjapjpigpakejaaGreatDoorAvHSound

/- Walks of package tree: named. -/
namespace Go.Proofs.YtjapjpigpakejaaGreatDoor
set_option maxRecDepth 100000
open Go.RowKit Av

/-- A name at its place. -/
def okAt (l : List Bs) (j : Nat) : Prop := ∃ h : j < l.length, topL (47 :: l[j]) = l[j] ∧ l[j] ≠ [] ∧ ∀ _ : 0 < j, l[j - 1] < l[j]
def NamedLoop (w : World) (l : List Bs) (s7 : Value) (wr : World) : Prop := ∃ k : Nat, k ≤ l.length ∧ s7 = .int .i64 k ∧ (∀ j, j < k → okAt l j) ∧ Ext w wr
def Named (l : List Bs) : Prop := (∀ j, j < l.length → okAt l j) ∧ l.length ≤ 500
def NamedPost (w : World) (l : List Bs) (e : Ending) (w' : World) : Prop := ∃ r : Bool, e = .returned (.bool r) ∧ (r = true ↔ Named l) ∧ Ext w w'
set_option maxHeartbeats 3200000 in
theorem named_any (v : Value) (l : List Bs) (w : World) (hG : GL w) (h : NmS w v l) (hl : l.length ≤ 1000000) (hs : ∀ s ∈ l, s.length ≤ 1000000) :
    Calls Tryz.prog 54 #[v] w fun e w' => NamedPost w l e w' := by
  obtain ⟨a, c, rfl, _, hm, _, hop⟩ := Sl.open h.1
  have hop' : 0 < l.length → ∃ g off, a = some ⟨g, off, none⟩ ∧ ∀ k (hk : k < l.length), w.cell? ⟨g, off + k, none⟩ = some (encStr l[k]) := fun h0 => by
    obtain ⟨g, off, e2, _, hc⟩ := hop h0
    exact ⟨g, off, e2, fun k hk => hc k _ (by rw [List.getElem?_map, List.getElem?_eq_getElem hk]; rfl)⟩
  have HOP := Lib.hid hop'
  have HG := Lib.hid hG
  have HS := Lib.hid hs
  clear hop hop' hG hs h
  go_enter Tryz.func54, Tryz.ntmps54
  go_wp2_with (fail)
  go_loopw [7] (fun s7 wr => NamedLoop w l s7 wr) (fun s7 _ => l.length - (intOf s7).toNat)
  case atStart => exact ⟨0, Nat.zero_le _, rfl, fun j hj => by omega, Kp.refl _ _⟩
  case round =>
    obtain ⟨k, hk, rfl, hok, hxr⟩ := hrel
    have HOK := Lib.hid hok
    have HX := Lib.hid hxr
    clear hok hxr
    by_cases hlt : k < l.length
    · obtain ⟨g, off, rfl, hcl⟩ := HOP.out (by omega)
      have hc := HX.out.cell (hcl k hlt) (fun f => f)
      have hsk := HS.out _ (List.getElem_mem hlt)
      have HOKK : Hid (okAt l k ↔ topL (47 :: l[k]) = l[k] ∧ l[k] ≠ [] ∧ ∀ _ : 0 < k, l[k - 1] < l[k]) := ⟨fun ⟨_, h⟩ => h, fun h => ⟨hlt, h⟩⟩
      have hprev : Hid (0 < k → wr.cell? ⟨g, off + (k - 1), none⟩ = some (encStr (l[k - 1]'(by omega)))) := fun _ => HX.out.cell (hcl (k - 1) (by omega)) (fun f => f)
      obtain ⟨s, hs⟩ : ∃ s, l[k] = s := ⟨_, rfl⟩
      rw [hs] at hc hsk HOKK
      obtain ⟨p, hp⟩ : ∃ p : ByteArray, ⟨s.toArray⟩ = p := ⟨_, rfl⟩
      have hpl : p.toList = s := by rw [← hp, Lib.toList_data]
      have hps : p.size = s.length := by rw [← hp, Lib.size_eq]
      have hadd : ∀ wx, (Op.stringOp .add ⟨#[47]⟩ p).run Tryz.prog wx = .ok (.string ⟨(47 :: s).toArray⟩) wx := fun wx => by
        rw [run_string_add_sum (P := Tryz.prog) wx _ _ (by have : (⟨#[47]⟩ : ByteArray).size = 1 := rfl; omega)]
        conv => lhs; rw [← bytes_self p]
        rw [show (⟨#[47]⟩ : ByteArray) = ⟨[47].toArray⟩ from rfl, bytes_append, ← hp]
        simp
      unfold encStr at hc
      rw [hp] at hc
      have HTOP := Lib.hid (pathTop_any ⟨(47 :: s).toArray⟩ wr (HG.out.ext HX.out) (by rw [Lib.size_eq]; unfold maxLen; simp; omega))
      have htl : (⟨(47 :: s).toArray⟩ : ByteArray).data.toList = 47 :: s := by simp
      rw [htl] at HTOP
      obtain ⟨q, hq⟩ : ∃ q : ByteArray, ⟨(topL (47 :: s)).toArray⟩ = q := ⟨_, rfl⟩
      have hql : q.toList = topL (47 :: s) := by rw [← hq, Lib.toList_data]
      rw [hq] at HTOP
      have HPQ := Lib.hid (And.intro hpl hql)
      clear hq hp hpl hql htl hps hcl
      go_wp2_with (fail)
      refine HTOP.out.mono ?_
      rintro e w2 ⟨rfl, hx2⟩
      have HX2 := Lib.hid (HX.out.trans hx2)
      have HNO : Hid (¬ (topL (47 :: s) = s ∧ s ≠ [] ∧ ∀ _ : 0 < k, l[k - 1] < s) → ¬ Named l) := fun h hn => h (HOKK.out.1 (hn.1 k hlt))
      by_cases h1 : topL (47 :: s) = s
      · have e1 : (q.toList == p.toList) = true := by rw [HPQ.out.1, HPQ.out.2, h1]; simp
        by_cases h2 : s = []
        · have e2 : (p.toList == []) = true := by rw [HPQ.out.1, h2]; rfl
          clear hx2
          go_wp2_with (fail)
          go_ret
          exact ⟨false, rfl, ⟨fun h => (by cases h), fun h => absurd h (HNO.out (fun h => h.2.1 h2))⟩, HX2.out⟩
        · have e2 : (p.toList == []) = false := by rw [HPQ.out.1]; simpa using h2
          by_cases k0 : k = 0
          · subst k0
            clear hx2
            go_wp2_with (fail)
            go_light
            exact ⟨⟨1, by omega, by go_num, fun j hj => by obtain rfl : j = 0 := by omega
                                                           exact HOKK.out.2 ⟨h1, h2, fun h => absurd h (by omega)⟩, HX2.out⟩, by simp [intOf]; omega⟩
          · have hk0 : (0 : Int) < (k : Int) := by omega
            have hpc := (hprev.out (by omega))
            have hpc := Kp.cell hx2 hpc (fun f => f)
            have hkk : ((k : Int) - 1) = ((k - 1 : Nat) : Int) := by omega
            obtain ⟨y, hy⟩ : ∃ y, l[k - 1] = y := ⟨_, rfl⟩
            rw [hy] at hpc
            have HY := Lib.hid hy
            obtain ⟨z, hz⟩ : ∃ z : ByteArray, ⟨y.toArray⟩ = z := ⟨_, rfl⟩
            have hzl : z.toList = y := by rw [← hz, Lib.toList_data]
            unfold encStr at hpc
            rw [hz] at hpc
            by_cases h3 : y < s
            · have l1 : Op.bytesLess z.toList p.toList = true := by rw [HPQ.out.1, hzl, lessB, decide_eq_true_eq]; exact h3
              clear hx2 hy hz hzl
              go_wp2_with (fail)
              go_light
              exact ⟨⟨k + 1, by omega, by go_num, fun j hj => by
                by_cases hjk : j = k
                · subst hjk
                  exact HOKK.out.2 ⟨h1, h2, fun _ => by rw [HY.out]; exact h3⟩
                · exact HOK.out j (by omega), HX2.out⟩, by simp [intOf]; omega⟩
            · have l1 : Op.bytesLess z.toList p.toList = false := by rw [HPQ.out.1, hzl, lessB, decide_eq_false_iff_not]; exact h3
              clear hx2 hy hz hzl
              go_wp2_with (fail)
              go_ret
              exact ⟨false, rfl, ⟨fun h => (by cases h), fun h => absurd h (HNO.out (fun h => h3 (by have := h.2.2 (by omega); rw [HY.out] at this; exact this)))⟩, HX2.out⟩
      · have e1 : (q.toList == p.toList) = false := by rw [HPQ.out.1, HPQ.out.2]; simpa using h1
        clear hx2
        go_wp2_with (fail)
        go_ret
        exact ⟨false, rfl, ⟨fun h => (by cases h), fun h => absurd h (HNO.out (fun h => h1 h.1))⟩, HX2.out⟩
    · have hk2 : k = l.length := by omega
      subst hk2
      by_cases h5 : l.length ≤ 500
      · have h5' : (l.length : Int) ≤ 500 := by omega
        go_wp2_with (fail)
        go_ret
        exact ⟨true, ret_bool (by simp; try omega), ⟨fun _ => ⟨HOK.out, h5⟩, fun _ => rfl⟩, HX.out⟩
      · have h5' : ¬ (l.length : Int) ≤ 500 := by omega
        go_wp2_with (fail)
        go_ret
        exact ⟨false, ret_bool (by simp; try omega), ⟨fun h => (by cases h), fun h => absurd h.2 h5⟩, HX.out⟩
end Go.Proofs.YtjapjpigpakejaaGreatDoor

/- Plain laws: what every node of a tree is, whatever is done; whose nodes they are. -/
namespace Go.Proofs.YtjapjpigpakejaaGreatDoor
set_option maxRecDepth 100000
open Go.RowKit Av

def AllN (Pr : NodeV → Prop) (t : Pt) : Prop := ∀ p n, mget t p = some n → Pr n
theorem AllN.nil (Pr : NodeV → Prop) : AllN Pr [] := fun p n h => by cases h
theorem AllN.set {Pr : NodeV → Prop} {t : Pt} (h : AllN Pr t) (p : ByteArray) {n : NodeV} (hn : Pr n) : AllN Pr (mset t p n) := fun q m hm => by
  rw [mget_mset] at hm
  split at hm
  · simp only [Option.some.injEq] at hm
    subst hm
    exact hn
  · exact h q m hm
theorem AllN.del {Pr : NodeV → Prop} {t : Pt} (h : AllN Pr t) (p : ByteArray) : AllN Pr (mdel t p) := fun q m hm => by
  rw [mget_mdel] at hm
  split at hm
  · cases hm
  · exact h q m hm
theorem AllN.tell {Pr : NodeV → Prop} {t : Pt} (h : AllN Pr t) {f : NodeV → Bs → NodeV} {p : ByteArray} (hf : ∀ n, parentL p.data.toList ≠ none → Pr n → Pr (f n (lastL p.data.toList))) : AllN Pr (tellP f t p) := by
  unfold tellP
  split
  · exact h
  · rename_i up hu
    split
    · exact h
    · rename_i n hn
      exact h.set _ (hf n (by rw [hu]; simp) (h _ n hn))
theorem AllN.mono {P Q : NodeV → Prop} {t : Pt} (h : AllN P t) (hpq : ∀ n, P n → Q n) : AllN Q t := fun p n hp => hpq n (h p n hp)
/-- What an act keeps of a node's truth. -/
structure NodeInv (Pr : NodeV → Prop) (o : OpV) (sess z : Int) : Prop where
  new : goodO o = 0 → 1 ≤ sess → Pr (ndNew z (ownF o.flags sess) o.data)
  add : ∀ n (q : Bs), goodL q = true → parentL q ≠ none → Pr n → Pr (ndAdd n (lastL q))
  rem : ∀ n x, Pr n → Pr (ndRem n x)
  write : ∀ n, goodO o = 0 → Pr n → Pr (ndWrite n z o.data)
theorem goodO_path {o : OpV} (h : goodO o = 0) : goodL o.path.data.toList = true := by
  unfold goodO at h
  split at h
  · rename_i hf
    unfold formedB at hf
    simp only [Bool.and_eq_true] at hf
    simp [hf]
  · simp at h
theorem par_good {q : Bs} (h : parentL q ≠ none) : goodL q = true := by
  refine (good_iff_parts q).2 fun e => h ?_
  unfold parentL
  rw [e]; rfl
theorem AllN.doP {Pr : NodeV → Prop} {t : Pt} (h : AllN Pr t) {o : OpV} {sess z : Int} (hi : NodeInv Pr o sess z) (room : Int) (only : Bool) : AllN Pr (doP room t o sess z only).1 := by
  unfold Proofs.YtjapjpigpakejaaGreatDoor.doP
  split
  · exact h
  · rename_i hg
    have hg0 : goodO o = 0 := by simpa using hg
    split
    · exact h
    · rename_i hs
      split
      · unfold createP
        simp only
        split
        · exact h
        · split
          · exact h
          · exact (h.set _ (hi.new hg0 (by omega))).tell (fun n hp hn => hi.add n _ (par_good hp) hp hn)
      · split
        · unfold changeP
          split
          · exact h
          · rename_i n hn
            split
            · exact h
            · split
              · split
                · exact h
                · show AllN Pr (if _ then _ else _)
                  split
                  · exact h
                  · exact (h.del _).tell (fun n _ hn => hi.rem n _ hn)
              · split
                · show AllN Pr (if _ then _ else _)
                  split
                  · exact h
                  · exact h.set _ (hi.write n hg0 (h _ n hn))
                · exact h
        · exact h
/-! Whose nodes they are. -/
def OwnedBy (S : List Int) (n : NodeV) : Prop := n.own = 0 ∨ (1 ≤ n.own ∧ n.own ∈ S)
theorem ownedBy_inv {S : List Int} (o : OpV) {sess : Int} (z : Int) (hs : 1 ≤ sess → sess ∈ S) : NodeInv (OwnedBy S) o sess z := by
  refine ⟨fun _ h1 => ?_, fun n q _ _ h => ?_, fun n x h => ?_, fun n _ h => h⟩
  · show ownF o.flags sess = 0 ∨ (1 ≤ ownF o.flags sess ∧ ownF o.flags sess ∈ S)
    unfold ownF
    split
    · exact .inr ⟨h1, hs h1⟩
    · exact .inl rfl
  · unfold OwnedBy
    rw [add_own]
    exact h
  · unfold OwnedBy
    rw [rem_own]
    exact h
/-! What a node's own parts say of each other. -/
def nameOk (x : Bs) : Prop := nameL x = true ∧ (47 : UInt8) ∉ x
def PartsOk (n : NodeV) : Prop := n.len = n.data.size ∧ n.cnt = n.names.length ∧ n.data.size ≤ 1000 ∧ ∀ x ∈ n.names, nameOk x
theorem goodO_data {o : OpV} (h : goodO o = 0) : o.data.size ≤ 1000 := by
  unfold goodO at h
  split at h
  · split at h
    · simp at h
    · omega
  · simp at h
theorem last_name {q : Bs} (h : goodL q = true) : nameOk (lastL q) := by
  have hne := (good_iff_parts q).1 h
  have e : lastL q = (partsL q).getLast hne := by
    unfold lastL
    rw [List.getLastD_eq_getLast?, List.getLast?_eq_some_getLast hne]; rfl
  rw [e]
  exact parts_name q _ (List.getLast_mem hne)
theorem partsOk_inv (o : OpV) (sess z : Int) : NodeInv PartsOk o sess z := by
  refine ⟨fun h _ => ⟨rfl, rfl, goodO_data h, by simp [ndNew]⟩, fun n q hq _ h => ?_, fun n x h => ?_, fun n hg h => ⟨rfl, h.2.1, goodO_data hg, h.2.2.2⟩⟩
  · refine ⟨?_, add_cnt h.2.1 _, ?_, fun x hx => ?_⟩
    · unfold ndAdd; split <;> exact h.1
    · unfold ndAdd; split <;> exact h.2.2.1
    · rcases add_mem.1 hx with hx | rfl
      · exact h.2.2.2 x hx
      · exact last_name hq
  · refine ⟨?_, rem_cnt h.2.1 _, ?_, fun y hy => ?_⟩
    · unfold ndRem; split <;> exact h.1
    · unfold ndRem; split <;> exact h.2.2.1
    · refine h.2.2.2 y ?_
      unfold ndRem at hy
      split at hy
      · exact (delN_sub _ _).subset hy
      · exact hy
theorem name_top {x : Bs} (h : nameOk x) : goodL (47 :: x) = true ∧ topL (47 :: x) = x ∧ x ≠ [] := by
  obtain ⟨h1, h2⟩ := h
  have hc := cut_plain h2
  have hl : 1 ≤ x.length ∧ x.length ≤ 40 := by
    have h3 := h1
    unfold nameL at h3
    simp only [Bool.and_eq_true, decide_eq_true_eq] at h3
    exact ⟨h3.1.1.1.2, h3.1.1.2⟩
  have hg : goodL (47 :: x) = true := by
    show ((47 : UInt8) == 47 && decide ((47 :: x).length ≤ 200) && (cut x).all nameL && decide ((cut x).length ≤ 8)) = true
    rw [hc]
    simp [h1]
    omega
  refine ⟨hg, ?_, fun e => by rw [e] at hl; simp at hl⟩
  unfold topL partsL
  rw [hg]
  simp [hc]
theorem top_name {x : Bs} (h : topL (47 :: x) = x) (h0 : x ≠ []) : nameOk x := by
  have : x ∈ partsL (47 :: x) := by
    unfold topL at h
    cases hp : partsL (47 :: x) with
    | nil => rw [hp] at h; exact absurd h.symm h0
    | cons a r =>
      rw [hp] at h
      simp only [List.headD_cons] at h
      subst h
      simp
  exact parts_name _ _ this
theorem named_of {l : List Bs} (h : ∀ x ∈ l, nameOk x) (hr : Rising l) (hl : l.length ≤ 500) : Named l := by
  refine ⟨fun j hj => ⟨hj, ?_⟩, hl⟩
  obtain ⟨_, h2, h3⟩ := name_top (h l[j] (List.getElem_mem hj))
  exact ⟨h2, h3, fun h0 => List.pairwise_iff_getElem.1 hr (j - 1) j (by omega) hj (by omega)⟩
theorem name_len {x : Bs} (h : nameOk x) : x.length ≤ 40 := by
  have h3 := h.1
  unfold nameL at h3
  simp only [Bool.and_eq_true, decide_eq_true_eq] at h3
  exact h3.1.1.2
/-! How many a list of sessions owns. -/
theorem count_app {f : Bs → Int} {D : List Int} {s : Int} (hs : s ∉ D) (L : List Bs) : (L.filter fun x => decide (f x ∈ D ++ [s])).length = (L.filter fun x => decide (f x ∈ D)).length + (L.filter fun x => decide (f x = s)).length := by
  induction L with
  | nil => rfl
  | cons a r ih =>
    simp only [List.filter_cons, List.mem_append, List.mem_singleton] at ih ⊢
    by_cases h1 : f a ∈ D
    · have h2 : ¬ f a = s := fun e => hs (e ▸ h1)
      simp only [h1, h2, true_or, decide_true, decide_false, if_true, Bool.false_eq_true, if_false, List.length_cons]
      omega
    · by_cases h2 : f a = s
      · have h3 : f a ∈ D ∨ f a = s := .inr h2
        rw [if_pos (decide_eq_true h3), if_neg (by simp [h1]), if_pos (decide_eq_true h2), List.length_cons, List.length_cons]
        omega
      · simp only [h1, h2, or_false, decide_false, Bool.false_eq_true, if_false]
        exact ih
def ownI (t : Pt) (x : Bs) : Int := match mget t ⟨x.toArray⟩ with
  | none => 0
  | some n => n.own
theorem ownI_some {t : Pt} {x : Bs} {n : NodeV} (h : mget t ⟨x.toArray⟩ = some n) : ownI t x = n.own := by
  unfold ownI
  rw [h]
theorem owned_all {t : Pt} {S : List Int} (h : AllN (OwnedBy S) t) (x : Bs) : ownI t x = 0 ∨ (1 ≤ ownI t x ∧ ownI t x ∈ S) := by
  unfold ownI
  cases hg : mget t ⟨x.toArray⟩ with
  | none => exact .inl rfl
  | some n => exact h _ n hg
end Go.Proofs.YtjapjpigpakejaaGreatDoor
