/- Plain laws of trees: what each op keeps of the nodes; a parent whose numbered children come and go; a tree of one node. -/
import Derived.Test.YtjapjpigpakejaaGreatDoorAvHTreeP
import Derived.Test.YtjapjpigpakejaaGreatDoorAvG4
namespace Go.Proofs.YtjapjpigpakejaaGreatDoor
set_option maxRecDepth 100000
open Go.RowKit Av

theorem insN_mem {l : List Bs} {i : Nat} {x y : Bs} : y ∈ insN l i x ↔ y ∈ l ∨ y = x := by
  unfold insN
  conv => rhs; rw [← List.take_append_drop i l]
  simp only [List.mem_append, List.mem_cons]
  constructor
  · rintro (h | h | h)
    · exact .inl (.inl h)
    · exact .inr h
    · exact .inl (.inr h)
  · rintro ((h | h) | h)
    · exact .inl h
    · exact .inr (.inr h)
    · exact .inr (.inl h)
theorem insN_rising {t : List Bs} {s : Bs} (ht : Rising t) (h2 : ¬ t[lessN s t]? = some s) : Rising (insN t (lessN s t) s) := by
  have hl := lessN_take s t
  have hr : ∀ x ∈ t.drop (lessN s t), s < x := by
    by_cases hlt : lessN s t < t.length
    · have hg := lessN_get s t hlt
      have hne : t[lessN s t] ≠ s := fun e => h2 (by rw [List.getElem?_eq_getElem hlt, e])
      have h3 := lt_of_not hg hne
      have hd : t.drop (lessN s t) = t[lessN s t] :: t.drop (lessN s t + 1) := List.drop_eq_getElem_cons hlt
      have hp : Rising (t.drop (lessN s t)) := ht.sublist (List.drop_sublist _ _)
      rw [hd] at hp ⊢
      intro x hx
      rcases List.mem_cons.1 hx with e | e
      · rw [e]; exact h3
      · exact List.lt_trans h3 ((List.pairwise_cons.1 hp).1 x e)
    · rw [List.drop_of_length_le (by omega)]; simp
  have h1 : Rising (t.take (lessN s t)) := ht.sublist (List.take_sublist _ _)
  have h3 : Rising (t.drop (lessN s t)) := ht.sublist (List.drop_sublist _ _)
  refine List.pairwise_append.2 ⟨h1, List.pairwise_cons.2 ⟨hr, h3⟩, fun a ha b hb => ?_⟩
  rcases List.mem_cons.1 hb with e | e
  · rw [e]; exact hl a ha
  · exact List.lt_trans (hl a ha) (hr b e)
theorem delN_sub (t : List Bs) (i : Nat) : (delN t i).Sublist t := by
  unfold delN
  conv => rhs; rw [← List.take_append_drop i t]
  refine List.Sublist.append (List.Sublist.refl _) ?_
  rw [← List.drop_drop]
  exact List.drop_sublist _ _
abbrev minI : Int := -9223372036854775808
theorem moreI_ge {n : Int} (h : minI ≤ n) : minI ≤ moreI n := by
  unfold moreI
  split
  · exact h
  · unfold minI at *; omega
/-- At most K names. -/
structure NodeK (K : Nat) (n : NodeV) : Prop where
  rise : Rising n.names
  few : n.names.length ≤ K
  ver : minI ≤ n.ver
  kids : minI ≤ n.kids
  next : minI ≤ n.next
theorem NodeK.ok {K : Nat} {n : NodeV} (h : NodeK K n) (hK : K ≤ 100000) : NodeOk n := ⟨h.rise, Nat.le_trans h.few hK, h.ver, h.kids, h.next⟩
theorem NodeK.mono {K L : Nat} {n : NodeV} (h : NodeK K n) (hK : K ≤ L) : NodeK L n := ⟨h.rise, Nat.le_trans h.few hK, h.ver, h.kids, h.next⟩
theorem NodeK.new (K : Nat) (z o : Int) (d : ByteArray) : NodeK K (ndNew z o d) := ⟨List.Pairwise.nil, Nat.zero_le _, by simp [ndNew, minI], by simp [ndNew, minI], by simp [ndNew, minI]⟩
theorem NodeK.write {K : Nat} {n : NodeV} (h : NodeK K n) (z : Int) (d : ByteArray) : NodeK K (ndWrite n z d) := ⟨h.rise, h.few, moreI_ge h.ver, h.kids, h.next⟩
theorem NodeK.add {K : Nat} {n : NodeV} (h : NodeK K n) (x : Bs) : NodeK (K + 1) (ndAdd n x) := by
  unfold ndAdd
  split
  · exact h.mono (Nat.le_succ _)
  · rename_i hx
    exact ⟨insN_rising h.rise hx, by show (insN _ _ _).length ≤ _; rw [insN_len _ (lessN_le _ _)]; have := h.few; omega, h.ver, moreI_ge h.kids, moreI_ge h.next⟩
theorem NodeK.rem {K : Nat} {n : NodeV} (h : NodeK K n) (x : Bs) : NodeK K (ndRem n x) := by
  unfold ndRem
  split
  · exact ⟨h.rise.sublist (delN_sub _ _), Nat.le_trans (delN_sub _ _).length_le h.few, h.ver, moreI_ge h.kids, h.next⟩
  · exact h
def PtK (K : Nat) (t : Pt) : Prop := (t.map (·.1)).Nodup ∧ ∀ e ∈ t, NodeK K e.2
theorem PtK.nil : PtK 0 [] := ⟨List.nodup_nil, by simp⟩
theorem PtK.mono {K L : Nat} {t : Pt} (h : PtK K t) (hK : K ≤ L) : PtK L t := ⟨h.1, fun e he => (h.2 e he).mono hK⟩
theorem PtK.ok {K : Nat} {t : Tr} (h : PtK K (pl t)) (hK : K ≤ 100000) : TrOk t := fun e he => (h.2 (e.1, e.2.2) (List.mem_map.2 ⟨e, he, rfl⟩)).ok hK
theorem PtK.set {K : Nat} {t : Pt} (h : PtK K t) (p : ByteArray) {n : NodeV} (hn : NodeK K n) : PtK K (mset t p n) := ⟨mset_nodup h.1 _ _, fun e he => by
  rcases mem_mset h.1 he with rfl | ⟨he, _⟩
  · exact hn
  · exact h.2 e he⟩
theorem PtK.del {K : Nat} {t : Pt} (h : PtK K t) (p : ByteArray) : PtK K (mdel t p) := ⟨mdel_nodup h.1 _, fun e he => h.2 e (List.mem_filter.1 he).1⟩
theorem PtK.tell {K L : Nat} {t : Pt} (h : PtK K t) (hKL : K ≤ L) {f : NodeV → Bs → NodeV} (hf : ∀ n x, NodeK K n → NodeK L (f n x)) (p : ByteArray) : PtK L (tellP f t p) := by
  unfold tellP
  split
  · exact h.mono hKL
  · split
    · exact h.mono hKL
    · rename_i n hn
      exact (h.mono hKL).set _ (hf _ _ (h.2 _ (mget_mem hn)))
theorem PtK.create {K : Nat} {t : Pt} (h : PtK K t) (room : Int) (o : OpV) (sess z : Int) (only : Bool) : PtK (K + 1) (createP room t o sess z only).1 := by
  unfold createP
  simp only
  split
  · exact h.mono (Nat.le_succ _)
  · split
    · exact h.mono (Nat.le_succ _)
    · exact (h.set _ (NodeK.new K _ _ _)).tell (Nat.le_succ _) (fun n x hn => hn.add x) _
theorem PtK.change {K : Nat} {t : Pt} (h : PtK K t) (o : OpV) (z : Int) (only : Bool) : PtK K (changeP t o z only).1 := by
  unfold changeP
  split
  · exact h
  · rename_i n hn
    split
    · exact h
    · split
      · split
        · exact h
        · show PtK K (if _ then _ else _)
          split
          · exact h
          · exact (h.del _).tell (Nat.le_refl _) (fun n x hn => hn.rem x) _
      · split
        · show PtK K (if _ then _ else _)
          split
          · exact h
          · exact h.set _ ((h.2 _ (mget_mem hn)).write _ _)
        · exact h
theorem PtK.doP {K : Nat} {t : Pt} (h : PtK K t) (room : Int) (o : OpV) (sess z : Int) (only : Bool) : PtK (K + 1) (doP room t o sess z only).1 := by
  unfold Proofs.YtjapjpigpakejaaGreatDoor.doP
  split
  · exact h.mono (Nat.le_succ _)
  · split
    · exact h.mono (Nat.le_succ _)
    · split
      · exact h.create _ _ _ _ _
      · split
        · exact (h.change _ _ _).mono (Nat.le_succ _)
        · exact h.mono (Nat.le_succ _)

theorem bs_eq (b : Bs) : (⟨b.toArray⟩ : ByteArray).data.toList = b := by simp
theorem bs_inj {a b : Bs} (h : (⟨a.toArray⟩ : ByteArray) = ⟨b.toArray⟩) : a = b := by
  have := congrArg (fun x : ByteArray => x.data.toList) h
  simpa using this
/-- A path that takes numbers, under a parent. -/
structure Chan (c up : Bs) : Prop where
  good : goodL c = true
  good0 : goodL (c ++ fw 10 0) = true
  par : parentL c = some up
def numP (c : Bs) (j : Nat) : ByteArray := ⟨(c ++ fw 10 j).toArray⟩
def numN (c : Bs) (j : Nat) : Bs := lastL c ++ fw 10 j
section
variable {c up : Bs} (H : Chan c up)
include H
theorem Chan.goodN (j : Nat) : goodL (c ++ fw 10 j) = true := number_good (fw_free 10 0) (fw_free 10 j) (fw_sign 10 0) (fw_sign 10 j) (by rw [fw_len, fw_len]) (by rw [fw_len]; decide) H.good H.good0
theorem Chan.number {j : Nat} (hj : j ≤ 2147483647) : numberL c j = some (c ++ fw 10 j) := by
  unfold numberL
  rw [if_pos, Int.toNat_natCast, padL_fw hj]
  rw [Int.toNat_natCast, padL_fw hj]
  simp only [Bool.and_eq_true, decide_eq_true_eq]
  exact ⟨⟨H.good, by omega, by omega⟩, H.goodN j⟩
theorem Chan.parN (j : Nat) : parentL (numP c j).data.toList = some up := by
  unfold numP
  rw [bs_eq, number_parent (fw_free 10 j) H.good (H.goodN j), H.par]
theorem Chan.lastN (j : Nat) : lastL (numP c j).data.toList = numN c j := by
  obtain ⟨i, x, h1, h2⟩ := number_parts (fw_free 10 j) H.good (H.goodN j)
  unfold numP numN lastL
  rw [bs_eq, h1, h2]
  simp
theorem Chan.notUp (j : Nat) : (numP c j) ≠ ⟨up.toArray⟩ := by
  intro h
  obtain ⟨_, _, h3⟩ := top_parent (numP c j).data.toList up (H.parN j)
  have h4 : (numP c j).data.toList = up := by rw [h]
  rw [h4] at h3
  omega
end
theorem pow10 {j : Nat} (h : j ≤ 2147483647) : j < 10 ^ 10 := by omega
theorem numP_inj {c : Bs} {a b : Nat} (ha : a ≤ 2147483647) (hb : b ≤ 2147483647) (h : numP c a = numP c b) : a = b :=
  (fw_inj 10 a b (pow10 ha) (pow10 hb)).1 (List.append_cancel_left (bs_inj h))
theorem numN_lt {c : Bs} {a b : Nat} (ha : a ≤ 2147483647) (hb : b ≤ 2147483647) : numN c a < numN c b ↔ a < b :=
  (lex_app _ _ _).trans (fw_lt 10 a b (pow10 ha) (pow10 hb))
theorem numP_lt {c : Bs} {a b : Nat} (ha : a ≤ 2147483647) (hb : b ≤ 2147483647) : (numP c a).data.toList < (numP c b).data.toList ↔ a < b := by
  unfold numP
  rw [bs_eq, bs_eq]
  exact (lex_app _ _ _).trans (fw_lt 10 a b (pow10 ha) (pow10 hb))
/-- A child, new: nobody's, no data, no children. -/
def isNew (v : NodeV) : Prop := v.ver = 0 ∧ v.names = [] ∧ v.own = 0
/-- The tree: the parent, and children of these numbers. -/
structure SeqSt (c up : Bs) (t : Pt) (i : Nat) (D : List Nat) (n : NodeV) : Prop where
  keys : (t.map (·.1)).Nodup
  root : mget t ⟨up.toArray⟩ = some n
  own : n.own = 0
  next : n.next = i
  few : i ≤ 1000
  names : n.names = D.map (numN c)
  rise : D.Pairwise (· < ·)
  less : ∀ j ∈ D, j < i
  kid : ∀ j ∈ D, ∃ v, mget t (numP c j) = some v ∧ isNew v
  none : ∀ j, j ∉ D → j ≤ 2147483647 → mget t (numP c j) = none
  size : t.length ≤ 1 + i
theorem moreI_nat {k : Nat} (h : k ≤ 1000) : moreI (k : Int) = ((k + 1 : Nat) : Int) := by
  unfold moreI
  rw [if_neg (by omega)]
  omega
theorem SeqSt.rising {c up : Bs} {t : Pt} {i : Nat} {D : List Nat} {n : NodeV} (h : SeqSt c up t i D n) : Rising n.names := by
  rw [h.names]
  refine List.pairwise_map.2 (h.rise.imp_of_mem fun ha hb hab => ?_)
  have h1 := h.less _ ha
  have h2 := h.less _ hb
  have := h.few
  exact (numN_lt (by omega) (by omega)).2 hab
/-- Where a created child is laid. -/
theorem SeqSt.place {c up : Bs} (H : Chan c up) {t : Pt} {i : Nat} {D : List Nat} {n : NodeV} (h : SeqSt c up t i D n) {room : Int} (hr : (t.length : Int) < room) : placeP room t ⟨c.toArray⟩ 2 = (numP c i, 0) := by
  have h3 : i ≤ 2147483647 := by have := h.few; omega
  unfold placeP
  rw [bs_eq, H.par]
  simp only [h.root]
  rw [if_neg (by simp [h.own]), if_pos (by decide), h.next, H.number h3]
  show finQ room t (numP c i) = _
  unfold finQ
  rw [h.none i (fun hm => by have := h.less i hm; omega) h3, if_neg (by simp), if_neg (by omega)]
theorem SeqSt.create {c up : Bs} (H : Chan c up) {t : Pt} {i : Nat} {D : List Nat} {n : NodeV} (h : SeqSt c up t i D n) {room : Int} (hr : (t.length : Int) < room) (hi : i < 1000) (z sess : Int) :
    ∃ t' x, createP room t ⟨1, ⟨c.toArray⟩, ⟨#[]⟩, 0, 2⟩ sess z false = (t', ⟨0, numP c i, ⟨#[]⟩, [], x⟩) ∧ SeqSt c up t' (i + 1) (D ++ [i]) { n with names := n.names ++ [numN c i], cnt := (n.names.length + 1 : Nat), kids := moreI n.kids, next := moreI n.next } ∧ t'.length ≤ t.length + 1 := by
  have hD : i ∉ D := fun hm => by have := h.less i hm; omega
  have hadd : ndAdd n (numN c i) = { n with names := n.names ++ [numN c i], cnt := (n.names.length + 1 : Nat), kids := moreI n.kids, next := moreI n.next } := by
    have hall : ∀ x ∈ n.names, x < numN c i := by
      rw [h.names]
      intro x hx
      obtain ⟨j, hj, rfl⟩ := List.mem_map.1 hx
      have := h.less j hj
      have := h.few
      exact (numN_lt (by omega) (by omega)).2 (by omega)
    unfold ndAdd
    rw [lessN_all _ _ hall, if_neg (by simp)]
    unfold insN
    simp
  refine ⟨tellP ndAdd (mset t (numP c i) (ndNew z (ownF 2 sess) ⟨#[]⟩)) (numP c i), ndNew z (ownF 2 sess) ⟨#[]⟩, ?_, ?_, ?_⟩
  · unfold createP
    simp only [h.place H hr]
    rfl
  · unfold tellP
    rw [H.parN]
    simp only [mget_mset]
    rw [if_neg (H.notUp i).symm, h.root]
    simp only [H.lastN, hadd]
    refine ⟨mset_nodup (mset_nodup h.keys _ _) _ _, by rw [mget_mset, if_pos rfl], h.own, ?_, by have := h.few; omega, ?_, ?_, ?_, ?_, ?_, ?_⟩
    · show moreI n.next = _
      rw [h.next, moreI_nat h.few]
    · show n.names ++ [numN c i] = _
      rw [h.names, List.map_append]; rfl
    · exact List.pairwise_append.2 ⟨h.rise, List.pairwise_singleton _ _, fun a ha b hb => by simp at hb; subst hb; exact h.less a ha⟩
    · intro j hj
      rcases List.mem_append.1 hj with hj | hj
      · have := h.less j hj; omega
      · simp at hj; omega
    · intro j hj
      rw [mget_mset, if_neg (H.notUp j), mget_mset]
      by_cases hji : j = i
      · subst hji
        exact ⟨ndNew z (ownF 2 sess) ⟨#[]⟩, if_pos rfl, rfl, rfl, rfl⟩
      · rcases List.mem_append.1 hj with hj | hj
        · rw [if_neg (fun e => hji (numP_inj (by have := h.less j hj; have := h.few; omega) (by have := h.few; omega) e))]
          exact h.kid j hj
        · simp at hj; exact absurd hj hji
    · intro j hj hj2
      rw [List.mem_append, not_or] at hj
      have hne : j ≠ i := fun e => hj.2 (by simp [e])
      rw [mget_mset, if_neg (H.notUp j), mget_mset, if_neg (fun e => hne (numP_inj hj2 (by have := h.few; omega) e))]
      exact h.none j hj.1 hj2
    · rw [mset_length, mget_mset, if_neg (H.notUp i).symm, h.root, mset_length]
      have := h.size
      simp only [Option.isSome_some, if_true]
      split <;> omega
  · unfold tellP
    rw [H.parN]
    simp only [mget_mset]
    rw [if_neg (H.notUp i).symm, h.root]
    simp only
    rw [mset_length, mget_mset, if_neg (H.notUp i).symm, h.root, mset_length]
    simp only [Option.isSome_some, if_true]
    split <;> omega
theorem lessN_mid {s : Bs} {A B : List Bs} (h : ∀ x ∈ A, x < s) : lessN s (A ++ s :: B) = A.length := by
  refine lessN_at s _ A.length (by simp) (fun x hx => h x ?_) ?_
  · rwa [List.take_left] at hx
  · rw [List.getElem_append_right (Nat.le_refl _)]
    simp only [Nat.sub_self, List.getElem_cons_zero]
    exact List.lt_irrefl s
/-- A child goes. -/
theorem SeqSt.delete {c up : Bs} (H : Chan c up) {t : Pt} {i : Nat} {A B : List Nat} {j : Nat} {n : NodeV} (h : SeqSt c up t i (A ++ j :: B) n) {ver : Int} (hv : ver = 0 ∨ ver = -1) (z : Int) :
    ∃ t', changeP t ⟨2, numP c j, ⟨#[]⟩, ver, 0⟩ z false = (t', ⟨0, numP c j, ⟨#[]⟩, [], ndZ⟩) ∧ SeqSt c up t' i (A ++ B) { n with names := A.map (numN c) ++ B.map (numN c), cnt := ((A ++ j :: B).length - 1 : Nat), kids := moreI n.kids } ∧ t'.length ≤ t.length := by
  have hjm : j ∈ A ++ j :: B := by simp
  obtain ⟨v, hv1, hv2, hv3, hv4⟩ := h.kid j hjm
  have hfew := h.few
  have hrise := List.pairwise_append.1 h.rise
  have hAj : ∀ a ∈ A, a < j := fun a ha => hrise.2.2 a ha j (by simp)
  have hjB : ∀ b ∈ B, j < b := (List.pairwise_cons.1 hrise.2.1).1
  have hless := h.less j hjm
  have hnames : n.names = A.map (numN c) ++ numN c j :: B.map (numN c) := by rw [h.names]; simp
  have hrem : ndRem n (numN c j) = { n with names := A.map (numN c) ++ B.map (numN c), cnt := ((A ++ j :: B).length - 1 : Nat), kids := moreI n.kids } := by
    have hl : lessN (numN c j) n.names = A.length := by
      rw [hnames, lessN_mid, List.length_map]
      intro x hx
      obtain ⟨a, ha, rfl⟩ := List.mem_map.1 hx
      have := hAj a ha
      exact (numN_lt (by omega) (by omega)).2 this
    have hg : n.names[A.length]? = some (numN c j) := by
      rw [hnames, List.getElem?_append_right (by simp)]
      simp
    unfold ndRem
    rw [hl, if_pos hg]
    have hd : delN n.names A.length = A.map (numN c) ++ B.map (numN c) := by
      unfold delN
      rw [hnames]
      have e1 : A.length = (A.map (numN c)).length := by simp
      rw [e1, List.take_left, List.drop_append]
      simp
    rw [hd]
    congr 1
    rw [hnames]; simp
  refine ⟨tellP ndRem (mdel t (numP c j)) (numP c j), ?_, ?_, ?_⟩
  · have hw : ¬ wrongB ⟨2, numP c j, ⟨#[]⟩, ver, 0⟩ v = true := by
      unfold wrongB
      rcases hv with rfl | rfl
      · simp [hv2]
      · simp
    unfold changeP
    simp only [hv1]
    rw [if_neg hw]
    simp [hv3]
  · unfold tellP
    rw [H.parN]
    simp only [mget_mdel]
    rw [if_neg (H.notUp j).symm, h.root]
    simp only [H.lastN, hrem]
    have hsub : ∀ x ∈ A ++ B, x ∈ A ++ j :: B := fun x hx => by
      rcases List.mem_append.1 hx with hx | hx
      · simp [hx]
      · simp [hx]
    have hne : ∀ x ∈ A ++ B, x ≠ j := fun x hx => by
      rcases List.mem_append.1 hx with hx | hx
      · have := hAj x hx; omega
      · have := hjB x hx; omega
    refine ⟨mset_nodup (mdel_nodup h.keys _) _ _, by rw [mget_mset, if_pos rfl], h.own, h.next, h.few, ?_, ?_, fun x hx => h.less x (hsub x hx), ?_, ?_, ?_⟩
    · show A.map (numN c) ++ B.map (numN c) = _
      simp
    · exact List.pairwise_append.2 ⟨hrise.1, (List.pairwise_cons.1 hrise.2.1).2, fun a ha b hb => hrise.2.2 a ha b (by simp [hb])⟩
    · intro x hx
      have hx1 := h.less x (hsub x hx)
      rw [mget_mset, if_neg (H.notUp x), mget_mdel, if_neg (fun e => hne x hx (numP_inj (by omega) (by omega) e))]
      exact h.kid x (hsub x hx)
    · intro x hx hx2
      rw [mget_mset, if_neg (H.notUp x), mget_mdel]
      by_cases hxj : x = j
      · rw [if_pos (by rw [hxj])]
      · rw [if_neg (fun e => hxj (numP_inj hx2 (by omega) e))]
        refine h.none x (fun hm => hx ?_) hx2
        rcases List.mem_append.1 hm with hm | hm
        · simp [hm]
        · rcases List.mem_cons.1 hm with hm | hm
          · exact absurd hm hxj
          · simp [hm]
    · have h1 : (mdel t (numP c j)).length ≤ t.length := List.length_filter_le _ _
      have := h.size
      rw [mset_length, mget_mdel, if_neg (H.notUp j).symm, h.root]
      simp only [Option.isSome_some, if_true]
      omega
  · unfold tellP
    rw [H.parN]
    simp only [mget_mdel]
    rw [if_neg (H.notUp j).symm, h.root]
    simp only
    have h1 : (mdel t (numP c j)).length ≤ t.length := List.length_filter_le _ _
    rw [mset_length, mget_mdel, if_neg (H.notUp j).symm, h.root]
    simp only [Option.isSome_some, if_true]
    omega

theorem goodO_plain {k : Int} {p : ByteArray} {v : Int} (hk : 2 ≤ k ∧ k ≤ 7) (hp : goodL p.data.toList = true) (hv : v = 0 ∨ (-1 ≤ v ∧ k ≤ 4)) : goodO ⟨k, p, ⟨#[]⟩, v, 0⟩ = 0 := by
  have hd : (⟨#[]⟩ : ByteArray).size = 0 := rfl
  have h1 : formedB ⟨k, p, ⟨#[]⟩, v, 0⟩ = true := by
    unfold formedB
    simp only [hp, Bool.and_eq_true, decide_eq_true_eq, Bool.true_and]
    omega
  have h2 : ownB ⟨k, p, ⟨#[]⟩, v, 0⟩ = true := by
    unfold ownB versionedB
    simp only [hd, decide_true, Bool.true_or, Bool.true_and, Bool.and_true, Bool.or_eq_true, decide_eq_true_eq]
    omega
  have h3 : numberedB ⟨k, p, ⟨#[]⟩, v, 0⟩ = true := by unfold numberedB; simp
  unfold goodO
  rw [if_pos h1, h2, h3]
  simp [hd]
theorem doP_create {room : Int} {t : Pt} {o : OpV} {sess z : Int} {only : Bool} (h : goodO o = 0) (hk : o.kind = 1) (hs : 1 ≤ sess) (hz : 0 ≤ z) : doP room t o sess z only = createP room t o sess z only := by
  unfold doP
  rw [if_neg (by simp [h]), if_neg (by omega), if_pos hk]
theorem doP_change {room : Int} {t : Pt} {o : OpV} {sess z : Int} {only : Bool} (h : goodO o = 0) (hk : o.kind = 2 ∨ o.kind = 3 ∨ o.kind = 4) (hs : 1 ≤ sess) (hz : 0 ≤ z) : doP room t o sess z only = changeP t o z only := by
  unfold doP
  rw [if_neg (by simp [h]), if_neg (by omega), if_neg (by omega), if_pos hk]
theorem doP_read {room : Int} {t : Pt} {o : OpV} {sess z : Int} {only : Bool} (h : goodO o = 0) (hk : 5 ≤ o.kind) (hs : 1 ≤ sess) (hz : 0 ≤ z) : doP room t o sess z only = (t, readP t o) := by
  unfold doP
  rw [if_neg (by simp [h]), if_neg (by omega), if_neg (by omega), if_neg (by omega)]
def upA : Bs := [47, 97]
def cX : Bs := [47, 97, 47, 120]
def upP : Bs := [47, 112]
def cC : Bs := [47, 112, 47, 99]
theorem chanA : Chan cX upA := ⟨by decide +kernel, by decide +kernel, by decide +kernel⟩
theorem chanP : Chan cC upP := ⟨by decide +kernel, by decide +kernel, by decide +kernel⟩
theorem goodCX : goodO ⟨1, ⟨cX.toArray⟩, ⟨#[]⟩, 0, 2⟩ = 0 := by decide +kernel
theorem goodCC : goodO ⟨1, ⟨cC.toArray⟩, ⟨#[]⟩, 0, 2⟩ = 0 := by decide +kernel
theorem goodUA : goodO ⟨1, ⟨upA.toArray⟩, ⟨#[]⟩, 0, 0⟩ = 0 := by decide +kernel
theorem goodUP : goodO ⟨1, ⟨upP.toArray⟩, ⟨#[]⟩, 0, 0⟩ = 0 := by decide +kernel
/-- The parent is made. -/
theorem create_root {up : Bs} (hup : parentL up = none) (room : Int) (hr : 1 ≤ room) (sess z : Int) (hz : goodO ⟨1, ⟨up.toArray⟩, ⟨#[]⟩, 0, 0⟩ = 0) (hs : 1 ≤ sess) (hz0 : 0 ≤ z) :
    doP room [] ⟨1, ⟨up.toArray⟩, ⟨#[]⟩, 0, 0⟩ sess z false = ([(⟨up.toArray⟩, ndNew z 0 ⟨#[]⟩)], ⟨0, ⟨up.toArray⟩, ⟨#[]⟩, [], ndNew z 0 ⟨#[]⟩⟩) := by
  rw [doP_create hz rfl hs hz0]
  have hpl : placeP room [] ⟨up.toArray⟩ 0 = (⟨up.toArray⟩, 0) := by
    unfold placeP
    rw [bs_eq, hup]
    show finQ room [] _ = _
    unfold finQ
    rw [if_neg (by simp [mget]), if_neg (by simp; omega)]
  unfold createP
  simp only [hpl]
  have ho : ownF 0 sess = 0 := rfl
  rw [ho]
  unfold tellP
  rw [bs_eq, hup]
  rfl
theorem seq_start {c up : Bs} (H : Chan c up) (z : Int) : SeqSt c up [(⟨up.toArray⟩, ndNew z 0 ⟨#[]⟩)] 0 [] (ndNew z 0 ⟨#[]⟩) := by
  refine ⟨by simp, by simp [mget], rfl, rfl, by omega, rfl, List.Pairwise.nil, by simp, by simp, fun j _ hj => ?_, by simp⟩
  unfold mget
  rw [if_neg (fun e => H.notUp j e)]
  rfl
theorem seq_create {c up : Bs} (H : Chan c up) (hg : goodO ⟨1, ⟨c.toArray⟩, ⟨#[]⟩, 0, 2⟩ = 0) {t : Pt} {i : Nat} {D : List Nat} {n : NodeV} (h : SeqSt c up t i D n) {room : Int} (hr : (t.length : Int) < room) (hi : i < 1000) (z sess : Int) (hs : 1 ≤ sess) (hz : 0 ≤ z) :
    ∃ t' x, doP room t ⟨1, ⟨c.toArray⟩, ⟨#[]⟩, 0, 2⟩ sess z false = (t', ⟨0, numP c i, ⟨#[]⟩, [], x⟩) ∧ SeqSt c up t' (i + 1) (D ++ [i]) { n with names := n.names ++ [numN c i], cnt := (n.names.length + 1 : Nat), kids := moreI n.kids, next := moreI n.next } ∧ t'.length ≤ t.length + 1 := by
  rw [doP_create hg rfl hs hz]
  exact h.create H hr hi z sess
theorem seq_delete {c up : Bs} (H : Chan c up) {t : Pt} {i : Nat} {A B : List Nat} {j : Nat} {n : NodeV} (h : SeqSt c up t i (A ++ j :: B) n) {ver : Int} (hv : ver = 0 ∨ ver = -1) (room z sess : Int) (hs : 1 ≤ sess) (hz : 0 ≤ z) :
    ∃ t', doP room t ⟨2, numP c j, ⟨#[]⟩, ver, 0⟩ sess z false = (t', ⟨0, numP c j, ⟨#[]⟩, [], ndZ⟩) ∧ SeqSt c up t' i (A ++ B) { n with names := A.map (numN c) ++ B.map (numN c), cnt := ((A ++ j :: B).length - 1 : Nat), kids := moreI n.kids } ∧ t'.length ≤ t.length := by
  have hg : goodO ⟨2, numP c j, ⟨#[]⟩, ver, 0⟩ = 0 := goodO_plain (by omega) (by unfold numP; rw [bs_eq]; exact H.goodN j) (by omega)
  rw [doP_change hg (.inl rfl) hs hz]
  exact h.delete H hv z
/-! A tree of one node. -/
def oneT (up : Bs) (n : NodeV) : Pt := [(⟨up.toArray⟩, n)]
theorem one_get (up : Bs) (n : NodeV) : mget (oneT up n) ⟨up.toArray⟩ = some n := by simp [oneT, mget]
theorem one_set {up : Bs} (hg : goodL up = true) (n : NodeV) (room sess z : Int) (hs : 1 ≤ sess) (hz : 0 ≤ z) (hv : -1 ≤ n.ver) (d : ByteArray) (hd : d = ⟨#[]⟩) :
    doP room (oneT up n) ⟨3, ⟨up.toArray⟩, d, n.ver, 0⟩ sess z false = (oneT up (ndWrite n z d), ⟨0, ⟨up.toArray⟩, ⟨#[]⟩, [], ndWrite n z d⟩) := by
  subst hd
  rw [doP_change (goodO_plain (by omega) (by rw [bs_eq]; exact hg) (.inr ⟨hv, by omega⟩)) (.inr (.inl rfl)) hs hz]
  unfold changeP
  simp only [one_get]
  rw [if_neg (by simp [wrongB])]
  simp [oneT, mset]
theorem one_set_wrong {up : Bs} (hg : goodL up = true) (n : NodeV) (room sess z v : Int) (hs : 1 ≤ sess) (hz : 0 ≤ z) (hv : 0 ≤ v) (hne : v ≠ n.ver) :
    doP room (oneT up n) ⟨3, ⟨up.toArray⟩, ⟨#[]⟩, v, 0⟩ sess z false = (oneT up n, failR 6) := by
  rw [doP_change (goodO_plain (by omega) (by rw [bs_eq]; exact hg) (.inr ⟨by omega, by omega⟩)) (.inr (.inl rfl)) hs hz]
  unfold changeP
  simp only [one_get]
  rw [if_pos (by simp [wrongB, hne]; omega)]
theorem one_delete {up : Bs} (hg : goodL up = true) (hup : parentL up = none) (n : NodeV) (hn : n.names = []) (room sess z : Int) (hs : 1 ≤ sess) (hz : 0 ≤ z) (hv : -1 ≤ n.ver) :
    doP room (oneT up n) ⟨2, ⟨up.toArray⟩, ⟨#[]⟩, n.ver, 0⟩ sess z false = ([], ⟨0, ⟨up.toArray⟩, ⟨#[]⟩, [], ndZ⟩) := by
  rw [doP_change (goodO_plain (by omega) (by rw [bs_eq]; exact hg) (.inr ⟨hv, by omega⟩)) (.inl rfl) hs hz]
  unfold changeP
  simp only [one_get]
  rw [if_neg (by simp [wrongB])]
  unfold tellP
  rw [bs_eq, hup]
  simp [hn, oneT, mdel]
theorem one_exists {up : Bs} (hg : goodL up = true) (n : NodeV) (room sess z : Int) (hs : 1 ≤ sess) (hz : 0 ≤ z) :
    doP room (oneT up n) ⟨6, ⟨up.toArray⟩, ⟨#[]⟩, 0, 0⟩ sess z false = (oneT up n, ⟨0, ⟨up.toArray⟩, ⟨#[]⟩, [], n⟩) := by
  rw [doP_read (goodO_plain (by omega) (by rw [bs_eq]; exact hg) (.inl rfl)) (by simp) hs hz]
  unfold readP
  simp only [one_get]
  simp
end Go.Proofs.YtjapjpigpakejaaGreatDoor
