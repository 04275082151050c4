/- Texts put together: AvWStr, AvQuiet. -/
import Derived.Test.YtdagikbdpeblhaaGreatDoorAvG2
import Derived.Test.YtdagikbdpeblhaaGreatDoorShelfX
import Derived.Test.YtdagikbdpeblhaaGreatDoorAvS
import Derived.Laws.AppendOwn
import Derived.Test.YtdagikbdpeblhaaGreatDoorAvG1
import Derived.Deep.QuietTactic
import Derived.Tactics2

/- slices.BinarySearch, Insert, Delete, Clone at []string, at rows that a call owns. -/
namespace Go.Proofs.YtdagikbdpeblhaaGreatDoor
set_option maxRecDepth 100000
open Go.RowKit Av

abbrev strT : TypeId := 9
theorem lessB (x y : Bs) : Op.bytesLess x y = decide (x < y) := by
  induction x generalizing y with
  | nil => cases y <;> simp [Op.bytesLess]
  | cons a x ih =>
    cases y with
    | nil => simp [Op.bytesLess]
    | cons b y =>
      rw [Op.bytesLess, ih, Bool.eq_iff_iff]
      simp [List.cons_lt_cons_iff]
/-- Names that can be read. -/
def NmS (w : World) (v : Value) (l : List Bs) : Prop := Sl w 1 v l.length (l.map encStr) ∧ Shp v
theorem rising_less {l : List Bs} (h : Rising l) (x : Bs) (j : Nat) (hj : j < l.length) : (l[j] < x) ↔ j < lessN x l := by
  constructor
  · intro hlt
    rcases Nat.lt_or_ge j (lessN x l) with h1 | h1
    · exact h1
    · exfalso
      have hk : lessN x l < l.length := by omega
      have h2 := lessN_get x l hk
      rcases Nat.lt_or_ge (lessN x l) j with h3 | h3
      · exact h2 (List.lt_trans (List.pairwise_iff_getElem.1 h _ _ hk hj h3) hlt)
      · have : lessN x l = j := by omega
        simp only [this] at h2
        exact h2 hlt
  · intro h1
    refine lessN_take x l _ ?_
    rw [List.mem_take_iff_getElem]
    exact ⟨j, by have := lessN_le x l; omega, rfl⟩
theorem bs_toList (b : Bs) : (⟨b.toArray⟩ : ByteArray).toList = b := by rw [Lib.toList_data]
theorem search_any (v : Value) (l : List Bs) (x : Bs) (w : World) (h : NmS w v l) (hr : Rising l) (hl : l.length ≤ 1000000) :
    Calls Tryz.prog 188 #[v, .string ⟨x.toArray⟩] w fun e w' => e = .returned (.tuple #[.int .i64 (lessN x l : Nat), .bool (decide (l[lessN x l]? = some x))]) ∧ Ext w w' := by
  obtain ⟨a, c, rfl, hcc, hm, _, hop⟩ := Sl.open h.1
  by_cases h0 : l = []
  · subst h0
    refine (Any2.slices_BinarySearch_string_empty Tryz.laysX26 a c ⟨x.toArray⟩ w).mono ?_
    rintro e w' ⟨rfl, rfl⟩
    exact ⟨rfl, Kp.refl _ _⟩
  · have hpos : 0 < l.length := List.length_pos_iff.2 h0
    obtain ⟨b, off, rfl, _, hc⟩ := hop hpos
    refine (Any2.slices_BinarySearch_string Tryz.laysX26 b off l.length c (fun j => ⟨(l.getD j x).toArray⟩) ⟨x.toArray⟩ w (by omega) (fun j hj => hc j _ (by
      rw [List.getElem?_map, List.getElem?_eq_getElem hj]
      simp [List.getD, List.getElem?_eq_getElem hj]))).mono ?_
    have hgo : Lib.bsGo (fun t => Op.bytesLess (⟨(l.getD t x).toArray⟩ : ByteArray).toList (⟨x.toArray⟩ : ByteArray).toList) l.length 0 l.length = lessN x l := by
      refine Lib.bsGo_spec _ (lessN x l) (fun t ht => ?_) (fun t ht => ?_) _ _ _ (by omega) (Nat.zero_le _) (lessN_le x l)
      · have htl : t < l.length := by have := lessN_le x l; omega
        rw [bs_toList, bs_toList, lessB, decide_eq_true_iff]
        have e : l.getD t x = l[t] := by simp [List.getD, List.getElem?_eq_getElem htl]
        rw [e]
        exact (rising_less hr x t htl).2 ht
      · rw [bs_toList, bs_toList, lessB, decide_eq_false_iff_not]
        by_cases htl : t < l.length
        · have e : l.getD t x = l[t] := by simp [List.getD, List.getElem?_eq_getElem htl]
          rw [e]
          intro hlt
          have := (rising_less hr x t htl).1 hlt
          omega
        · have e : l.getD t x = x := by simp [List.getD, List.getElem?_eq_none (show l.length ≤ t by omega)]
          rw [e]
          exact List.lt_irrefl x
    rintro e w' ⟨rfl, q, rfl⟩
    rw [hgo]
    refine ⟨?_, (Kp.refl _ _).drewN _⟩
    have e : decide (lessN x l < l.length ∧ (⟨(l.getD (lessN x l) x).toArray⟩ : ByteArray) = ⟨x.toArray⟩) = decide (l[lessN x l]? = some x) := by
      rw [Bool.eq_iff_iff, decide_eq_true_iff, decide_eq_true_iff]
      constructor
      · rintro ⟨h1, h2⟩
        have e : l.getD (lessN x l) x = l[lessN x l] := by simp [List.getD, List.getElem?_eq_getElem h1]
        rw [e] at h2
        rw [List.getElem?_eq_getElem h1]
        simpa using h2
      · intro h1
        obtain ⟨h2, h3⟩ := List.getElem?_eq_some_iff.1 h1
        refine ⟨h2, ?_⟩
        have e : l.getD (lessN x l) x = l[lessN x l] := by simp [List.getD, List.getElem?_eq_getElem h2]
        rw [e, h3]
    rw [e]
theorem enc_one (l : List Bs) : ∀ y ∈ l.map encStr, y.oneCell' = true := by
  intro y hy
  obtain ⟨n, _, rfl⟩ := List.mem_map.1 hy
  rfl
/-- One name put in. -/
def insN (l : List Bs) (i : Nat) (x : Bs) : List Bs := l.take i ++ x :: l.drop i
theorem insN_len {l : List Bs} {i : Nat} (x : Bs) (hi : i ≤ l.length) : (insN l i x).length = l.length + 1 := by
  unfold insN
  rw [List.length_append, List.length_cons, List.length_take, List.length_drop]
  omega
theorem setMs_mid : ∀ (vs p ys r : List Value), vs.length = ys.length → setMs (p ++ ys ++ r) p.length vs = p ++ vs ++ r
  | [], p, ys, r, h => by
    have : ys = [] := List.length_eq_zero_iff.1 h.symm
    subst this
    rfl
  | v :: vs, p, y :: ys, r, h => by
    unfold setMs
    have e : (p ++ y :: ys ++ r).set p.length v = (p ++ [v]) ++ ys ++ r := by simp
    have ih := setMs_mid vs (p ++ [v]) ys r (by simpa using h)
    rw [List.length_append] at ih
    rw [e]
    simp only [List.length_cons, List.length_nil] at ih
    rw [show p.length + 1 = p.length + (0 + 1) by omega, ih]
    simp
  | v :: vs, p, [], r, h => by simp at h
theorem own_rowB {w : World} {base b c n : Nat} {xs full : List Value} (h : RowB w b strT 1 c full) (hx : full.take n = xs) (hxl : xs.length = n) (hn : n ≤ c) (hc : c ≤ maxLen) (hb : base ≤ b) : w.ownsRow base strT 1 (.slice (some ⟨b, 0, none⟩) n c) n xs := by
  have hfl : n ≤ full.length := by rw [← hx, List.length_take] at hxl; omega
  have := h.owns (m := n) (by omega) hn hc hb
  rwa [Nat.mul_one, hx] at this
theorem rowB_all {w : World} {b c : Nat} {cur : Array Value} (hg : w.heap[b]? = some (.cells cur strT (0, 0))) (hs : cur.size = c) : RowB w b strT 1 c cur.toList :=
  ⟨cur, hg, by omega, List.take_of_length_le (Nat.le_refl _)⟩
theorem rowB_drew {w : World} {b c : Nat} {xs : List Value} (h : RowB w b strT 1 c xs) : RowB w.drew b strT 1 c xs := h
theorem insert_any (v : Value) (l : List Bs) (i : Nat) (x : Bs) (vb : Nat) (base : Nat) (w : World) (h : w.ownsRow base strT 1 v l.length (l.map encStr)) (hi : i ≤ l.length) (hu : Blk w vb #[encStr x] strT) (hv : v.ownBlock ≠ some vb) (hb : base ≤ w.heap.size) (hl : l.length ≤ 1000000) :
    Calls Tryz.prog 189 #[v, .int .i64 i, .slice (some ⟨vb, 0, none⟩) 1 1] w fun e w' => ∃ v', e = .returned v' ∧ w'.ownsRow base strT 1 v' (l.length + 1) ((insN l i x).map encStr) ∧ Kp (fun k => v.ownBlock = some k) w w' := by
  have hvs : ∀ (j : Nat) (y : Value), [encStr x][j]? = some y → w.cell? ⟨vb, 0 + j, none⟩ = some y := by
    intro j y hy
    cases j with
    | zero => simp at hy; subst hy; exact hu.cell 0 _ rfl
    | succ j => simp at hy
  have h1v : ∀ y ∈ [encStr x], y.oneCell' = true := by intro y hy; simp only [List.mem_singleton] at hy; subst hy; rfl
  have hcl : (l.map encStr).length = l.length := List.length_map _
  obtain ⟨_, ⟨rfl, h0⟩ | ⟨b, c, cur, rfl, hbb, hg, hnc, hcm, hsz, htk⟩⟩ := h
  · have hl0 : l = [] := List.length_eq_zero_iff.1 h0
    subst hl0
    have hi0 : i = 0 := by simpa using hi
    subst hi0
    refine (Any2.slices_Insert_string_end_grow Tryz.laysX22 none 0 0 vb 0 1 1 [] [encStr x] w (by decide) (by decide) (by decide) (by decide) rfl rfl (fun _ => rfl) (fun a ha => by cases ha) hvs h1v).mono ?_
    rintro e w' ⟨rfl, rfl⟩
    refine ⟨_, rfl, own_rowB (rowB_all (heap_alloc_new w.drew _) (c := grownCap w 1 0 strT) ?_) (by rw [Array.toList_append]; rfl) rfl (grownCap_ge _ _ _ _) (grownCap_le_maxLen _ _ _ _ (by decide)) hb, ((Kp.refl _ w).drew).alloc _⟩
    have := grownCap_ge w 1 0 strT
    simp only [Array.size_append, List.size_toArray, size_zeroCells]
    show 1 + (grownCap w 1 0 strT - 1) * 1 = _
    omega
  · rw [Nat.mul_one] at hsz htk
    have hcs : ∀ (j : Nat) (y : Value), (l.map encStr)[j]? = some y → w.cell? ⟨b, 0 + j, none⟩ = some y := by
      intro j y hy
      have hj : j < (l.map encStr).length := (List.getElem?_eq_some_iff.1 hy).1
      rw [← htk, List.getElem?_take, if_pos (by rw [← hcl]; exact hj)] at hy
      simp [World.cell?, hg]
      simpa using hy
    have hall := rowB_all hg (show cur.size = c by omega)
    have hcl2 : cur.toList.length = c := by simp; omega
    have hins : (insN l i x).map encStr = (l.map encStr).take i ++ encStr x :: (l.map encStr).drop i := by
      unfold insN
      rw [List.map_append, List.map_cons, List.map_take, List.map_drop]
    have hil := insN_len x hi
    have hilm : ((insN l i x).map encStr).length = l.length + 1 := by rw [List.length_map, hil]
    have hbv : vb ≠ b := fun e => hv (by rw [e]; rfl)
    have hbw : base ≤ b := hbb
    generalize hcsd : l.map encStr = cs at *
    have hcsl : cs.length = l.length := hcl
    have hspl : cur.toList = cs ++ cur.toList.drop cs.length := by
      conv => lhs; rw [← List.take_append_drop cs.length cur.toList]
      rw [hcsl, htk]
    by_cases hroom : l.length + 1 ≤ c
    · obtain ⟨y, r, hr⟩ : ∃ y r, cur.toList.drop cs.length = y :: r := by
        cases hd : cur.toList.drop cs.length with
        | nil => have := congrArg List.length hd; rw [List.length_drop] at this; simp only [List.length_nil] at this; omega
        | cons y r => exact ⟨y, r, rfl⟩
      rw [hr] at hspl
      rw [hspl] at hall
      rcases Nat.lt_or_ge i l.length with hlt | hge
      · obtain ⟨d, D1, hD⟩ : ∃ d D1, cs.drop i = d :: D1 := by
          cases hd : cs.drop i with
          | nil => have := congrArg List.length hd; rw [List.length_drop] at this; simp only [List.length_nil] at this; omega
          | cons d D1 => exact ⟨d, D1, rfl⟩
        have hti : (cs.take i).length = i := by rw [List.length_take]; omega
        have hfull : cs ++ y :: r = (cs.take i ++ [d]) ++ (D1 ++ [y]) ++ r := by
          conv => lhs; rw [← List.take_append_drop i cs, hD]
          simp
        refine (Any2.slices_Insert_string_shift Tryz.laysX22 b 0 l.length c i vb 0 1 1 cs [encStr x] w hlt (by decide) hroom (by unfold maxLen at hcm; omega) hbv hcsl rfl hcs (fun j hj => ?_) (fun j hj => hall.free _) hvs (by rw [← hcsd]; exact enc_one l) h1v strT strT 1 c ?_ ?_ (by omega) (hu.free 0) (hu.free 1)).mono ?_
        · have hjl : j < (cs ++ y :: r).length := by rw [← hspl]; omega
          rw [hall.cell (i := 0 + j) (v := (cs ++ y :: r)[j]) (by rw [Nat.zero_add]; exact List.getElem?_eq_getElem hjl)]
          rfl
        · have hu' : w.heap[vb]? = some (.cells #[encStr x] strT (0, 0)) := hu
          simp [World.shape?, hu']
        · simp [World.shape?, hg, hsz]
        rintro e w' ⟨rfl, rfl⟩
        have h1 := RowB.setCells (cs.drop i) (0 + (i + 1)) (rowB_drew hall)
        have h2 := setMs_mid (d :: D1) (cs.take i ++ [d]) (D1 ++ [y]) r (by simp)
        rw [List.length_append, hti] at h2
        rw [hfull, hD, Nat.zero_add] at h1
        simp only [List.length_cons, List.length_nil, Nat.zero_add] at h2
        rw [h2] at h1
        have h3 := RowB.setCells [encStr x] (0 + i) h1
        have h4 := setMs_mid [encStr x] (cs.take i) [d] (d :: D1 ++ r) rfl
        rw [hti] at h4
        rw [Nat.zero_add, show cs.take i ++ [d] ++ d :: D1 ++ r = cs.take i ++ [d] ++ (d :: D1 ++ r) by simp, h4] at h3
        refine ⟨_, rfl, own_rowB (by rw [Nat.zero_add, Nat.zero_add, hD]; exact h3) ?_ hilm hroom hcm hbw, ((((Kp.refl (fun k => k = b) w).drew).trans (kp_setCells _ _ _)).trans (kp_setCells _ _ _)).mono (fun k _ e => by subst e; rfl)⟩
        rw [hins, hD]
        have : l.length + 1 = (cs.take i ++ [encStr x] ++ (d :: D1)).length := by
          rw [List.length_append, List.length_append, hti, ← hD, List.length_drop]
          simp; omega
        rw [show cs.take i ++ [encStr x] ++ (d :: D1 ++ r) = (cs.take i ++ [encStr x] ++ (d :: D1)) ++ r by simp, this, List.take_left' rfl]
        simp
      · obtain rfl : i = l.length := by omega
        refine (Any2.slices_Insert_string_end_room Tryz.laysX22 b 0 l.length c vb 0 1 1 [encStr x] w (by decide) hroom (by unfold maxLen at hcm; omega) rfl (fun j hj => ?_) (fun j hj => hall.free _) hvs h1v).mono ?_
        · have hj0 : j = 0 := by omega
          subst hj0
          rw [hall.cell (i := 0 + l.length + 0) (v := y) (by rw [List.getElem?_append_right (by omega)]; simp [hcsl])]
          rfl
        rintro e w' ⟨rfl, rfl⟩
        have h1 := RowB.setCells [encStr x] (0 + l.length) hall
        have h2 := setMs_mid [encStr x] cs [y] r rfl
        rw [show cs ++ y :: r = cs ++ [y] ++ r by simp, Nat.zero_add, ← hcsl, h2] at h1
        refine ⟨_, rfl, own_rowB (by rw [Nat.zero_add, ← hcsl]; exact h1) ?_ hilm hroom hcm hbw, (kp_setCells _ _ _).mono (fun k _ e => by subst e; rfl)⟩
        rw [hins, ← hcsl, List.take_length, List.drop_length, show cs.length + 1 = (cs ++ [encStr x]).length by simp, List.take_left' rfl]
    · have hcn : c = l.length := by omega
      have hcap1 := grownCap_ge w (l.length + 1) c strT
      have hcap2 := grownCap_le_maxLen w (l.length + 1) c strT (by unfold maxLen; omega)
      rcases Nat.lt_or_ge i l.length with hlt | hge
      · have hti : (cs.take i).length = i := by rw [List.length_take]; omega
        refine (Any2.slices_Insert_string_grow Tryz.laysX22 b 0 l.length c i vb 0 1 1 cs [encStr x] w hlt (by decide) hnc (by omega) (by omega) hcsl rfl hcs hvs (by rw [← hcsd]; exact enc_one l) h1v).mono ?_
        rintro e w' ⟨rfl, rfl⟩
        rw [show Tryz.laysX22_ren.t 9 = strT from rfl]
        have hz1 : (Builtin.zeroCells (Value.string ⟨#[]⟩).cells (l.length + 1 - i)).toList.length = l.length + 1 - i := by simp [Builtin.zeroCells, Value.cells]
        have hz2 : (Builtin.zeroCells (Value.string ⟨#[]⟩).cells (grownCap w (l.length + 1) c strT - (l.length + 1))).toList.length = grownCap w (l.length + 1) c strT - (l.length + 1) := by simp [Builtin.zeroCells, Value.cells]
        generalize Builtin.zeroCells (Value.string ⟨#[]⟩).cells (l.length + 1 - i) = A1 at hz1 ⊢
        generalize Builtin.zeroCells (Value.string ⟨#[]⟩).cells (grownCap w (l.length + 1) c strT - (l.length + 1)) = A2 at hz2 ⊢
        obtain ⟨z, Z, hZ⟩ : ∃ z Z, A1.toList = z :: Z := by
          cases hA : A1.toList with
          | nil => rw [hA] at hz1; simp only [List.length_nil] at hz1; omega
          | cons z Z => exact ⟨z, Z, rfl⟩
        have hZl : Z.length = (cs.drop i).length := by rw [hZ] at hz1; rw [List.length_drop]; simp only [List.length_cons] at hz1; omega
        have hk0 : Kp (fun k => (Value.slice (some ⟨b, 0, none⟩) l.length c).ownBlock = some k) w w := Kp.refl _ _
        have hb0 := rowB_drew (rowB_all (heap_alloc_new w (.cells ((cs.take i).toArray ++ A1 ++ A2) strT)) (c := grownCap w (l.length + 1) c strT) (by
          simp only [Array.size_append, List.size_toArray, hti]
          have a1 : A1.size = l.length + 1 - i := by simpa using hz1
          have a2 : A2.size = grownCap w (l.length + 1) c strT - (l.length + 1) := by simpa using hz2
          omega))
        have hlist : ((cs.take i).toArray ++ A1 ++ A2).toList = cs.take i ++ [z] ++ (Z ++ A2.toList) := by
          rw [Array.toList_append, Array.toList_append, hZ]
          simp
        rw [hlist] at hb0
        have h1 := RowB.setCells [encStr x] i hb0
        have h2 := setMs_mid [encStr x] (cs.take i) [z] (Z ++ A2.toList) rfl
        rw [hti] at h2
        rw [h2] at h1
        have h3 := RowB.setCells (cs.drop i) (i + 1) (rowB_drew h1)
        have h4 := setMs_mid (cs.drop i) (cs.take i ++ [encStr x]) Z A2.toList hZl.symm
        rw [List.length_append, hti] at h4
        simp only [List.length_cons, List.length_nil, Nat.zero_add] at h4
        rw [show cs.take i ++ [encStr x] ++ (Z ++ A2.toList) = cs.take i ++ [encStr x] ++ Z ++ A2.toList by simp, h4] at h3
        refine ⟨_, rfl, own_rowB h3 ?_ hilm hcap1 hcap2 hb, ?_⟩
        · rw [hins]
          have hn1 : l.length + 1 = (cs.take i ++ [encStr x] ++ cs.drop i).length := by
            rw [List.length_append, List.length_append, hti, List.length_drop]
            simp; omega
          rw [hn1, List.take_left' rfl]
          simp
        · have k1 := ((((Kp.refl (fun k => k = w.heap.size) w).alloc (.cells ((cs.take i).toArray ++ A1 ++ A2) strT)).drew.trans (kp_setCells [encStr x] _ i)).drew).trans (kp_setCells (cs.drop i) _ (i + 1))
          exact k1.mono (fun k hk e => by omega)
      · obtain rfl : i = l.length := by omega
        refine (Any2.slices_Insert_string_end_grow Tryz.laysX22 (some ⟨b, 0, none⟩) l.length c vb 0 1 1 cs [encStr x] w (by decide) hnc (by omega) (by omega) hcsl rfl (fun h => by cases h) (fun a ha j y hy => ?_) hvs h1v).mono ?_
        · simp only [Option.some.injEq] at ha
          subst ha
          have e : (⟨b, 0, none⟩ : Addr).add j = ⟨b, 0 + j, none⟩ := by cases j <;> rfl
          rw [e]
          exact hcs j y hy
        rintro e w' ⟨rfl, rfl⟩
        refine ⟨_, rfl, own_rowB (rowB_all (heap_alloc_new w.drew _) (c := grownCap w (l.length + 1) c strT) ?_) ?_ hilm hcap1 hcap2 hb, ((Kp.refl _ w).drew).alloc _⟩
        · simp only [Array.size_append, List.size_toArray, size_zeroCells, List.length_append, List.length_singleton, hcsl]
          show l.length + 1 + (grownCap w (l.length + 1) c strT - (l.length + 1)) * 1 = grownCap w (l.length + 1) c strT
          omega
        · rw [hins, ← hcsl, List.take_length, List.drop_length, Array.toList_append, show cs.length + 1 = (cs ++ [encStr x]).length by simp]
          exact List.take_left' rfl
/-- One name taken out. -/
def delN (l : List Bs) (i : Nat) : List Bs := l.take i ++ l.drop (i + 1)
theorem delN_len {l : List Bs} {i : Nat} (hi : i < l.length) : (delN l i).length = l.length - 1 := by
  unfold delN
  rw [List.length_append, List.length_take, List.length_drop]
  omega
theorem strsOf_self (l : List Bs) : Lib.strsOf (fun j => ⟨(l.getD j []).toArray⟩) l.length = l := by
  apply List.ext_getElem
  · simp [Lib.strsOf]
  · intro j h1 h2
    simp [Lib.strsOf, List.getD, List.getElem?_eq_getElem h2]
theorem delete_any (v : Value) (l : List Bs) (i : Nat) (base : Nat) (w : World) (h : w.ownsRow base strT 1 v l.length (l.map encStr)) (hi : i < l.length) :
    Calls Tryz.prog 190 #[v, .int .i64 i, .int .i64 ((i + 1 : Nat) : Int)] w fun e w' => ∃ v', e = .returned v' ∧ w'.ownsRow base strT 1 v' (l.length - 1) ((delN l i).map encStr) ∧ Kp (fun k => v.ownBlock = some k) w w' := by
  obtain ⟨_, ⟨rfl, h0⟩ | ⟨b, c, cur, rfl, hbb, hg, hnc, hcm, hsz, htk⟩⟩ := h
  · omega
  · rw [Nat.mul_one] at hsz htk
    have hall := rowB_all hg (show cur.size = c by omega)
    have hcl2 : cur.toList.length = c := by simp; omega
    have hspl : cur.toList = l.map encStr ++ cur.toList.drop l.length := by
      conv => lhs; rw [← List.take_append_drop l.length cur.toList]
      rw [htk]
    refine (Tryz.slices_Delete_string_cells b 0 l.length c i (i + 1) (fun j => ⟨(l.getD j []).toArray⟩) w hnc (by unfold maxLen at hcm; omega) (by omega) (by omega) (fun j hj => ?_) (fun j _ => hall.free _)).mono ?_
    · rw [hall.cell (i := 0 + j) (v := encStr l[j]) (by rw [hspl, Nat.zero_add, List.getElem?_append_left (by simpa using hj), List.getElem?_map, List.getElem?_eq_getElem hj]; rfl)]
      simp [List.getD, List.getElem?_eq_getElem hj]
    rintro e w' ⟨rfl, q, rfl⟩
    rw [strsOf_self]
    have hdl : (delN l i ++ List.replicate (i + 1 - i) ([] : Bs)).length = l.length := by
      rw [List.length_append, delN_len hi, List.length_replicate]
      omega
    have h1 := RowB.setCells ((delN l i ++ List.replicate (i + 1 - i) ([] : Bs)).map encStr) 0 (show RowB (w.drewN q) b strT 1 c cur.toList from hall)
    have h2 := setMs_mid ((delN l i ++ List.replicate (i + 1 - i) ([] : Bs)).map encStr) [] (l.map encStr) (cur.toList.drop l.length) (by rw [List.length_map, List.length_map, hdl])
    rw [List.nil_append, List.nil_append, List.length_nil, ← hspl] at h2
    rw [h2] at h1
    refine ⟨_, rfl, ?_, (((Kp.refl (fun k => k = b) w).drewN q).trans (kp_setCells _ _ _)).mono (fun k _ e => by subst e; rfl)⟩
    rw [show l.length - (i + 1 - i) = l.length - 1 by omega]
    refine own_rowB h1 ?_ (by rw [List.length_map, delN_len hi]) (by omega) hcm hbb
    have : l.length - 1 = ((delN l i).map encStr).length := by rw [List.length_map, delN_len hi]
    rw [List.map_append, List.append_assoc, this, List.take_left' rfl]
theorem cloneS_any (v : Value) (l : List Bs) (w : World) (h : NmS w v l) (hl : l.length ≤ 1000000) :
    Calls Tryz.prog 110 #[v] w fun e w' => ∃ v', e = .returned v' ∧ w'.ownsRow w.heap.size strT 1 v' l.length (l.map encStr) ∧ Ext w w' := by
  obtain ⟨a, c, rfl, hcc, hm, _, hop⟩ := Sl.open h.1
  by_cases h0 : l = []
  · subst h0
    cases a with
    | none =>
      refine (Tryz.slices_Clone_string_nil 0 c w).mono ?_
      rintro e w' ⟨rfl, rfl⟩
      exact ⟨_, rfl, ⟨rfl, .inl ⟨rfl, rfl⟩⟩, Kp.refl _ _⟩
    | some a =>
      refine (Tryz.slices_Clone_string_zero a c w).mono ?_
      rintro e w' ⟨v', rfl, ho, _, hb⟩
      exact ⟨_, rfl, ho, Kp.of_below hb⟩
  · have hpos : 0 < l.length := List.length_pos_iff.2 h0
    obtain ⟨b, off, rfl, _, hc⟩ := hop hpos
    refine (Tryz.slices_Clone_string b off l.length c (l.map fun x => (⟨x.toArray⟩ : ByteArray)) w (by simp) (by omega) (fun j hj => ?_)).mono ?_
    · rw [List.length_map] at hj
      have := hc j (encStr l[j]) (by rw [List.getElem?_map, List.getElem?_eq_getElem hj]; rfl)
      rw [this]
      simp [List.getD, List.getElem?_eq_getElem hj]
    rintro e w' ⟨v', rfl, ho, _, hb⟩
    refine ⟨_, rfl, ?_, Kp.of_below hb⟩
    rw [List.take_of_length_le (by simp), List.map_map] at ho
    exact ho
end Go.Proofs.YtdagikbdpeblhaaGreatDoor

/- Regions that draw their order, whose operations read and whose calls turn nothing old: one walk in the order of the text. No program. -/
namespace Av
set_option maxRecDepth 100000
open Go Go.RowKit
/-- The kit's walk in the order of the text, behind a wall (whoever lays the goal open step by step must not lay all of it open). -/
structure WpQ (P : Program) (ops : Array Oper) (C : World → Prop) (Q : Act → Prop) (l : List Oper) (a : Act) : Prop where
  out : wpQuiet P ops C Q l a
section
variable {P : Program} {ops : Array Oper} {C : World → Prop} {Q : Act → Prop} {a : Act} {o : Oper} {rest : List Oper}
end
end Av
