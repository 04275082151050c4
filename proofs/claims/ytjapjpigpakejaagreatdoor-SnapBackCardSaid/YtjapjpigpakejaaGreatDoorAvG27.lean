/- Texts put together: AvCut, AvDagApp, AvWSnapP. -/
import Derived.Test.YtjapjpigpakejaaGreatDoorAvG2
import Derived.Test.YtjapjpigpakejaaGreatDoorAvHDag
import Derived.Test.YtjapjpigpakejaaGreatDoorAvG26

/- A piece of a slice. No program. -/
namespace Av
set_option maxRecDepth 100000
open Go Go.RowKit
/-- The address of a piece that begins at element i (m cells on), as the model has it. -/
def cutAd (a : Option Addr) (c i m : Nat) : Option Addr := if c = i then a else Option.map (fun x => x.add m) a
theorem cut_fold (a : Option Addr) (c i m : Nat) : (if c = i then a else Option.map (fun x => x.add m) a) = cutAd a c i m := rfl
theorem Sl.cut {w : World} {k n c : Nat} {a : Option Addr} {xs : List Value} (h : Sl w k (.slice a n c) n xs) (i j m : Nat) (hm : m = i * k) (hij : i ≤ j) (hj : j ≤ n) :
    Sl w k (.slice (cutAd a c i m) (j - i) (c - i)) (j - i) ((xs.drop m).take ((j - i) * k)) := by
  obtain ⟨a', c', e, hcc, h2, h1, h3⟩ := Sl.open h
  simp only [Value.slice.injEq, true_and] at e
  obtain ⟨rfl, rfl⟩ := e
  have hmk : (j - i) * k + m ≤ n * k := by rw [hm, ← Nat.add_mul]; exact Nat.mul_le_mul_right k (by omega)
  have hl : ((xs.drop m).take ((j - i) * k)).length = (j - i) * k := by rw [List.length_take, List.length_drop]; omega
  refine ⟨hl, by omega, _, _, rfl, by omega, ?_⟩
  by_cases h0 : j - i = 0
  · exact .inl h0
  · right
    obtain ⟨b, off, rfl, hb, hc⟩ := h3 (by omega)
    refine ⟨b, off + m, ?_, hb, fun t x hx => ?_⟩
    · unfold cutAd
      rw [if_neg (by omega)]
      simp only [Option.map_some, Option.some.injEq]
      by_cases hm0 : m = 0 <;> simp [Addr.add, hm0]
    · rw [List.getElem?_take] at hx
      split at hx
      · rw [List.getElem?_drop] at hx
        rw [Nat.add_assoc]
        exact hc (m + t) x hx
      · cases hx
theorem Shp.cut {a : Option Addr} {n c i j m : Nat} (h : Shp (.slice a n c)) (hij : i ≤ j) (hj : j ≤ n) : Shp (.slice (cutAd a c i m) (j - i) (c - i)) := by
  rcases h with h | ⟨ad, l, c', h⟩
  · simp only [Value.slice.injEq] at h
    obtain ⟨rfl, rfl, rfl⟩ := h
    left
    have : i = 0 := by omega
    have : j = 0 := by omega
    subst i j
    rfl
  · simp only [Value.slice.injEq] at h
    obtain ⟨rfl, rfl, rfl⟩ := h
    right
    unfold cutAd
    split
    · exact ⟨_, _, _, rfl⟩
    · exact ⟨_, _, _, rfl⟩
theorem cut_own {a : Option Addr} {n c i j m b : Nat} (h : (Value.slice (cutAd a c i m) (j - i) (c - i)).ownBlock = some b) : (Value.slice a n c).ownBlock = some b := by
  cases a with
  | none => unfold cutAd at h; split at h <;> simp [Value.ownBlock] at h
  | some ad =>
    unfold cutAd at h
    split at h
    · simpa [Value.ownBlock] using h
    · simp only [Option.map_some, Value.ownBlock] at h ⊢
      have : (ad.add m).block = ad.block := by simp [Addr.add]; split <;> rfl
      simpa [this] using h
theorem BytesR.cut {w : World} {a : Option Addr} {c : Nat} {bs : List UInt8} (h : BytesR w (.slice a bs.length c) bs) (i j : Nat) (hij : i ≤ j) (hj : j ≤ bs.length) :
    BytesR w (.slice (cutAd a c i i) (j - i) (c - i)) ((bs.drop i).take (j - i)) := by
  have hl : ((bs.drop i).take (j - i)).length = j - i := by rw [List.length_take, List.length_drop]; omega
  refine ⟨?_, h.2.cut hij hj⟩
  rw [hl]
  have := h.1.cut i j i (by omega) hij hj
  rwa [Nat.mul_one, ← List.map_drop, ← List.map_take] at this
end Av

/- Appends in a region that draws its order. No program. -/
namespace Av
set_option maxRecDepth 100000
open Go Go.RowKit
/-- A slice literal of nothing. -/
def Fresh0 (base : Nat) (e : TypeId) (k : Nat) (v : Value) (w : World) : Prop := w.ownsRow base e k v 0 [] ∧ ∃ g, v = .slice (some ⟨g, 0, none⟩) 0 0 ∧ w.heap[g]? = some (.cells #[] e (0, 0))
theorem Fresh0.ext {base k : Nat} {e : TypeId} {v : Value} {w w' : World} (h : Fresh0 base e k v w) (x : Ext w w') : Fresh0 base e k v w' := by
  obtain ⟨h1, g, rfl, h2⟩ := h
  exact ⟨ownsRow.ext h1 x, g, rfl, x.obj h2 (fun f => f)⟩
theorem Fresh0.new {base k : Nat} {e : TypeId} {w : World} (hb : base ≤ w.heap.size) : Fresh0 base e k (.slice (some ⟨w.heap.size, 0, none⟩) 0 0) (w.alloc (.cells #[] e)) := by
  refine ⟨⟨by simp, .inr ⟨w.heap.size, 0, #[], rfl, hb, ?_, Nat.le_refl _, Nat.zero_le _, by simp, by simp⟩⟩, w.heap.size, rfl, heap_alloc_new w _⟩
  exact heap_alloc_new w _
/-- A slice literal of m elements. -/
def BoxL (base : Nat) (e : TypeId) (m : Nat) (ys : List Value) (u : Value) (w : World) : Prop := ∃ g, base ≤ g ∧ u = .slice (some ⟨g, 0, none⟩) m m ∧ w.heap[g]? = some (.cells ys.toArray e (0, 0))
theorem BoxL.ext {base m : Nat} {e : TypeId} {ys : List Value} {u : Value} {w w' : World} (h : BoxL base e m ys u w) (x : Ext w w') : BoxL base e m ys u w' := by
  obtain ⟨g, h1, rfl, h2⟩ := h
  exact ⟨g, h1, rfl, x.obj h2 (fun f => f)⟩
theorem BoxL.new {base m : Nat} {e : TypeId} {ys : List Value} {w : World} (hb : base ≤ w.heap.size) : BoxL base e m ys (.slice (some ⟨w.heap.size, 0, none⟩) m m) (w.alloc (.cells ys.toArray e)) :=
  ⟨w.heap.size, hb, rfl, heap_alloc_new w _⟩
theorem BoxL.sl {base m k : Nat} {e : TypeId} {ys : List Value} {u : Value} {w : World} (h : BoxL base e m ys u w) (hl : ys.length = m * k) (hm : m ≤ maxLen) : Sl w k u m ys ∧ Shp u := by
  obtain ⟨g, h1, rfl, h2⟩ := h
  exact ⟨Sl.of_block h2 hl hm (Nat.le_refl _), Shp.some⟩
/-- What is written behind an empty literal leaves a literal of some element alone. -/
theorem BoxL.kp0 {base base' m k : Nat} {e e' : TypeId} {ys : List Value} {u v : Value} {w w' : World} (h : BoxL base e m ys u w) (hy : ys ≠ []) (hv : Fresh0 base' e' k v w) (x : Kp (fun i => v.ownBlock = some i) w w') : BoxL base e m ys u w' := by
  obtain ⟨g, h1, rfl, h2⟩ := h
  obtain ⟨_, g', rfl, h3⟩ := hv
  refine ⟨g, h1, rfl, x.obj h2 (fun e => ?_)⟩
  simp [Value.ownBlock] at e
  subst e
  rw [h2] at h3
  simp only [Option.some.injEq, Obj.cells.injEq] at h3
  exact hy (by have := congrArg Array.toList h3.1; simpa using this)
theorem Fresh0.keep {base base' k k' n : Nat} {e e' : TypeId} {u v : Value} {xs : List Value} {w w' : World} (h : Fresh0 base e k u w) (hv : w.ownsRow base' e' k' v n xs) (hn : 0 < n) (hk : 0 < k') (x : Kp (fun i => v.ownBlock = some i) w w') : Fresh0 base e k u w' := by
  obtain ⟨h1, g, rfl, h2⟩ := h
  have key : ¬ v.ownBlock = some g := by
    intro e1
    rcases hv.2 with ⟨rfl, _⟩ | ⟨g', cap, cur, rfl, _, hg, h3, _, h4, _⟩
    · simp [Value.ownBlock] at e1
    · simp [Value.ownBlock] at e1
      subst e1
      rw [h2] at hg
      simp only [Option.some.injEq, Obj.cells.injEq] at hg
      rw [← hg.1] at h4
      have : 0 < cap * k' := Nat.mul_pos (by omega) hk
      simp at h4
      omega
  refine ⟨ownsRow.kp h1 x (fun b hb e1 => ?_), g, rfl, x.obj h2 key⟩
  simp [Value.ownBlock] at hb
  subst hb
  exact key e1
theorem owns_kp0 {base base' k k' n : Nat} {e e' : TypeId} {u v : Value} {xs : List Value} {w w' : World} (h : w.ownsRow base e k u n xs) (hn : 0 < n) (hk : 0 < k) (hv : Fresh0 base' e' k' v w) (x : Kp (fun i => v.ownBlock = some i) w w') : w'.ownsRow base e k u n xs := by
  refine ownsRow.kp h x (fun b hb e1 => ?_)
  obtain ⟨_, g, rfl, h2⟩ := hv
  simp [Value.ownBlock] at e1
  subst e1
  rcases h.2 with ⟨rfl, _⟩ | ⟨g', cap, cur, rfl, _, hg, h3, _, h4, _⟩
  · simp [Value.ownBlock] at hb
  · simp [Value.ownBlock] at hb
    subst hb
    rw [h2] at hg
    simp only [Option.some.injEq, Obj.cells.injEq] at hg
    rw [← hg.1] at h4
    have : 0 < cap * k := Nat.mul_pos (by omega) hk
    simp at h4
    omega
/-- The blocks that are made on the way. -/
theorem Kp.over {base : Nat} {v : Value} {w w' : World} (x : Kp (fun i => v.ownBlock = some i) w w') (h : ∀ i, v.ownBlock = some i → base ≤ i) : Kp (fun i => base ≤ i) w w' := x.mono (fun i _ hi => h i hi)
theorem owns_base {w : World} {base k n : Nat} {e : TypeId} {v : Value} {xs : List Value} (h : w.ownsRow base e k v n xs) : ∀ b, v.ownBlock = some b → base ≤ b := by
  obtain ⟨_, h2⟩ := h
  rcases h2 with ⟨rfl, _⟩ | ⟨g, cap, cur, rfl, hb, hg, _⟩
  · intro b hb; simp [Value.ownBlock] at hb
  · intro b hb'
    simp [Value.ownBlock] at hb'
    subst hb'
    exact hb
theorem dUpon_app {P : Program} {o : Oper} {a : Act} {w : World} {K : Value → World → Prop} {d : Tmp} (hd : o.dst = .some d) (hlt : decide (d < a.tmps.size) = true) (t e : TypeId) (k : Nat) (hk : 0 < k) (hfacts : ElemOk P t e k)
    (hgd : o.guard = none) (s x : Operand) (ho : o.op = .call { callee := .builtin .append, args := #[s, x], argTypes := #[t, t] })
    (base : Nat) (v : Value) (n : Nat) (xs : List Value) (hs : a.eval s = v) (hown : w.ownsRow base e k v n xs)
    (u : Value) (m : Nat) (ys : List Value) (hx : a.eval x = u) (hu : Sl w k u m ys) (hsh : Shp u) (hone : ∀ y ∈ ys, y.oneCell' = true) (hn : n + m ≤ 100000000000) (hbase : base ≤ w.heap.size)
    (h : ∀ v' w', w'.ownsRow base e k v' (n + m) (xs ++ ys) → Kp (fun k => v.ownBlock = some k) w w' → K v' w') : DUpon P K ((execOp a.eval o).run P w) :=
  DUpon.of_list (ops := #[]) hd (of_decide_eq_true hlt) hgd
    (wpList_appK t e k hk hfacts hgd s x ho base v n xs hs hown u m ys hx hu hsh hone hn hbase (fun v' w' h1 h2 => ⟨rfl, v', rfl, h v' w' h1 h2⟩))
end Av

/- Walks: a tree in bytes: snap.Put. -/
namespace Go.Proofs.YtjapjpigpakejaaGreatDoor
set_option maxRecDepth 100000
open Go.RowKit Av

/-- What a tree must be to be put into bytes. -/
structure OkT (t : Pt) : Prop where
  good : ∀ p n, mget t p = some n → goodL p.data.toList = true
  parts : AllN PartsOk t
  size : t.length ≤ 500
theorem okT_of {room : Int} {t : Pt} (h : SoundP room t) (hp : AllN PartsOk t) (hr : room ≤ 500) : OkT t := ⟨h.good, hp, by have := h.size; omega⟩
theorem tsPathsO {w0 w : World} {b m : Nat} {room : Int} {K : Nat} {t : Tr} (h : TS w0 w b m room K t) (hs : OkT (pl t)) :
    Calls Tryz.prog 13 #[.pointer (some ⟨b, 0, none⟩)] w fun e w' => PathsPost w (pathsP (pl t)) e w' := by
  refine treePaths_any w0.heap.size b m room t w h.tr (fun e he => ?_) ?_
  · have h1 : mget (pl t) e.1 = some e.2.2 := by
      rw [pl_get, mget_of_mem h.tr.keys (k := e.1) he]; rfl
    have := path_small e.1 (hs.good _ _ h1)
    unfold maxLen
    omega
  · have := hs.size
    rw [pl_len] at this
    omega
theorem encN_len {n : NodeV} (hd : n.data.size ≤ 1000) (hs : ∀ x ∈ n.names, x.length ≤ 40) (hl : n.names.length ≤ 500) : (encN n).length ≤ 30000 := by
  have h1 := txts_len (K := 40) hs
  have h2 : n.names.length * (8 + 40) ≤ 500 * 48 := Nat.mul_le_mul hl (by omega)
  unfold encN
  simp only [List.length_append, be8_len, txt_size, ← Lib.size_eq]
  omega
theorem encE_len {e : ByteArray × NodeV} (hp : e.1.size ≤ 200) (hd : e.2.data.size ≤ 1000) (hs : ∀ x ∈ e.2.names, x.length ≤ 40) (hl : e.2.names.length ≤ 500) : (encE e).length ≤ 31000 := by
  have := encN_len hd hs hl
  unfold encE
  rw [List.length_append, txt_size, ← Lib.size_eq]
  omega
theorem encEs_len : ∀ {L : RL}, (∀ e ∈ L, (encE e).length ≤ 31000) → (L.flatMap encE).length ≤ L.length * 31000
  | [], _ => by simp
  | a :: L, h => by
    have h1 := encEs_len (L := L) (fun e he => h e (by simp [he]))
    have h2 := h a (by simp)
    rw [List.flatMap_cons, List.length_append, List.length_cons, Nat.succ_mul]
    omega
theorem own_app {w : World} {base : Nat} {v : Value} {ps bs : Bs} (h : w.ownsRow base 5 1 v (ps.length + bs.length) (ps.map byteV ++ bs.map byteV)) : OwnBy w base v (ps ++ bs) := by
  unfold OwnBy
  rw [List.length_append, List.map_append]
  exact h
def SPutRel (w : World) (base : Nat) (pre : Bs) (R : RL) (o i : Value) (wr : World) : Prop :=
  ∃ k : Nat, k ≤ R.length ∧ i = .int .i64 k ∧ OwnBy wr base o (pre ++ (R.take k).flatMap encE) ∧ Ext w wr
set_option maxHeartbeats 6400000 in
theorem snapPut_any {w0 w : World} {b m : Nat} {room : Int} {K : Nat} {t : Tr} (h : TS w0 w b m room K t) (hs : OkT (pl t)) (hK : K ≤ 500) :
    Calls Tryz.prog 34 #[.pointer (some ⟨b, 0, none⟩)] w fun e w' => ∃ v, e = .returned v ∧ OwnBy w' w.heap.size v (encL (ownL (pl t))) ∧ Ext w w' := by
  have HP := Lib.hid (tsPathsO h hs)
  have HT := Lib.hid h
  have HM : Hid (∀ x ∈ pathsP (pl t), ∃ n, mget (pl t) ⟨x.toArray⟩ = some n) := fun x hx => Option.ne_none_iff_exists'.1 (paths_mem.1 hx)
  have HOWN : Hid (ownL (pl t) = (pathsP (pl t)).map (entOf (pl t))) := rfl
  have HEL : Hid (∀ e ∈ ownL (pl t), (encE e).length ≤ 31000) := fun e he => by
    have h1 := mget_of_mem (rise_nodup (own_sorted h.pk.1).rise) (k := e.1) he
    rw [(own_sorted h.pk.1).get] at h1
    have h2 := hs.parts _ _ h1
    exact encE_len (path_small _ (hs.good _ _ h1)) h2.2.2.1 (fun x hx => name_len (h2.2.2.2 x hx)) (Nat.le_trans (h.pk.2 _ (mget_mem h1)).few hK)
  have HND : Hid (∀ p n, mget (pl t) p = some n → n.data.size ≤ 100000 ∧ n.names.length ≤ 1000 ∧ (∀ s ∈ n.names, s.length ≤ 1000) ∧ p.size ≤ 10000000 ∧ (encN n).length ≤ 30000 ∧ p.size ≤ 200) := fun p n h1 => by
    have h2 := hs.parts _ _ h1
    have h3 : n.names.length ≤ K := (h.pk.2 _ (mget_mem h1)).few
    have h4 := path_small _ (hs.good _ _ h1)
    exact ⟨by have := h2.2.2.1; omega, by omega, fun s hs => by have := name_len (h2.2.2.2 s hs); omega, by omega, encN_len h2.2.2.1 (fun x hx => name_len (h2.2.2.2 x hx)) (by omega), h4⟩
  have hL : (pathsP (pl t)).length ≤ 500 := by
    have h1 := hs.size
    rw [pathsP_len]
    omega
  have HENC : Hid (encL (ownL (pl t)) = be8 ((pathsP (pl t)).length : Int) ++ (ownL (pl t)).flatMap encE) := by
    show _ = _
    unfold encL
    rw [own_len, pathsP_len]
  generalize encL (ownL (pl t)) = E at HENC ⊢
  generalize ownL (pl t) = R at HOWN HEL HENC
  generalize pathsP (pl t) = L at HOWN HM HP hL HENC
  have hRL : R.length = L.length := by rw [HOWN.out, List.length_map]
  clear h hs
  go_enter Tryz.func34, Tryz.ntmps34
  go_wp2_with (fail)
  refine HP.out.mono ?_
  rintro e wS ⟨vS, rfl, hoS, hxS⟩
  obtain ⟨aS, cS, hslS, hopS⟩ := strs_open hoS
  subst hslS
  have HOP := Lib.hid hopS
  have HXS := Lib.hid hxS
  clear hopS hoS hxS HP
  go_wp2_with (fail)
  refine (packI64_any (.slice none 0 0) [] (L.length : Int) wS (BytesR.nil _) (by simp)).mono ?_
  rintro e w1 ⟨v1, rfl, h1, hx1⟩
  rw [List.nil_append] at h1
  have HO1 : Hid (OwnBy w1 w.heap.size v1 (be8 (L.length : Int) ++ (R.take 0).flatMap encE)) := by
    have := h1.low HXS.out.size
    show OwnBy _ _ _ _
    simpa using this
  have HX1 := Lib.hid (HXS.out.trans hx1)
  have HSL : Hid (∀ W, Ext w1 W → 0 < L.length → ∃ g off, aS = some ⟨g, off, none⟩ ∧ ∀ k (hk : k < L.length), W.cell? ⟨g, off + k, none⟩ = some (encStr L[k])) := fun W hW h0 => by
    obtain ⟨g, off, e, hc⟩ := HOP.out h0
    exact ⟨g, off, e, fun k hk => (hx1.trans hW).cell (hc k hk) (fun f => f)⟩
  clear h1 hx1 HOP
  go_wp2_with (fail)
  go_loopw [4, 16] (fun o i wr => SPutRel w1 w.heap.size (be8 (L.length : Int)) R o i wr) (fun _ i _ => L.length - (intOf i).toNat)
  case atStart => exact ⟨0, Nat.zero_le _, rfl, HO1.out, Kp.refl _ _⟩
  case round =>
    clear HO1
    obtain ⟨k, hk, rfl, hown, hx⟩ := hrel
    have hlen : (be8 (L.length : Int) ++ (R.take k).flatMap encE).length ≤ 20000000 := by
      have h1 := encEs_len (L := R.take k) (fun e he => HEL.out e (List.mem_of_mem_take he))
      have h2 : (R.take k).length * 31000 ≤ 500 * 31000 := Nat.mul_le_mul (by rw [List.length_take]; omega) (Nat.le_refl _)
      rw [List.length_append, be8_len]
      omega
    have HX := Lib.hid hx
    have HO := Lib.hid hown
    have hge := OwnBy.ge hown
    clear hx hown
    by_cases hlt : k < L.length
    · obtain ⟨gS, oS, rfl, hcl⟩ := HSL.out wr HX.out (by omega)
      have hc := hcl k hlt
      obtain ⟨n, hn⟩ := HM.out L[k] (List.getElem_mem hlt)
      have hRk : R[k]'(by omega) = entOf (pl t) L[k] := by simp [HOWN.out]
      obtain ⟨x, hx⟩ : ∃ x, L[k] = x := ⟨_, rfl⟩
      rw [hx] at hc hn hRk
      obtain ⟨p, hp⟩ : ∃ p : ByteArray, ⟨x.toArray⟩ = p := ⟨_, rfl⟩
      have hEO : entOf (pl t) x = (p, n) := by unfold entOf nodeP; rw [hn, hp]
      unfold encStr at hc
      rw [hp] at hc hn
      have HNX : Hid (be8 (L.length : Int) ++ (R.take (k + 1)).flatMap encE = be8 (L.length : Int) ++ (R.take k).flatMap encE ++ txt p.data.toList ++ encN n) := by
        show _ = _
        rw [List.take_succ_eq_append_getElem (by omega), List.flatMap_append, List.flatMap_singleton, hRk, hEO]
        unfold encE
        simp only [List.append_assoc]
      obtain ⟨cur, hcur⟩ : ∃ cur, be8 (L.length : Int) ++ (R.take k).flatMap encE = cur := ⟨_, rfl⟩
      rw [hcur] at HNX hlen HO
      obtain ⟨q1, q2, q3, q4, q5, q6⟩ := HND.out p n hn
      have HQ := Lib.hid (And.intro q5 q6)
      have hnode : nodeP (pl t) p = (n, true) := by unfold nodeP; rw [hn]
      have HN := Lib.hid (by have := tsNode (HT.out.ext (HX1.out.trans HX.out)) (by omega) p; rw [hnode] at this; exact this)
      clear hnode hcl hn hx hp hEO hRk hcur
      go_wp2_with (fail)
      refine HN.out.mono ?_
      rintro e w6 ⟨nv6, rfl, ho6, ht6, hx6⟩
      obtain ⟨a6, c6, rfl⟩ := owns_slice ho6
      obtain ⟨wC, hWC⟩ : ∃ wC, w6.alloc (.cells #[.int .i64 n.made, .int .i64 n.chg, .int .i64 n.ver, .int .i64 n.kids, .int .i64 n.own, .int .i64 n.len, .int .i64 n.cnt, .string n.data, .int .i64 n.next, .slice a6 n.names.length c6] ndT) = wC := ⟨_, rfl⟩
      have hxC : Ext w6 wC := by rw [← hWC]; exact (Kp.refl _ _).alloc _
      have hC : Blk wC w6.heap.size #[.int .i64 n.made, .int .i64 n.chg, .int .i64 n.ver, .int .i64 n.kids, .int .i64 n.own, .int .i64 n.len, .int .i64 n.cnt, .string n.data, .int .i64 n.next, .slice a6 n.names.length c6] ndT := by rw [← hWC]; exact heap_alloc_new w6 _
      have hrC : Ext wr wC := hx6.trans hxC
      have HOC := Lib.hid (HO.out.ext hrC)
      have HNM := Lib.hid (names_own (ownsRow.ext ho6 hxC))
      have HXC := Lib.hid (HX.out.trans hrC)
      have HOI : Hid (∀ i, (Value.slice a6 n.names.length c6).ownBlock = some i → i < wC.heap.size) := fun i hi => (own_in (ownsRow.ext ho6 hxC) hi).2
      have HBI : Hid (∀ v, OwnBy wC w.heap.size v cur → ∀ i, v.ownBlock = some i → i < wC.heap.size) := fun v hv i hi => (own_in hv hi).2
      have HCC := Lib.hid hC
      have HLC : Hid (w6.heap.size < wC.heap.size) := hC.lt
      have HWC := Lib.hid hWC
      have HTX : Hid (∀ wq, Kp (fun i => wC.heap.size ≤ i) wC wq → Calls Tryz.prog 63 #[u4, .string p] wq fun e w' => ∃ v, e = .returned v ∧ OwnBy w' wC.heap.size v (cur ++ txt p.data.toList) ∧ Ext wq w') := fun wq hq => by
        have h1 : OwnBy wq w.heap.size u4 cur := ownsRow.kp HOC.out hq (fun i hi hge => by have := HBI.out _ HOC.out i hi; omega)
        refine (packText_any u4 cur p wq h1.bytes (by omega) (by omega)).mono ?_
        rintro e w' ⟨v, rfl, h2, h3⟩
        exact ⟨v, rfl, h2.low hq.size, h3⟩
      have HSP : Hid (∀ wq, Kp (fun i => wC.heap.size ≤ i) wC wq → Calls Tryz.prog 64 #[.agg (ndA n (.slice a6 n.names.length c6))] wq fun e w' => ∃ v, e = .returned v ∧ OwnBy w' wC.heap.size v (encN n) ∧ Ext wq w') := fun wq hq => by
        have h1 : NmS wq (.slice a6 n.names.length c6) n.names := ⟨Sl.kp HNM.out.1 hq (fun i hi _ hge => by have := HOI.out i hi; omega), HNM.out.2⟩
        refine (statPut_any n _ wq h1 q1 q2 q3).mono ?_
        rintro e w' ⟨v, rfl, h2, h3⟩
        exact ⟨v, rfl, h2.low hq.size, h3⟩
      clear hWC hC hxC hrC ho6 ht6 hx6 HN hge
      unfold ndA
      unfold ndA at HSP
      go_upto_region 7 with (fail)
      rw [HWC.out]
      clear HWC hc
      have HLN : Hid ((cur ++ txt p.data.toList).length + (encN n).length ≤ 100000000000) := by
        show _ ≤ _
        have h1 := HQ.out.1
        have h2 := HQ.out.2
        rw [List.length_append, txt_size, ← Lib.size_eq]
        omega
      refine' wp_region_dagK 6 [(31, [28, 30], [])] ((26, .val _) :: (27, .val _) :: (28, ⟨fun _ => True, fun v w' => OwnBy w' wC.heap.size v (cur ++ txt p.data.toList)⟩) :: (29, .val _) :: (30, ⟨fun _ => True, fun v w' => OwnBy w' wC.heap.size v (encN n)⟩) :: (31, ⟨fun v => ∃ a l c, v = .slice a l c, fun v w' => OwnBy w' wC.heap.size v (cur ++ txt p.data.toList ++ encN n)⟩) :: []) (by exact ⟨fun _ _ _ _ _ => trivial, ⟨fun _ _ _ _ _ => trivial, ⟨fun _ _ _ hr hv => hv.ext hr, ⟨fun _ _ _ _ _ => trivial, ⟨fun _ _ _ hr hv => hv.ext hr, ⟨fun _ _ _ hr hv => hv.ext hr, trivial⟩⟩⟩⟩⟩⟩) (by kernel_rfl) (by kernel_rfl) (by kernel_rfl) ?_
      rotate_left 3
      simp only [List.take_succ_cons, List.take_zero]
      repeat (first
        | (refine wpD_skipv ?_ ?_ ?_
           focus rfl
           focus rfl
           simp only [Act.put, List.setIfInBounds_toArray, List.set_cons_succ, List.set_cons_zero])
        | (refine' wpD_val (c := _) ?_ (fun w => Kp.refl _ w) ?_ (fun wq hwq hfq => ?_) ?_
           rotate_left
           focus rfl
           focus rfl
           focus ((have hdn := HCC.out.kp hwq (Nat.not_le.2 HLC.out); have d0 := hdn.cell 0 _ rfl; have d1 := hdn.cell 1 _ rfl; have d2 := hdn.cell 2 _ rfl; have d3 := hdn.cell 3 _ rfl; have d4 := hdn.cell 4 _ rfl; have d5 := hdn.cell 5 _ rfl; have d6 := hdn.cell 6 _ rfl; have d7 := hdn.cell 7 _ rfl; have d8 := hdn.cell 8 _ rfl; have d9 := hdn.cell 9 _ rfl; clear hdn); go_simp; first | done | rfl)
           simp only [Act.put, List.setIfInBounds_toArray, List.set_cons_succ, List.set_cons_zero])
        | (refine' wpD_con (c := _) ?_ ?_ (fun wq hwq hfq => ?_) ?_
           rotate_left
           focus rfl
           focus rfl
           focus ((have hdn := HCC.out.kp hwq (Nat.not_le.2 HLC.out); have d0 := hdn.cell 0 _ rfl; have d1 := hdn.cell 1 _ rfl; have d2 := hdn.cell 2 _ rfl; have d3 := hdn.cell 3 _ rfl; have d4 := hdn.cell 4 _ rfl; have d5 := hdn.cell 5 _ rfl; have d6 := hdn.cell 6 _ rfl; have d7 := hdn.cell 7 _ rfl; have d8 := hdn.cell 8 _ rfl; have d9 := hdn.cell 9 _ rfl; clear hdn); go_simp; (try (rw [dUpon_enter])); fail)
           simp only [Act.put, List.setIfInBounds_toArray, List.set_cons_succ, List.set_cons_zero])
        | (refine wpD_made (A := fun _ => True) (V := fun v w' => OwnBy w' wC.heap.size v (cur ++ txt p.data.toList)) 28 ?_ ?_ ?_ ?_ (fun wq hwq hfq => ?_) (fun v28 h28 => ?_)
           focus rfl
           focus rfl
           focus (exact ⟨undef, trivial⟩)
           focus rfl
           focus ((have hdn := HCC.out.kp hwq (Nat.not_le.2 HLC.out); have d0 := hdn.cell 0 _ rfl; have d1 := hdn.cell 1 _ rfl; have d2 := hdn.cell 2 _ rfl; have d3 := hdn.cell 3 _ rfl; have d4 := hdn.cell 4 _ rfl; have d5 := hdn.cell 5 _ rfl; have d6 := hdn.cell 6 _ rfl; have d7 := hdn.cell 7 _ rfl; have d8 := hdn.cell 8 _ rfl; have d9 := hdn.cell 9 _ rfl; clear hdn); go_simp; (try (rw [dUpon_enter])); (with_reducible refine (HTX.out _ hwq).mono ?_); rintro e w' ⟨v, rfl, ho, hx⟩; exact DEnd.made trivial ho hx)
           clear h28
           simp only [Act.put, List.setIfInBounds_toArray, List.set_cons_succ, List.set_cons_zero])
        | (refine wpD_made (A := fun _ => True) (V := fun v w' => OwnBy w' wC.heap.size v (encN n)) 30 ?_ ?_ ?_ ?_ (fun wq hwq hfq => ?_) (fun v30 h30 => ?_)
           focus rfl
           focus rfl
           focus (exact ⟨undef, trivial⟩)
           focus rfl
           focus ((have hdn := HCC.out.kp hwq (Nat.not_le.2 HLC.out); have d0 := hdn.cell 0 _ rfl; have d1 := hdn.cell 1 _ rfl; have d2 := hdn.cell 2 _ rfl; have d3 := hdn.cell 3 _ rfl; have d4 := hdn.cell 4 _ rfl; have d5 := hdn.cell 5 _ rfl; have d6 := hdn.cell 6 _ rfl; have d7 := hdn.cell 7 _ rfl; have d8 := hdn.cell 8 _ rfl; have d9 := hdn.cell 9 _ rfl; clear hdn); go_simp; (try (rw [dUpon_enter])); (with_reducible refine (HSP.out _ hwq).mono ?_); rintro e w' ⟨v, rfl, ho, hx⟩; exact DEnd.made trivial ho hx)
           clear h30
           simp only [Act.put, List.setIfInBounds_toArray, List.set_cons_succ, List.set_cons_zero])
        | (refine wpD_used (A := fun v => ∃ a l c, v = .slice a l c) (V := fun v w' => OwnBy w' wC.heap.size v (cur ++ txt p.data.toList ++ encN n)) 31 ?_ ?_ ?_ ?_ (fun wq hwq hfq => ?_) (fun v31 h31 => ?_)
           focus rfl
           focus rfl
           focus (exact ⟨.slice none 0 0, _, _, _, rfl⟩)
           focus rfl
           focus ((have hdn := HCC.out.kp hwq (Nat.not_le.2 HLC.out); have d0 := hdn.cell 0 _ rfl; have d1 := hdn.cell 1 _ rfl; have d2 := hdn.cell 2 _ rfl; have d3 := hdn.cell 3 _ rfl; have d4 := hdn.cell 4 _ rfl; have d5 := hdn.cell 5 _ rfl; have d6 := hdn.cell 6 _ rfl; have d7 := hdn.cell 7 _ rfl; have d8 := hdn.cell 8 _ rfl; have d9 := hdn.cell 9 _ rfl; clear hdn); refine dUpon_app (d := 31) rfl (by kernel_rfl) 66 5 1 (by decide) byte_facts rfl _ _ rfl wC.heap.size v28 _ _ rfl (hfq 28 rfl) v30 _ _ rfl (OwnBy.bytes (hfq 30 rfl)).1 (OwnBy.bytes (hfq 30 rfl)).2 (byteV_one _) HLN.out hwq.size (fun v' w' h1 h2 => ⟨by obtain ⟨a, c, e, _⟩ := Sl.open (Sl.of_owns h1); exact ⟨_, _, _, e⟩, own_app h1, h2.over (owns_base (hfq 28 rfl)), ?_⟩); repeat (first | exact PresL.nil | (with_reducible refine PresL.val ?_) | (refine PresL.out rfl ?_)))
           obtain ⟨a31, l31, c31, rfl⟩ := h31
           simp only [Act.put, List.setIfInBounds_toArray, List.set_cons_succ, List.set_cons_zero])
        | fail)
      refine wpD_nil ?_
      intro w7 hr7 hend
      have h31 : OwnBy w7 wC.heap.size (.slice a31 l31 c31) (cur ++ txt p.data.toList ++ encN n) := hend 31 (by kernel_rfl)
      clear hend
      have hx7 : Ext w1 w7 := HXC.out.next hr7 (fun i hi hge => by have := HXC.out.size; omega)
      have h31' : OwnBy w7 w.heap.size (.slice a31 l31 c31) (be8 (L.length : Int) ++ (R.take (k + 1)).flatMap encE) := by
        rw [HNX.out]
        exact h31.low (HX1.out.trans HXC.out).size
      have HX7 := Lib.hid hx7
      have HO7 := Lib.hid h31'
      clear hr7 h31 hx7 h31' HTX HSP HOC HNM HXC HOI HBI HCC HLC HLN HNX HO
      go_wp2_with (fail)
      go_light
      refine ⟨⟨k + 1, ?_, ?_, HO7.out, HX7.out⟩, ?_⟩
      · omega
      · go_num
      · simp [intOf]; omega
    · have hke : R.take k = R := List.take_of_length_le (by omega)
      rw [hke] at HO
      go_wp2_with (fail)
      go_ret
      go_light
      exact ⟨_, rfl, by rw [HENC.out]; exact HO.out, HX1.out.trans HX.out⟩
end Go.Proofs.YtjapjpigpakejaaGreatDoor
