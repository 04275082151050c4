/- Texts put together: AvActs, AvOps, AvReqArg, AvArg. -/
import Derived.Test.YtjapjpigpakejaaGreatDoorAvG1
import Derived.Test.YtjapjpigpakejaaGreatDoorAvG4
import Derived.Test.YtjapjpigpakejaaGreatDoorAvG2

/- Slices of acts: three cells each. -/
namespace Go.Proofs.YtjapjpigpakejaaGreatDoor
set_option maxRecDepth 100000
open Go.ChangeShapes Go.WideShapes Go.ChangeAt Go.RowKit Av

/-- One act that came in: its kind, whose it is, the value of its slice, the strings therein. -/
structure ActV where
  op : Int
  who : Int
  v : Value
  ps : List ByteArray
def ActV.cells (a : ActV) : List Value := [.int .i64 a.op, .int .i64 a.who, a.v]
/-- A slice of acts, and what each one's slice holds. -/
def Acts (w : World) (v : Value) (xs : List ActV) : Prop := Sl w 3 v xs.length (xs.flatMap ActV.cells) ∧ ∀ a ∈ xs, Strs w a.v a.ps ∧ (∀ p ∈ a.ps, p.size ≤ maxLen) ∧ (a.v = .slice none 0 0 ∨ ∃ ad l c, a.v = .slice (some ad) l c)
theorem acts_cell : ∀ (xs : List ActV) (k : Nat) (hk : k < xs.length) (j : Nat), j < 3 → (xs.flatMap ActV.cells)[k * 3 + j]? = (xs[k].cells)[j]?
  | [], _, hk, _, _ => by simp at hk
  | a :: xs, 0, _, j, hj => by
    simp only [List.flatMap_cons, List.getElem_cons_zero, Nat.zero_mul, Nat.zero_add]
    rw [List.getElem?_append_left (by simpa [ActV.cells] using hj)]
  | a :: xs, k + 1, hk, j, hj => by
    simp only [List.flatMap_cons, List.getElem_cons_succ]
    rw [List.getElem?_append_right (by simp [ActV.cells]; omega)]
    have := acts_cell xs k (by simpa using hk) j hj
    rw [← this]
    congr 1
    simp [ActV.cells]
    omega
theorem Acts.open {w : World} {v : Value} {xs : List ActV} (h : Acts w v xs) :
    ∃ a c, v = .slice a xs.length c ∧ xs.length ≤ c ∧ xs.length ≤ maxLen ∧ (0 < xs.length → ∃ b off, a = some ⟨b, off, none⟩ ∧ b < w.heap.size ∧ ∀ k (hk : k < xs.length),
      w.cell? ⟨b, off + k * 3, none⟩ = some (.int .i64 xs[k].op) ∧ w.cell? ⟨b, off + k * 3 + 1, none⟩ = some (.int .i64 xs[k].who) ∧ w.cell? ⟨b, off + k * 3 + 2, none⟩ = some xs[k].v) := by
  obtain ⟨a, c, rfl, hcc, h1, _, h3⟩ := Sl.open h.1
  refine ⟨a, c, rfl, hcc, h1, fun hn => ?_⟩
  obtain ⟨b, off, rfl, hb, hc⟩ := h3 hn
  refine ⟨b, off, rfl, hb, fun k hk => ⟨?_, ?_, ?_⟩⟩
  · exact hc (k * 3) _ (by have := acts_cell xs k hk 0 (by omega); simpa [ActV.cells] using this)
  · exact hc (k * 3 + 1) _ (by have := acts_cell xs k hk 1 (by omega); simpa [ActV.cells] using this)
  · exact hc (k * 3 + 2) _ (by have := acts_cell xs k hk 2 (by omega); simpa [ActV.cells] using this)

theorem list_of_each {α : Type} (R : Nat → α → Prop) : ∀ (n : Nat), (∀ i, i < n → ∃ x, R i x) → ∃ xs : List α, xs.length = n ∧ ∀ (i : Nat) (hi : i < xs.length), R i xs[i]
  | 0, _ => ⟨[], rfl, fun i hi => by simp at hi⟩
  | n + 1, h => by
    obtain ⟨xs, hl, hx⟩ := list_of_each R n (fun i hi => h i (by omega))
    obtain ⟨y, hy⟩ := h n (by omega)
    refine ⟨xs ++ [y], by simp [hl], fun i hi => ?_⟩
    simp at hi
    by_cases he : i < xs.length
    · rw [List.getElem_append_left he]; exact hx i he
    · have : i = n := by omega
      subst this
      rw [List.getElem_append_right (by omega)]
      simpa using hy
/-- Rows of three cells each, one behind the other. -/
theorem sl_rows {W : World} {b off len cap : Nat} (xs : List ActV) (hl : xs.length = len) (hm : len ≤ maxLen) (hcc : len ≤ cap) (hb : 0 < len → b < W.heap.size)
    (h : ∀ (i : Nat) (hi : i < xs.length), ∀ j, j < 3 → W.cell? ⟨b, off + i * 3 + j, none⟩ = (xs[i].cells)[j]?) : Sl W 3 (.slice (some ⟨b, off, none⟩) len cap) len (xs.flatMap ActV.cells) := by
  have hfl : (xs.flatMap ActV.cells).length = len * 3 := by
    rw [← hl]
    clear h hl hb
    induction xs with
    | nil => rfl
    | cons x xs ih => simp [ActV.cells] at *; omega
  refine ⟨hfl, hm, _, _, rfl, hcc, ?_⟩
  by_cases h0 : len = 0
  · exact .inl h0
  · refine .inr ⟨b, off, rfl, hb (by omega), fun i x hx => ?_⟩
    have hi : i < len * 3 := by rw [← hfl]; exact (List.getElem?_eq_some_iff.1 hx).1
    have hk : i / 3 < xs.length := by omega
    have h1 := acts_cell xs (i / 3) hk (i % 3) (by omega)
    have h2 := h (i / 3) hk (i % 3) (by omega)
    rw [← h1] at h2
    have e : i / 3 * 3 + i % 3 = i := by omega
    rw [Nat.add_assoc, e] at h2
    rw [h2, hx]

variable {P : Program} {H : Type} {enc : TypeId × Value → H} {W : World}
theorem trod_int1 {t : TypeId} {k : IntKind} {fuel : Nat} {cs : List Value} {x : DataW H × List MemPlace} (ht : P.underlying t = some (.int k)) (h : DataW.trod enc P W 0 (fun _ => true) true fuel t cs = some x) : ∃ n, cs = [.int k n] := by
  cases fuel with
  | zero => simp [DataW.trod] at h
  | succ n =>
    unfold DataW.trod at h
    rw [ht] at h
    split at h <;> simp_all
theorem trod_strs1 {t e : TypeId} {fuel : Nat} {cs : List Value} {x : DataW H × List MemPlace} (ht : P.underlying t = some (.slice e)) (he : P.underlying e = some .string) (hc : P.cellsOf e = 1)
    (h : DataW.trod enc P W 0 (fun _ => true) true fuel t cs = some x) : ∃ v, cs = [v] ∧ (v = .slice none 0 0 ∨ ∃ ad l c, v = .slice (some ad) l c) ∧ ∃ ss : List ByteArray, Strs W v ss ∧ ∀ p ∈ ss, p.size ≤ maxLen := by
  have key : ∀ a0 len cap, cs = [.slice a0 len cap] → ∃ ss : List ByteArray, Strs W (.slice a0 len cap) ss ∧ ∀ p ∈ ss, p.size ≤ maxLen := by
    intro a0 len cap e
    subst e
    exact strs_of_trod ht he hc h
  rcases open_strings ht he hc h with ⟨hcs, _⟩ | ⟨a, len', cap', ss, hcs, _⟩
  · exact ⟨_, hcs, .inl rfl, key _ _ _ hcs⟩
  · exact ⟨_, hcs, .inr ⟨_, _, _, rfl⟩, key _ _ _ hcs⟩
/-- A slice of acts that came in. -/
theorem arg_acts {base : Nat} {r : Reach} {t e ti tw ts te : TypeId} {v : Value} {d : DataW H} {p : List MemPlace} {f0 f1 f2 : Field} (ht : P.underlying t = some (.slice e)) (he : P.underlying e = some (.struct #[f0, f1, f2])) (hc : P.cellsOf e = 3)
    (e0 : f0.type = ti ∧ f0.offset = 0) (e1 : f1.type = tw ∧ f1.offset = 1) (e2 : f2.type = ts ∧ f2.offset = 2) (hti : P.underlying ti = some (.int .i64)) (htw : P.underlying tw = some (.int .i64)) (hts : P.underlying ts = some (.slice te)) (hte : P.underlying te = some .string)
    (c0 : P.cellsOf ti = 1) (c1 : P.cellsOf tw = 1) (c2 : P.cellsOf ts = 1) (c3 : P.cellsOf te = 1)
    (hv : Value.okWide P W r base t v) (h : DataW.Trod enc P W 0 (fun _ => true) true t v d p) : ∃ xs : List ActV, Acts W v xs := by
  obtain ⟨a0, len, cap, rfl⟩ := okWide_slice ht hv
  obtain ⟨n, h⟩ := h
  rcases DataW.trod_slice ht h with ⟨hcs, hx⟩ | ⟨a, len', cap', elems, rest, n', _, hcs, _, _, hl, hm, hlen, hel, _⟩
  · simp [Value.cells] at hcs
    obtain ⟨rfl, rfl, rfl⟩ := hcs
    exact ⟨[], Sl.nil _ _, by simp⟩
  · simp [Value.cells] at hcs
    obtain ⟨rfl, rfl, rfl⟩ := hcs
    have each : ∀ i, i < len → ∃ x : ActV, W.cells? 0 (a.add (i * 3)) 3 = some x.cells ∧ Strs W x.v x.ps ∧ (∀ p ∈ x.ps, p.size ≤ maxLen) ∧ (x.v = .slice none 0 0 ∨ ∃ ad l c, x.v = .slice (some ad) l c) := by
      intro i hi
      have h1 := hel i hi
      rw [hc] at h1
      cases hcs : W.cells? 0 (a.add (i * 3)) 3 with
      | none => rw [hcs] at h1; simp at h1; omega
      | some cs =>
        rw [hcs] at h1
        obtain ⟨y, hy⟩ : ∃ y, elems[i]? = some y := ⟨elems[i], by simp [hlen, hi]⟩
        rw [hy] at h1
        simp only [Option.bind_some] at h1
        obtain ⟨xs, n2, _, _, hlcs, hxl, hf⟩ := DataW.trod_struct he h1
        have q0 := hf 0 f0 rfl
        have q1 := hf 1 f1 rfl
        have q2 := hf 2 f2 rfl
        rw [e0.1, e0.2, c0] at q0
        rw [e1.1, e1.2, c1] at q1
        rw [e2.1, e2.2, c2] at q2
        simp at hxl
        obtain ⟨z0, z1, z2, rfl⟩ : ∃ z0 z1 z2, xs = [z0, z1, z2] := by
          match xs, hxl with
          | [z0, z1, z2], _ => exact ⟨z0, z1, z2, rfl⟩
        rw [hc] at hlcs
        obtain ⟨v0, v1, v2, rfl⟩ : ∃ v0 v1 v2, cs = [v0, v1, v2] := by
          match cs, hlcs with
          | [v0, v1, v2], _ => exact ⟨v0, v1, v2, rfl⟩
        simp at q0 q1 q2
        obtain ⟨i0, hi0⟩ := trod_int1 hti q0
        obtain ⟨i1, hi1⟩ := trod_int1 htw q1
        obtain ⟨w2, hw2, hshape, ss, hss, hsz⟩ := trod_strs1 hts hte c3 q2
        simp at hi0 hi1 hw2
        subst hi0 hi1 hw2
        exact ⟨⟨i0, i1, v2, ss⟩, rfl, hss, hsz, hshape⟩
    obtain ⟨xs, hxl, hxs⟩ := list_of_each _ len each
    refine ⟨xs, ?_, fun y hy => ?_⟩
    · rw [hxl]
      obtain ⟨b, off, spot⟩ := a
      by_cases h0 : len = 0
      · subst h0
        have : xs = [] := List.length_eq_zero_iff.1 hxl
        subst this
        exact ⟨rfl, Nat.zero_le _, _, _, rfl, Nat.zero_le _, .inl rfl⟩
      · have hat := fun i hi => World.cells?_some (hxs i hi).1
        have hfirst := (hat 0 (by omega)).2.2 0 (by omega)
        have hspot : spot = none := by
          have h5 : W.cell? ⟨b, off, spot⟩ = some (.int .i64 xs[0].op) := by simpa [Addr.add, ActV.cells] using hfirst
          simpa using World.cell?_spot h5
        subst hspot
        refine sl_rows xs hxl (by omega) hl (fun _ => ?_) (fun i hi j hj => ?_)
        · have h5 : W.cell? ⟨b, off, none⟩ = some (.int .i64 xs[0].op) := by simpa [Addr.add, ActV.cells] using hfirst
          exact World.block_lt_of_cell? _ _ h5
        · have := (hat i hi).2.2 j hj
          rwa [add_plain, add_plain] at this
    · obtain ⟨i, hi, rfl⟩ := List.getElem_of_mem hy
      exact (hxs i hi).2
end Go.Proofs.YtjapjpigpakejaaGreatDoor

/- Slices of ops in memory; what a request may be. No program. -/
namespace Av
set_option maxRecDepth 100000
open Go Go.RowKit
theorem rows_cell {α : Type} (f : α → List Value) (K : Nat) (hf : ∀ x, (f x).length = K) : ∀ (xs : List α) (k : Nat) (hk : k < xs.length) (j : Nat), j < K → (xs.flatMap f)[k * K + j]? = (f xs[k])[j]?
  | [], _, hk, _, _ => by simp at hk
  | a :: xs, 0, _, j, hj => by
    simp only [List.flatMap_cons, List.getElem_cons_zero, Nat.zero_mul, Nat.zero_add]
    rw [List.getElem?_append_left (by rw [hf]; exact hj)]
  | a :: xs, k + 1, hk, j, hj => by
    simp only [List.flatMap_cons, List.getElem_cons_succ]
    rw [List.getElem?_append_right (by rw [hf, Nat.succ_mul]; omega)]
    have := rows_cell f K hf xs k (by simpa using hk) j hj
    rw [← this, hf]
    congr 1
    rw [Nat.succ_mul]
    omega
theorem rows_len {α : Type} (f : α → List Value) (K : Nat) (hf : ∀ x, (f x).length = K) (xs : List α) : (xs.flatMap f).length = xs.length * K := by
  induction xs with
  | nil => simp
  | cons a l ih => rw [List.flatMap_cons, List.length_append, hf, ih, List.length_cons, Nat.succ_mul]; omega
/-- A slice of ops. -/
def OpsAt (w : World) (v : Value) (xs : List OpV) : Prop := Sl w 5 v xs.length (xs.flatMap OpV.cells) ∧ Shp v
theorem OpsAt.ext {w w' : World} {v : Value} {xs : List OpV} (h : OpsAt w v xs) (k : Ext w w') : OpsAt w' v xs := ⟨h.1.ext k, h.2⟩
theorem OpsAt.kp {S : Nat → Prop} {w w' : World} {v : Value} {xs : List OpV} (h : OpsAt w v xs) (k : Kp S w w') (hs : ∀ b, v.ownBlock = some b → b < w.heap.size → ¬ S b) : OpsAt w' v xs := ⟨h.1.kp k hs, h.2⟩
theorem OpsAt.nil (w : World) : OpsAt w (.slice none 0 0) [] := ⟨Sl.nil w 5, .inl rfl⟩
theorem op_one (xs : List OpV) : ∀ y ∈ xs.flatMap OpV.cells, y.oneCell' = true := by
  intro y hy
  obtain ⟨o, _, h⟩ := List.mem_flatMap.1 hy
  simp only [OpV.cells, List.mem_cons, List.not_mem_nil, or_false] at h
  rcases h with rfl | rfl | rfl | rfl | rfl <;> rfl
theorem OpsAt.open {w : World} {v : Value} {xs : List OpV} (h : OpsAt w v xs) :
    ∃ a c, v = .slice a xs.length c ∧ xs.length ≤ c ∧ xs.length ≤ maxLen ∧ (0 < xs.length → ∃ b off, a = some ⟨b, off, none⟩ ∧ b < w.heap.size ∧ ∀ k (hk : k < xs.length),
      w.cell? ⟨b, off + k * 5, none⟩ = some (.int .i64 xs[k].kind) ∧ w.cell? ⟨b, off + k * 5 + 1, none⟩ = some (.string xs[k].path) ∧ w.cell? ⟨b, off + k * 5 + 2, none⟩ = some (.string xs[k].data) ∧
      w.cell? ⟨b, off + k * 5 + 3, none⟩ = some (.int .i64 xs[k].ver) ∧ w.cell? ⟨b, off + k * 5 + 4, none⟩ = some (.int .i64 xs[k].flags)) := by
  obtain ⟨a, c, rfl, hcc, h1, _, h3⟩ := Sl.open h.1
  refine ⟨a, c, rfl, hcc, h1, fun hn => ?_⟩
  obtain ⟨b, off, rfl, hb, hc⟩ := h3 hn
  have key : ∀ k (hk : k < xs.length) j x, j < 5 → (xs[k].cells)[j]? = some x → w.cell? ⟨b, off + (k * 5 + j), none⟩ = some x := fun k hk j x hj hx =>
    hc (k * 5 + j) x (by rw [rows_cell OpV.cells 5 (fun _ => rfl) xs k hk j hj]; exact hx)
  refine ⟨b, off, rfl, hb, fun k hk => ⟨?_, ?_, ?_, ?_, ?_⟩⟩
  · have := key k hk 0 _ (by omega) rfl; rwa [Nat.add_zero] at this
  · have := key k hk 1 _ (by omega) rfl; rwa [← Nat.add_assoc] at this
  · have := key k hk 2 _ (by omega) rfl; rwa [← Nat.add_assoc] at this
  · have := key k hk 3 _ (by omega) rfl; rwa [← Nat.add_assoc] at this
  · have := key k hk 4 _ (by omega) rfl; rwa [← Nat.add_assoc] at this

/-- Each op's texts can be. -/
def OpsSz (xs : List OpV) : Prop := ∀ o ∈ xs, o.path.size ≤ maxLen ∧ o.data.size ≤ maxLen
/-- What is wrong with a request first. -/
def mayR (sess num : Int) (xs : List OpV) : Int :=
  if sess < 1 ∨ num < 1 ∨ xs.length = 0 then 1 else if 16 < xs.length then 2 else
    match xs.find? fun o => decide (goodO o ≠ 0) with
    | some o => goodO o
    | none => if 1 < xs.length ∧ xs.any (fun o => readsB o.kind) = true then 1 else 0
/-- Where the first one is, or -1. -/
def idxI (p : OpV → Bool) (xs : List OpV) : Int := match xs.findIdx? p with
  | some i => i
  | none => -1
theorem idxI_at {p : OpV → Bool} {xs : List OpV} {k : Nat} (hk : k < xs.length) (h : ∀ x ∈ xs.take k, p x = false) (hp : p xs[k] = true) : idxI p xs = k := by
  unfold idxI
  have : xs.findIdx? p = some k := by
    rw [List.findIdx?_eq_some_iff_getElem]
    refine ⟨hk, hp, fun j hj => ?_⟩
    have := h (xs[j]) (by rw [List.mem_take_iff_getElem]; exact ⟨j, by omega, rfl⟩)
    simp [this]
  rw [this]
theorem idxI_none {p : OpV → Bool} {xs : List OpV} (h : ∀ x ∈ xs, p x = false) : idxI p xs = -1 := by
  unfold idxI
  have : xs.findIdx? p = none := by rw [List.findIdx?_eq_none_iff]; exact h
  rw [this]
theorem idxI_any (p : OpV → Bool) (xs : List OpV) : decide (0 ≤ idxI p xs) = xs.any p := by
  unfold idxI
  cases h : xs.findIdx? p with
  | none =>
    have : xs.any p = false := by rw [List.any_eq_false]; intro x hx; simp [List.findIdx?_eq_none_iff.1 h x hx]
    rw [this]
    rfl
  | some i =>
    obtain ⟨hi, hp, _⟩ := List.findIdx?_eq_some_iff_getElem.1 h
    have : xs.any p = true := List.any_eq_true.2 ⟨_, List.getElem_mem hi, hp⟩
    rw [this]
    simp
theorem take_allP {α : Type} {p : α → Prop} {l : List α} {k : Nat} (hk : k < l.length) (h : ∀ x ∈ l.take k, p x) (hp : p l[k]) : ∀ x ∈ l.take (k + 1), p x := by
  intro x hx
  rw [List.take_succ_eq_append_getElem hk] at hx
  rcases List.mem_append.1 hx with hx | hx
  · exact h x hx
  · simp at hx; subst hx; exact hp
theorem find_atP {α : Type} (f : α → Bool) (l : List α) (k : Nat) (hk : k < l.length) (h : ∀ x ∈ l.take k, f x = false) (hf : f l[k] = true) : l.find? f = some l[k] := by
  rw [List.find?_eq_some_iff_getElem]
  refine ⟨hf, k, hk, rfl, fun j hj => ?_⟩
  have := h (l[j]) (by rw [List.mem_take_iff_getElem]; exact ⟨j, by omega, rfl⟩)
  simp [this]
theorem mayR_few {sess num : Int} {xs : List OpV} (h : sess < 1 ∨ num < 1 ∨ xs.length = 0) : mayR sess num xs = 1 := by unfold mayR; rw [if_pos h]
theorem mayR_many {sess num : Int} {xs : List OpV} (h : ¬ (sess < 1 ∨ num < 1 ∨ xs.length = 0)) (h2 : 16 < xs.length) : mayR sess num xs = 2 := by unfold mayR; rw [if_neg h, if_pos h2]
theorem mayR_bad {sess num : Int} {xs : List OpV} (h : ¬ (sess < 1 ∨ num < 1 ∨ xs.length = 0)) (h2 : ¬ 16 < xs.length) {k : Nat} (hk : k < xs.length) (h3 : ∀ x ∈ xs.take k, goodO x = 0) (h4 : goodO xs[k] ≠ 0) : mayR sess num xs = goodO xs[k] := by
  unfold mayR
  rw [if_neg h, if_neg h2, find_atP _ xs k hk (fun x hx => by simp [h3 x hx]) (by simpa using h4)]
theorem mayR_all {sess num : Int} {xs : List OpV} (h : ¬ (sess < 1 ∨ num < 1 ∨ xs.length = 0)) (h2 : ¬ 16 < xs.length) (h3 : ∀ x ∈ xs, goodO x = 0) : mayR sess num xs = if 1 < xs.length ∧ xs.any (fun o => readsB o.kind) = true then 1 else 0 := by
  unfold mayR
  have : xs.find? (fun o => decide (goodO o ≠ 0)) = none := by rw [List.find?_eq_none]; intro x hx; simp [h3 x hx]
  rw [if_neg h, if_neg h2, this]
theorem good_kind {o : OpV} (h : goodO o = 0) : 1 ≤ o.kind ∧ o.kind ≤ 7 ∧ goodL o.path.data.toList = true ∧ -1 ≤ o.ver ∧ 0 ≤ o.flags ∧ o.flags ≤ 3 ∧ o.data.size ≤ 1000 := by
  unfold goodO at h
  split at h
  · rename_i hf
    simp only [formedB, Bool.and_eq_true, decide_eq_true_eq] at hf
    split at h
    · cases h
    · exact ⟨hf.1, hf.2.1, hf.2.2.1, hf.2.2.2.1, hf.2.2.2.2.1, hf.2.2.2.2.2, by omega⟩
  · cases h
theorem mayR_ok {sess num : Int} {xs : List OpV} (h : mayR sess num xs = 0) : 1 ≤ sess ∧ 1 ≤ num ∧ 1 ≤ xs.length ∧ xs.length ≤ 16 ∧ (∀ o ∈ xs, goodO o = 0) ∧ (xs.length = 1 ∨ ∀ o ∈ xs, readsB o.kind = false) := by
  by_cases h1 : sess < 1 ∨ num < 1 ∨ xs.length = 0
  · rw [mayR_few h1] at h; cases h
  · by_cases h2 : 16 < xs.length
    · rw [mayR_many h1 h2] at h; cases h
    · by_cases h3 : ∀ o ∈ xs, goodO o = 0
      · rw [mayR_all h1 h2 h3] at h
        simp only [not_or, Int.not_lt] at h1
        refine ⟨h1.1, h1.2.1, by omega, by omega, h3, ?_⟩
        split at h
        · cases h
        · rename_i h4
          by_cases h5 : xs.length = 1
          · exact .inl h5
          · right
            intro o ho
            cases hr : readsB o.kind with
            | false => rfl
            | true => exact absurd ⟨by omega, List.any_eq_true.2 ⟨o, ho, hr⟩⟩ h4
      · unfold mayR at h
        rw [if_neg h1, if_neg h2] at h
        cases hf : xs.find? (fun o => decide (goodO o ≠ 0)) with
        | none =>
          rw [List.find?_eq_none] at hf
          exact absurd (fun o ho => by simpa using hf o ho) h3
        | some o =>
          rw [hf] at h
          have := List.find?_some hf
          simp at this
          exact absurd h this
end Av

/- Ops and requests that come in. -/
namespace Go.Proofs.YtjapjpigpakejaaGreatDoor
set_option maxRecDepth 100000
open Go.ChangeShapes Go.WideShapes Go.ChangeAt Go.RowKit Av

/-- An op's numbers are int64s. -/
def Op64 (o : OpV) : Prop := I64 o.kind ∧ I64 o.ver ∧ I64 o.flags
/-- Rows of K cells each, one behind the other. -/
theorem sl_rowsK {α : Type} (f : α → List Value) (K : Nat) (hf : ∀ x, (f x).length = K) (hK : 0 < K) {W : World} {b off len cap : Nat} (xs : List α) (hl : xs.length = len) (hm : len ≤ maxLen) (hcc : len ≤ cap) (hb : 0 < len → b < W.heap.size)
    (h : ∀ (i : Nat) (hi : i < xs.length), ∀ j, j < K → W.cell? ⟨b, off + i * K + j, none⟩ = (f xs[i])[j]?) : Sl W K (.slice (some ⟨b, off, none⟩) len cap) len (xs.flatMap f) := by
  have hfl : (xs.flatMap f).length = len * K := by rw [rows_len f K hf, hl]
  refine ⟨hfl, hm, _, _, rfl, hcc, ?_⟩
  by_cases h0 : len = 0
  · exact .inl h0
  · refine .inr ⟨b, off, rfl, hb (by omega), fun i x hx => ?_⟩
    have hi : i < len * K := by rw [← hfl]; exact (List.getElem?_eq_some_iff.1 hx).1
    have hk : i / K < xs.length := by rw [hl]; exact Nat.div_lt_of_lt_mul (by rwa [Nat.mul_comm])
    have hr : i % K < K := Nat.mod_lt _ hK
    have h1 := rows_cell f K hf xs (i / K) hk (i % K) hr
    have h2 := h (i / K) hk (i % K) hr
    rw [← h1] at h2
    have e : i / K * K + i % K = i := by rw [Nat.mul_comm]; exact Nat.div_add_mod i K
    rw [Nat.add_assoc, e] at h2
    rw [h2, hx]

section
variable {P : Program} {H : Type} {enc : TypeId × Value → H} {W : World}
theorem trod_i64 {t : TypeId} {fuel : Nat} {cs : List Value} {x : DataW H × List MemPlace} (ht : P.underlying t = some (.int .i64)) (h : DataW.trod enc P W 0 (fun _ => true) true fuel t cs = some x) : ∃ n, cs = [.int .i64 n] ∧ I64 n := by
  obtain ⟨n, rfl, _, hw⟩ := DataW.trod_int ht h
  refine ⟨n, rfl, ?_⟩
  rw [Lit.wf, Bool.and_eq_true] at hw
  exact ⟨of_decide_eq_true hw.1, of_decide_eq_true hw.2⟩
theorem trod_str1 {t : TypeId} {fuel : Nat} {cs : List Value} {x : DataW H × List MemPlace} (ht : P.underlying t = some .string) (h : DataW.trod enc P W 0 (fun _ => true) true fuel t cs = some x) : ∃ s, cs = [.string s] ∧ s.size ≤ maxLen := by
  cases fuel with
  | zero => simp [DataW.trod] at h
  | succ n =>
    unfold DataW.trod at h
    rw [ht] at h
    split at h <;> simp_all
end
section
variable {H : Type} {enc : TypeId × Value → H} {W : World}
theorem trod_op {fuel : Nat} {cs : List Value} {x : DataW H × List MemPlace} (h : DataW.trod enc Tryz.prog W 0 (fun _ => true) true fuel 30 cs = some x) : ∃ o : OpV, cs = o.cells ∧ o.path.size ≤ maxLen ∧ o.data.size ≤ maxLen ∧ Op64 o := by
  obtain ⟨xs, n2, _, _, hlcs, hxl, hf⟩ := DataW.trod_struct Tryz.underlying30 h
  have q0 := hf 0 _ rfl
  have q1 := hf 1 _ rfl
  have q2 := hf 2 _ rfl
  have q3 := hf 3 _ rfl
  have q4 := hf 4 _ rfl
  have k3 : Program.cellsOf Tryz.prog 3 = 1 := by kernel_rfl
  have k9 : Program.cellsOf Tryz.prog 9 = 1 := by kernel_rfl
  have k5 : Program.cellsOf Tryz.prog 30 = 5 := by kernel_rfl
  simp at hxl
  obtain ⟨z0, z1, z2, z3, z4, rfl⟩ : ∃ z0 z1 z2 z3 z4, xs = [z0, z1, z2, z3, z4] := by
    match xs, hxl with
    | [z0, z1, z2, z3, z4], _ => exact ⟨z0, z1, z2, z3, z4, rfl⟩
  rw [k5] at hlcs
  obtain ⟨v0, v1, v2, v3, v4, rfl⟩ : ∃ v0 v1 v2 v3 v4, cs = [v0, v1, v2, v3, v4] := by
    match cs, hlcs with
    | [v0, v1, v2, v3, v4], _ => exact ⟨v0, v1, v2, v3, v4, rfl⟩
  simp [k3, k9] at q0 q1 q2 q3 q4
  obtain ⟨i0, e0, b0⟩ := trod_i64 Tryz.underlying3 q0
  obtain ⟨i1, e1, b1⟩ := trod_str1 Tryz.underlying9 q1
  obtain ⟨i2, e2, b2⟩ := trod_str1 Tryz.underlying9 q2
  obtain ⟨i3, e3, b3⟩ := trod_i64 Tryz.underlying3 q3
  obtain ⟨i4, e4, b4⟩ := trod_i64 Tryz.underlying3 q4
  simp at e0 e1 e2 e3 e4
  subst e0 e1 e2 e3 e4
  exact ⟨⟨i0, i1, i2, i3, i4⟩, rfl, b1, b2, b0, b3, b4⟩
/-- Ops that come in. -/
theorem trod_ops {fuel : Nat} {cs : List Value} {x : DataW H × List MemPlace} (h : DataW.trod enc Tryz.prog W 0 (fun _ => true) true fuel 69 cs = some x) : ∃ v, cs = [v] ∧ ∃ xs : List OpV, OpsAt W v xs ∧ OpsSz xs ∧ ∀ o ∈ xs, Op64 o := by
  have k5 : Program.cellsOf Tryz.prog 30 = 5 := by kernel_rfl
  rcases DataW.trod_slice Tryz.underlying69 h with ⟨rfl, hx⟩ | ⟨a, len, cap, elems, rest, n', _, rfl, _, _, hl, hm, hlen, hel, _⟩
  · exact ⟨_, rfl, [], OpsAt.nil W, fun o ho => by (cases ho), fun o ho => by (cases ho)⟩
  · refine ⟨_, rfl, ?_⟩
    have each : ∀ i, i < len → ∃ o : OpV, W.cells? 0 (a.add (i * 5)) 5 = some o.cells ∧ o.path.size ≤ maxLen ∧ o.data.size ≤ maxLen ∧ Op64 o := by
      intro i hi
      have h1 := hel i hi
      rw [k5] at h1
      cases hcs : W.cells? 0 (a.add (i * 5)) 5 with
      | none => rw [hcs] at h1; simp at h1; omega
      | some cs =>
        rw [hcs] at h1
        obtain ⟨y, hy⟩ : ∃ y, elems[i]? = some y := ⟨elems[i], by simp [hlen, hi]⟩
        rw [hy] at h1
        simp only [Option.bind_some] at h1
        obtain ⟨o, rfl, ho⟩ := trod_op h1
        exact ⟨o, rfl, ho⟩
    obtain ⟨xs, hxl, hxs⟩ := list_of_each _ len each
    refine ⟨xs, ⟨?_, Shp.some⟩, fun o ho => ?_, fun o ho => ?_⟩
    · rw [hxl]
      obtain ⟨b, off, spot⟩ := a
      by_cases h0 : len = 0
      · subst h0
        have : xs = [] := List.length_eq_zero_iff.1 hxl
        subst this
        exact ⟨rfl, Nat.zero_le _, _, _, rfl, Nat.zero_le _, .inl rfl⟩
      · have hat := fun i hi => World.cells?_some (hxs i hi).1
        have hfirst := (hat 0 (by omega)).2.2 0 (by omega)
        have h5 : W.cell? ⟨b, off, spot⟩ = some (.int .i64 xs[0].kind) := by simpa [Addr.add, OpV.cells] using hfirst
        have hspot : spot = none := by simpa using World.cell?_spot h5
        subst hspot
        refine sl_rowsK OpV.cells 5 (fun _ => rfl) (by decide) xs hxl (by omega) hl (fun _ => World.block_lt_of_cell? _ _ h5) (fun i hi j hj => ?_)
        have := (hat i hi).2.2 j hj
        rwa [add_plain, add_plain] at this
    · obtain ⟨i, hi, rfl⟩ := List.getElem_of_mem ho
      exact ⟨(hxs i hi).2.1, (hxs i hi).2.2.1⟩
    · obtain ⟨i, hi, rfl⟩ := List.getElem_of_mem ho
      exact (hxs i hi).2.2.2
end
end Go.Proofs.YtjapjpigpakejaaGreatDoor

/- Slices that come in, whatever their elements are. -/
namespace Go.Proofs.YtjapjpigpakejaaGreatDoor
set_option maxRecDepth 100000
open Go.ChangeShapes Go.WideShapes Go.ChangeAt Go.RowKit Av
section
variable {P : Program} {H : Type} {enc : TypeId × Value → H} {W : World}
/-- A slice of elements of K cells each; what an element says is shown by 'elem'. -/
theorem trod_sl {α : Type} (f : α → List Value) (K : Nat) (Pr : α → Prop) (hf : ∀ x, (f x).length = K) (hK : 0 < K) {t e : TypeId} (ht : P.underlying t = some (.slice e)) (hc : P.cellsOf e = K)
    (elem : ∀ (fuel : Nat) (cs : List Value) (x : DataW H × List MemPlace), DataW.trod enc P W 0 (fun _ => true) true fuel e cs = some x → ∃ o : α, cs = f o ∧ Pr o)
    {fuel : Nat} {cs : List Value} {x : DataW H × List MemPlace} (h : DataW.trod enc P W 0 (fun _ => true) true fuel t cs = some x) : ∃ v, cs = [v] ∧ ∃ xs : List α, Sl W K v xs.length (xs.flatMap f) ∧ Shp v ∧ ∀ o ∈ xs, Pr o := by
  rcases DataW.trod_slice ht h with ⟨rfl, hx⟩ | ⟨a, len, cap, elems, rest, n', _, rfl, _, _, hl, hm, hlen, hel, _⟩
  · exact ⟨_, rfl, [], Sl.nil W K, .inl rfl, fun o ho => by (cases ho)⟩
  · refine ⟨_, rfl, ?_⟩
    have each : ∀ i, i < len → ∃ o : α, W.cells? 0 (a.add (i * K)) K = some (f o) ∧ Pr o := by
      intro i hi
      have h1 := hel i hi
      rw [hc] at h1
      cases hcs : W.cells? 0 (a.add (i * K)) K with
      | none => rw [hcs] at h1; simp at h1; omega
      | some cs =>
        rw [hcs] at h1
        obtain ⟨y, hy⟩ : ∃ y, elems[i]? = some y := ⟨elems[i], by simp [hlen, hi]⟩
        rw [hy] at h1
        simp only [Option.bind_some] at h1
        obtain ⟨o, rfl, ho⟩ := elem _ _ _ h1
        exact ⟨o, rfl, ho⟩
    obtain ⟨xs, hxl, hxs⟩ := list_of_each _ len each
    refine ⟨xs, ?_, Shp.some, fun o ho => ?_⟩
    · rw [hxl]
      obtain ⟨b, off, spot⟩ := a
      by_cases h0 : len = 0
      · subst h0
        obtain rfl : xs = [] := List.length_eq_zero_iff.1 hxl
        exact ⟨by simp, Nat.zero_le _, _, _, rfl, hl, .inl rfl⟩
      · have hat := fun i hi => World.cells?_some (hxs i hi).1
        obtain ⟨v0, hv0⟩ : ∃ v0, (f (xs[0]'(by omega)))[0]? = some v0 := ⟨(f (xs[0]'(by omega)))[0]'(by rw [hf]; exact hK), List.getElem?_eq_getElem _⟩
        have hfirst := (hat 0 (by omega)).2.2 0 (by omega)
        rw [hv0] at hfirst
        have h5 : W.cell? ⟨b, off, spot⟩ = some v0 := by simpa [Addr.add] using hfirst
        have hspot : spot = none := by simpa using World.cell?_spot h5
        subst hspot
        refine sl_rowsK f K hf hK xs hxl (by omega) hl (fun _ => World.block_lt_of_cell? _ _ h5) (fun i hi j hj => ?_)
        have := (hat i hi).2.2 j hj
        rwa [add_plain, add_plain] at this
    · obtain ⟨i, hi, rfl⟩ := List.getElem_of_mem ho
      exact (hxs i hi).2
theorem trod_u8 {t : TypeId} {fuel : Nat} {cs : List Value} {x : DataW H × List MemPlace} (ht : P.underlying t = some (.int .u8)) (h : DataW.trod enc P W 0 (fun _ => true) true fuel t cs = some x) : ∃ n : UInt8, cs = [byteV n] := by
  obtain ⟨n, rfl, _, hw⟩ := DataW.trod_int ht h
  rw [Lit.wf, Bool.and_eq_true] at hw
  have h0 : 0 ≤ n := of_decide_eq_true hw.1
  have h1 : n ≤ 255 := of_decide_eq_true hw.2
  refine ⟨UInt8.ofNat n.toNat, ?_⟩
  unfold byteV
  rw [ofNat_toNat (by omega)]
  rw [Int.toNat_of_nonneg h0]
theorem flat_one {α : Type} (g : α → Value) : ∀ xs : List α, xs.flatMap (fun x => [g x]) = xs.map g
  | [] => rfl
  | x :: xs => by rw [List.flatMap_cons, flat_one g xs]; rfl
/-- Bytes that come in. -/
theorem arg_bytes {base : Nat} {r : Reach} {t e : TypeId} {v : Value} {d : DataW H} {p : List MemPlace} (ht : P.underlying t = some (.slice e)) (he : P.underlying e = some (.int .u8)) (hc : P.cellsOf e = 1)
    (hv : Value.okWide P W r base t v) (h : DataW.Trod enc P W 0 (fun _ => true) true t v d p) : ∃ bs : List UInt8, BytesR W v bs := by
  obtain ⟨a0, len, cap, rfl⟩ := okWide_slice ht hv
  obtain ⟨n, h⟩ := h
  obtain ⟨v', hcs, xs, h1, h2, _⟩ := trod_sl (fun b : UInt8 => [byteV b]) 1 (fun _ => True) (fun _ => rfl) (by decide) ht hc (fun fuel cs x hx => by obtain ⟨b, rfl⟩ := trod_u8 he hx; exact ⟨b, rfl, trivial⟩) h
  simp only [Value.cells, List.cons.injEq, and_true] at hcs
  subst hcs
  rw [flat_one] at h1
  exact ⟨xs, h1, h2⟩
end
end Go.Proofs.YtjapjpigpakejaaGreatDoor
