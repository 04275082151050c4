/- Texts put together: AvTreeU, AvActs. -/
import Derived.Test.YtkpcmbgnaenbhaaGreatDoorAvHTreeS
import Derived.Test.YtkpcmbgnaenbhaaGreatDoorAvHSound
import Derived.Test.YtkpcmbgnaenbhaaGreatDoorAvG31
import Derived.Test.YtkpcmbgnaenbhaaGreatDoorAvG32
import Derived.Test.YtkpcmbgnaenbhaaGreatDoorAvG2

/- A law's tree: its paths; what soundness says of one node; loops over paths. -/
namespace Go.Proofs.YtkpcmbgnaenbhaaGreatDoor
set_option maxRecDepth 100000
open Go.RowKit Av

/-- The paths of a tree that a law has made. -/
theorem tsPaths {w0 w : World} {b m : Nat} {room : Int} {K : Nat} {t : Tr} (h : TS w0 w b m room K t) (hs : SoundP room (pl t)) (hr : room ≤ 100000) :
    Calls Tryz.prog 13 #[.pointer (some ⟨b, 0, none⟩)] w fun e w' => PathsPost w (pathsP (pl t)) e w' := by
  refine treePaths_any w0.heap.size b m room t w h.tr (fun e he => ?_) ?_
  · have h1 : mget (pl t) e.1 = some e.2.2 := by
      rw [pl_get, mget_of_mem h.tr.keys (k := e.1) he]; rfl
    have := path_small e.1 (hs.good _ _ h1)
    unfold maxLen
    omega
  · have := hs.size
    rw [pl_len] at this
    omega
theorem strs_open {w : World} {base n : Nat} {v : Value} {L : List Bs} (h : w.ownsRow base strT 1 v n (L.map encStr)) : ∃ a c, v = .slice a n c ∧ (0 < n → ∃ g off, a = some ⟨g, off, none⟩ ∧ ∀ k (hk : k < L.length), w.cell? ⟨g, off + k, none⟩ = some (encStr L[k])) := by
  obtain ⟨a, c, e, _, _, _, hop⟩ := Sl.open (Sl.of_owns h)
  refine ⟨a, c, e, fun h0 => ?_⟩
  obtain ⟨g, off, e2, _, hc⟩ := hop h0
  exact ⟨g, off, e2, fun k hk => hc k _ (by rw [List.getElem?_map, List.getElem?_eq_getElem hk]; rfl)⟩
theorem strs_same {w : World} {base n : Nat} {v : Value} {L : List Bs} (h : w.ownsRow base strT 1 v n (L.map encStr)) : n = L.length := by
  have := h.1
  simpa using this.symm
/-- What soundness says of one node. -/
structure SoundAt (t : Pt) (p : ByteArray) (n : NodeV) : Prop where
  size : p.size ≤ 200
  cnt : n.cnt = n.names.length
  eph : n.own ≠ 0 → n.names = []
  kid : ∀ x ∈ n.names, ∃ y, mget t (childB p x) = some y
  small : ∀ x ∈ n.names, x.length ≤ 200
  par : ∀ up, parentL p.data.toList = some up → ∃ m, mget t ⟨up.toArray⟩ = some m ∧ m.own = 0 ∧ lastL p.data.toList ∈ m.names
theorem sound_at {room : Int} {t : Pt} (h : SoundP room t) {p : ByteArray} {n : NodeV} (hp : mget t p = some n) : SoundAt t p n := by
  have hk : ∀ x ∈ n.names, ∃ y, mget t (childB p x) = some y := fun x hx => Option.isSome_iff_exists.1 (h.kids p n hp x hx)
  refine ⟨path_small p (h.good p n hp), h.cnt p n hp, h.eph p n hp, hk, fun x hx => ?_, h.par p n hp⟩
  obtain ⟨y, hy⟩ := hk x hx
  have h1 := path_small _ (h.good _ y hy)
  rw [Lib.size_eq] at h1
  unfold childB at h1
  simp at h1
  omega
theorem child_add {p : ByteArray} {y : Bs} (hp : p.size ≤ 200) (hy : y.length ≤ 200) :
    (∀ wx, (Op.stringOp .add p ⟨#[47]⟩).run Tryz.prog wx = .ok (.string ⟨(p.data.toList ++ [47]).toArray⟩) wx) ∧ (∀ wx, (Op.stringOp .add ⟨(p.data.toList ++ [47]).toArray⟩ ⟨y.toArray⟩).run Tryz.prog wx = .ok (.string (childB p y)) wx) := by
  have hp2 := hp
  rw [Lib.size_eq] at hp2
  constructor
  · intro wx
    rw [run_string_add_sum (P := Tryz.prog) wx _ _ (by have : (⟨#[47]⟩ : ByteArray).size = 1 := rfl; omega)]
    refine congrArg (fun s => Result.ok (Value.string s) wx) ?_
    refine bytes_eq ?_
    simp
  · intro wx
    rw [run_string_add_sum (P := Tryz.prog) wx _ _ (by rw [Lib.size_eq, Lib.size_eq]; simp; omega)]
    refine congrArg (fun s => Result.ok (Value.string s) wx) ?_
    unfold childB
    refine bytes_eq ?_
    simp
/-- A loop over a list, all of whose rounds leave what lay there. -/
def SndRel (n : Nat) (w5 : World) (s9 : Value) (wr : World) : Prop := ∃ i : Nat, i ≤ n ∧ s9 = .int .i64 i ∧ Ext w5 wr
end Go.Proofs.YtkpcmbgnaenbhaaGreatDoor

/- Slices of acts: three cells each. -/
namespace Go.Proofs.YtkpcmbgnaenbhaaGreatDoor
set_option maxRecDepth 100000
open Go.ChangeShapes Go.WideShapes Go.ChangeAt Go.RowKit Av

/-- One act that came in: its kind, whose it is, the value of its slice, the strings therein. -/
structure ActV where
  op : Int
  who : Int
  v : Value
  ps : List ByteArray
def ActV.cells (a : ActV) : List Value := [.int .i64 a.op, .int .i64 a.who, a.v]
/-- A slice of acts, and what each one's slice holds. -/
def Acts (w : World) (v : Value) (xs : List ActV) : Prop := Sl w 3 v xs.length (xs.flatMap ActV.cells) ∧ ∀ a ∈ xs, Strs w a.v a.ps ∧ (∀ p ∈ a.ps, p.size ≤ maxLen) ∧ (a.v = .slice none 0 0 ∨ ∃ ad l c, a.v = .slice (some ad) l c)
theorem acts_cell : ∀ (xs : List ActV) (k : Nat) (hk : k < xs.length) (j : Nat), j < 3 → (xs.flatMap ActV.cells)[k * 3 + j]? = (xs[k].cells)[j]?
  | [], _, hk, _, _ => by simp at hk
  | a :: xs, 0, _, j, hj => by
    simp only [List.flatMap_cons, List.getElem_cons_zero, Nat.zero_mul, Nat.zero_add]
    rw [List.getElem?_append_left (by simpa [ActV.cells] using hj)]
  | a :: xs, k + 1, hk, j, hj => by
    simp only [List.flatMap_cons, List.getElem_cons_succ]
    rw [List.getElem?_append_right (by simp [ActV.cells]; omega)]
    have := acts_cell xs k (by simpa using hk) j hj
    rw [← this]
    congr 1
    simp [ActV.cells]
    omega
theorem Acts.open {w : World} {v : Value} {xs : List ActV} (h : Acts w v xs) :
    ∃ a c, v = .slice a xs.length c ∧ xs.length ≤ c ∧ xs.length ≤ maxLen ∧ (0 < xs.length → ∃ b off, a = some ⟨b, off, none⟩ ∧ b < w.heap.size ∧ ∀ k (hk : k < xs.length),
      w.cell? ⟨b, off + k * 3, none⟩ = some (.int .i64 xs[k].op) ∧ w.cell? ⟨b, off + k * 3 + 1, none⟩ = some (.int .i64 xs[k].who) ∧ w.cell? ⟨b, off + k * 3 + 2, none⟩ = some xs[k].v) := by
  obtain ⟨a, c, rfl, hcc, h1, _, h3⟩ := Sl.open h.1
  refine ⟨a, c, rfl, hcc, h1, fun hn => ?_⟩
  obtain ⟨b, off, rfl, hb, hc⟩ := h3 hn
  refine ⟨b, off, rfl, hb, fun k hk => ⟨?_, ?_, ?_⟩⟩
  · exact hc (k * 3) _ (by have := acts_cell xs k hk 0 (by omega); simpa [ActV.cells] using this)
  · exact hc (k * 3 + 1) _ (by have := acts_cell xs k hk 1 (by omega); simpa [ActV.cells] using this)
  · exact hc (k * 3 + 2) _ (by have := acts_cell xs k hk 2 (by omega); simpa [ActV.cells] using this)

theorem list_of_each {α : Type} (R : Nat → α → Prop) : ∀ (n : Nat), (∀ i, i < n → ∃ x, R i x) → ∃ xs : List α, xs.length = n ∧ ∀ (i : Nat) (hi : i < xs.length), R i xs[i]
  | 0, _ => ⟨[], rfl, fun i hi => by simp at hi⟩
  | n + 1, h => by
    obtain ⟨xs, hl, hx⟩ := list_of_each R n (fun i hi => h i (by omega))
    obtain ⟨y, hy⟩ := h n (by omega)
    refine ⟨xs ++ [y], by simp [hl], fun i hi => ?_⟩
    simp at hi
    by_cases he : i < xs.length
    · rw [List.getElem_append_left he]; exact hx i he
    · have : i = n := by omega
      subst this
      rw [List.getElem_append_right (by omega)]
      simpa using hy
/-- Rows of three cells each, one behind the other. -/
theorem sl_rows {W : World} {b off len cap : Nat} (xs : List ActV) (hl : xs.length = len) (hm : len ≤ maxLen) (hcc : len ≤ cap) (hb : 0 < len → b < W.heap.size)
    (h : ∀ (i : Nat) (hi : i < xs.length), ∀ j, j < 3 → W.cell? ⟨b, off + i * 3 + j, none⟩ = (xs[i].cells)[j]?) : Sl W 3 (.slice (some ⟨b, off, none⟩) len cap) len (xs.flatMap ActV.cells) := by
  have hfl : (xs.flatMap ActV.cells).length = len * 3 := by
    rw [← hl]
    clear h hl hb
    induction xs with
    | nil => rfl
    | cons x xs ih => simp [ActV.cells] at *; omega
  refine ⟨hfl, hm, _, _, rfl, hcc, ?_⟩
  by_cases h0 : len = 0
  · exact .inl h0
  · refine .inr ⟨b, off, rfl, hb (by omega), fun i x hx => ?_⟩
    have hi : i < len * 3 := by rw [← hfl]; exact (List.getElem?_eq_some_iff.1 hx).1
    have hk : i / 3 < xs.length := by omega
    have h1 := acts_cell xs (i / 3) hk (i % 3) (by omega)
    have h2 := h (i / 3) hk (i % 3) (by omega)
    rw [← h1] at h2
    have e : i / 3 * 3 + i % 3 = i := by omega
    rw [Nat.add_assoc, e] at h2
    rw [h2, hx]

variable {P : Program} {H : Type} {enc : TypeId × Value → H} {W : World}
theorem trod_int1 {t : TypeId} {k : IntKind} {fuel : Nat} {cs : List Value} {x : DataW H × List MemPlace} (ht : P.underlying t = some (.int k)) (h : DataW.trod enc P W 0 (fun _ => true) true fuel t cs = some x) : ∃ n, cs = [.int k n] := by
  cases fuel with
  | zero => simp [DataW.trod] at h
  | succ n =>
    unfold DataW.trod at h
    rw [ht] at h
    split at h <;> simp_all
theorem trod_strs1 {t e : TypeId} {fuel : Nat} {cs : List Value} {x : DataW H × List MemPlace} (ht : P.underlying t = some (.slice e)) (he : P.underlying e = some .string) (hc : P.cellsOf e = 1)
    (h : DataW.trod enc P W 0 (fun _ => true) true fuel t cs = some x) : ∃ v, cs = [v] ∧ (v = .slice none 0 0 ∨ ∃ ad l c, v = .slice (some ad) l c) ∧ ∃ ss : List ByteArray, Strs W v ss ∧ ∀ p ∈ ss, p.size ≤ maxLen := by
  have key : ∀ a0 len cap, cs = [.slice a0 len cap] → ∃ ss : List ByteArray, Strs W (.slice a0 len cap) ss ∧ ∀ p ∈ ss, p.size ≤ maxLen := by
    intro a0 len cap e
    subst e
    exact strs_of_trod ht he hc h
  rcases open_strings ht he hc h with ⟨hcs, _⟩ | ⟨a, len', cap', ss, hcs, _⟩
  · exact ⟨_, hcs, .inl rfl, key _ _ _ hcs⟩
  · exact ⟨_, hcs, .inr ⟨_, _, _, rfl⟩, key _ _ _ hcs⟩
/-- A slice of acts that came in. -/
theorem arg_acts {base : Nat} {r : Reach} {t e ti tw ts te : TypeId} {v : Value} {d : DataW H} {p : List MemPlace} {f0 f1 f2 : Field} (ht : P.underlying t = some (.slice e)) (he : P.underlying e = some (.struct #[f0, f1, f2])) (hc : P.cellsOf e = 3)
    (e0 : f0.type = ti ∧ f0.offset = 0) (e1 : f1.type = tw ∧ f1.offset = 1) (e2 : f2.type = ts ∧ f2.offset = 2) (hti : P.underlying ti = some (.int .i64)) (htw : P.underlying tw = some (.int .i64)) (hts : P.underlying ts = some (.slice te)) (hte : P.underlying te = some .string)
    (c0 : P.cellsOf ti = 1) (c1 : P.cellsOf tw = 1) (c2 : P.cellsOf ts = 1) (c3 : P.cellsOf te = 1)
    (hv : Value.okWide P W r base t v) (h : DataW.Trod enc P W 0 (fun _ => true) true t v d p) : ∃ xs : List ActV, Acts W v xs := by
  obtain ⟨a0, len, cap, rfl⟩ := okWide_slice ht hv
  obtain ⟨n, h⟩ := h
  rcases DataW.trod_slice ht h with ⟨hcs, hx⟩ | ⟨a, len', cap', elems, rest, n', _, hcs, _, _, hl, hm, hlen, hel, _⟩
  · simp [Value.cells] at hcs
    obtain ⟨rfl, rfl, rfl⟩ := hcs
    exact ⟨[], Sl.nil _ _, by simp⟩
  · simp [Value.cells] at hcs
    obtain ⟨rfl, rfl, rfl⟩ := hcs
    have each : ∀ i, i < len → ∃ x : ActV, W.cells? 0 (a.add (i * 3)) 3 = some x.cells ∧ Strs W x.v x.ps ∧ (∀ p ∈ x.ps, p.size ≤ maxLen) ∧ (x.v = .slice none 0 0 ∨ ∃ ad l c, x.v = .slice (some ad) l c) := by
      intro i hi
      have h1 := hel i hi
      rw [hc] at h1
      cases hcs : W.cells? 0 (a.add (i * 3)) 3 with
      | none => rw [hcs] at h1; simp at h1; omega
      | some cs =>
        rw [hcs] at h1
        obtain ⟨y, hy⟩ : ∃ y, elems[i]? = some y := ⟨elems[i], by simp [hlen, hi]⟩
        rw [hy] at h1
        simp only [Option.bind_some] at h1
        obtain ⟨xs, n2, _, _, hlcs, hxl, hf⟩ := DataW.trod_struct he h1
        have q0 := hf 0 f0 rfl
        have q1 := hf 1 f1 rfl
        have q2 := hf 2 f2 rfl
        rw [e0.1, e0.2, c0] at q0
        rw [e1.1, e1.2, c1] at q1
        rw [e2.1, e2.2, c2] at q2
        simp at hxl
        obtain ⟨z0, z1, z2, rfl⟩ : ∃ z0 z1 z2, xs = [z0, z1, z2] := by
          match xs, hxl with
          | [z0, z1, z2], _ => exact ⟨z0, z1, z2, rfl⟩
        rw [hc] at hlcs
        obtain ⟨v0, v1, v2, rfl⟩ : ∃ v0 v1 v2, cs = [v0, v1, v2] := by
          match cs, hlcs with
          | [v0, v1, v2], _ => exact ⟨v0, v1, v2, rfl⟩
        simp at q0 q1 q2
        obtain ⟨i0, hi0⟩ := trod_int1 hti q0
        obtain ⟨i1, hi1⟩ := trod_int1 htw q1
        obtain ⟨w2, hw2, hshape, ss, hss, hsz⟩ := trod_strs1 hts hte c3 q2
        simp at hi0 hi1 hw2
        subst hi0 hi1 hw2
        exact ⟨⟨i0, i1, v2, ss⟩, rfl, hss, hsz, hshape⟩
    obtain ⟨xs, hxl, hxs⟩ := list_of_each _ len each
    refine ⟨xs, ?_, fun y hy => ?_⟩
    · rw [hxl]
      obtain ⟨b, off, spot⟩ := a
      by_cases h0 : len = 0
      · subst h0
        have : xs = [] := List.length_eq_zero_iff.1 hxl
        subst this
        exact ⟨rfl, Nat.zero_le _, _, _, rfl, Nat.zero_le _, .inl rfl⟩
      · have hat := fun i hi => World.cells?_some (hxs i hi).1
        have hfirst := (hat 0 (by omega)).2.2 0 (by omega)
        have hspot : spot = none := by
          have h5 : W.cell? ⟨b, off, spot⟩ = some (.int .i64 xs[0].op) := by simpa [Addr.add, ActV.cells] using hfirst
          simpa using World.cell?_spot h5
        subst hspot
        refine sl_rows xs hxl (by omega) hl (fun _ => ?_) (fun i hi j hj => ?_)
        · have h5 : W.cell? ⟨b, off, none⟩ = some (.int .i64 xs[0].op) := by simpa [Addr.add, ActV.cells] using hfirst
          exact World.block_lt_of_cell? _ _ h5
        · have := (hat i hi).2.2 j hj
          rwa [add_plain, add_plain] at this
    · obtain ⟨i, hi, rfl⟩ := List.getElem_of_mem hy
      exact (hxs i hi).2
end Go.Proofs.YtkpcmbgnaenbhaaGreatDoor
