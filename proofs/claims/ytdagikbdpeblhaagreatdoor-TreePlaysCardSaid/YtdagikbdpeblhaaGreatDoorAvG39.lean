/- Texts put together: AvActs, AvPackLaw, AvReqArg, AvArg, AvActN, AvWHeavy, AvActW, AvWTreeN. -/
import Derived.Test.YtdagikbdpeblhaaGreatDoorAvG1
import Derived.Laws.BitsLemmas
import Derived.Laws.Bits64
import Derived.Test.YtdagikbdpeblhaaGreatDoorAvG38
import Derived.Test.YtdagikbdpeblhaaGreatDoorAvG2
import Derived.Test.YtdagikbdpeblhaaGreatDoorAvG5
import Derived.Test.YtdagikbdpeblhaaGreatDoorAvG8
import Derived.Test.YtdagikbdpeblhaaGreatDoorAvG23
import Derived.Test.YtdagikbdpeblhaaGreatDoorAvG21

/- Slices of acts: three cells each. -/
namespace Go.Proofs.YtdagikbdpeblhaaGreatDoor
set_option maxRecDepth 100000
open Go.ChangeShapes Go.WideShapes Go.ChangeAt Go.RowKit Av

/-- One act that came in: its kind, whose it is, the value of its slice, the strings therein. -/
structure ActV where
  op : Int
  who : Int
  v : Value
  ps : List ByteArray
def ActV.cells (a : ActV) : List Value := [.int .i64 a.op, .int .i64 a.who, a.v]
/-- A slice of acts, and what each one's slice holds. -/
def Acts (w : World) (v : Value) (xs : List ActV) : Prop := Sl w 3 v xs.length (xs.flatMap ActV.cells) ∧ ∀ a ∈ xs, Strs w a.v a.ps ∧ (∀ p ∈ a.ps, p.size ≤ maxLen) ∧ (a.v = .slice none 0 0 ∨ ∃ ad l c, a.v = .slice (some ad) l c)
theorem acts_cell : ∀ (xs : List ActV) (k : Nat) (hk : k < xs.length) (j : Nat), j < 3 → (xs.flatMap ActV.cells)[k * 3 + j]? = (xs[k].cells)[j]?
  | [], _, hk, _, _ => by simp at hk
  | a :: xs, 0, _, j, hj => by
    simp only [List.flatMap_cons, List.getElem_cons_zero, Nat.zero_mul, Nat.zero_add]
    rw [List.getElem?_append_left (by simpa [ActV.cells] using hj)]
  | a :: xs, k + 1, hk, j, hj => by
    simp only [List.flatMap_cons, List.getElem_cons_succ]
    rw [List.getElem?_append_right (by simp [ActV.cells]; omega)]
    have := acts_cell xs k (by simpa using hk) j hj
    rw [← this]
    congr 1
    simp [ActV.cells]
    omega
theorem Acts.open {w : World} {v : Value} {xs : List ActV} (h : Acts w v xs) :
    ∃ a c, v = .slice a xs.length c ∧ xs.length ≤ c ∧ xs.length ≤ maxLen ∧ (0 < xs.length → ∃ b off, a = some ⟨b, off, none⟩ ∧ b < w.heap.size ∧ ∀ k (hk : k < xs.length),
      w.cell? ⟨b, off + k * 3, none⟩ = some (.int .i64 xs[k].op) ∧ w.cell? ⟨b, off + k * 3 + 1, none⟩ = some (.int .i64 xs[k].who) ∧ w.cell? ⟨b, off + k * 3 + 2, none⟩ = some xs[k].v) := by
  obtain ⟨a, c, rfl, hcc, h1, _, h3⟩ := Sl.open h.1
  refine ⟨a, c, rfl, hcc, h1, fun hn => ?_⟩
  obtain ⟨b, off, rfl, hb, hc⟩ := h3 hn
  refine ⟨b, off, rfl, hb, fun k hk => ⟨?_, ?_, ?_⟩⟩
  · exact hc (k * 3) _ (by have := acts_cell xs k hk 0 (by omega); simpa [ActV.cells] using this)
  · exact hc (k * 3 + 1) _ (by have := acts_cell xs k hk 1 (by omega); simpa [ActV.cells] using this)
  · exact hc (k * 3 + 2) _ (by have := acts_cell xs k hk 2 (by omega); simpa [ActV.cells] using this)

theorem list_of_each {α : Type} (R : Nat → α → Prop) : ∀ (n : Nat), (∀ i, i < n → ∃ x, R i x) → ∃ xs : List α, xs.length = n ∧ ∀ (i : Nat) (hi : i < xs.length), R i xs[i]
  | 0, _ => ⟨[], rfl, fun i hi => by simp at hi⟩
  | n + 1, h => by
    obtain ⟨xs, hl, hx⟩ := list_of_each R n (fun i hi => h i (by omega))
    obtain ⟨y, hy⟩ := h n (by omega)
    refine ⟨xs ++ [y], by simp [hl], fun i hi => ?_⟩
    simp at hi
    by_cases he : i < xs.length
    · rw [List.getElem_append_left he]; exact hx i he
    · have : i = n := by omega
      subst this
      rw [List.getElem_append_right (by omega)]
      simpa using hy
variable {P : Program} {H : Type} {enc : TypeId × Value → H} {W : World}
end Go.Proofs.YtdagikbdpeblhaaGreatDoor

/- Chapter 2 in plain Lean: numbers and texts in bytes, and back. No program. -/
namespace Av
set_option maxRecDepth 100000
open Go Go.RowKit
/-- An int64. -/
def I64 (v : Int) : Prop := -9223372036854775808 ≤ v ∧ v ≤ 9223372036854775807
def byteAt (v : Int) (i : Nat) : UInt8 := UInt8.ofNat ((v / 2 ^ (8 * i)) % 256).toNat
def be8 (v : Int) : Bs := [byteAt v 7, byteAt v 6, byteAt v 5, byteAt v 4, byteAt v 3, byteAt v 2, byteAt v 1, byteAt v 0]
def fold8 (l : Bs) : Nat := l.foldl (fun u b => u * 256 + b.toNat) 0
def un8 (l : Bs) : Int := wrap64 (fold8 l)
attribute [local irreducible] be8 un8

/-! A reader: what is left, or that something was not there. -/
end Av

/- Ops and requests that come in. -/
namespace Go.Proofs.YtdagikbdpeblhaaGreatDoor
set_option maxRecDepth 100000
open Go.ChangeShapes Go.WideShapes Go.ChangeAt Go.RowKit Av

/-- An op's numbers are int64s. -/
def Op64 (o : OpV) : Prop := I64 o.kind ∧ I64 o.ver ∧ I64 o.flags
/-- Rows of K cells each, one behind the other. -/
theorem sl_rowsK {α : Type} (f : α → List Value) (K : Nat) (hf : ∀ x, (f x).length = K) (hK : 0 < K) {W : World} {b off len cap : Nat} (xs : List α) (hl : xs.length = len) (hm : len ≤ maxLen) (hcc : len ≤ cap) (hb : 0 < len → b < W.heap.size)
    (h : ∀ (i : Nat) (hi : i < xs.length), ∀ j, j < K → W.cell? ⟨b, off + i * K + j, none⟩ = (f xs[i])[j]?) : Sl W K (.slice (some ⟨b, off, none⟩) len cap) len (xs.flatMap f) := by
  have hfl : (xs.flatMap f).length = len * K := by rw [rows_len f K hf, hl]
  refine ⟨hfl, hm, _, _, rfl, hcc, ?_⟩
  by_cases h0 : len = 0
  · exact .inl h0
  · refine .inr ⟨b, off, rfl, hb (by omega), fun i x hx => ?_⟩
    have hi : i < len * K := by rw [← hfl]; exact (List.getElem?_eq_some_iff.1 hx).1
    have hk : i / K < xs.length := by rw [hl]; exact Nat.div_lt_of_lt_mul (by rwa [Nat.mul_comm])
    have hr : i % K < K := Nat.mod_lt _ hK
    have h1 := rows_cell f K hf xs (i / K) hk (i % K) hr
    have h2 := h (i / K) hk (i % K) hr
    rw [← h1] at h2
    have e : i / K * K + i % K = i := by rw [Nat.mul_comm]; exact Nat.div_add_mod i K
    rw [Nat.add_assoc, e] at h2
    rw [h2, hx]

section
variable {P : Program} {H : Type} {enc : TypeId × Value → H} {W : World}
theorem trod_i64 {t : TypeId} {fuel : Nat} {cs : List Value} {x : DataW H × List MemPlace} (ht : P.underlying t = some (.int .i64)) (h : DataW.trod enc P W 0 (fun _ => true) true fuel t cs = some x) : ∃ n, cs = [.int .i64 n] ∧ I64 n := by
  obtain ⟨n, rfl, _, hw⟩ := DataW.trod_int ht h
  refine ⟨n, rfl, ?_⟩
  rw [Lit.wf, Bool.and_eq_true] at hw
  exact ⟨of_decide_eq_true hw.1, of_decide_eq_true hw.2⟩
theorem trod_str1 {t : TypeId} {fuel : Nat} {cs : List Value} {x : DataW H × List MemPlace} (ht : P.underlying t = some .string) (h : DataW.trod enc P W 0 (fun _ => true) true fuel t cs = some x) : ∃ s, cs = [.string s] ∧ s.size ≤ maxLen := by
  cases fuel with
  | zero => simp [DataW.trod] at h
  | succ n =>
    unfold DataW.trod at h
    rw [ht] at h
    split at h <;> simp_all
end
section
variable {H : Type} {enc : TypeId × Value → H} {W : World}
theorem trod_op {fuel : Nat} {cs : List Value} {x : DataW H × List MemPlace} (h : DataW.trod enc Tryz.prog W 0 (fun _ => true) true fuel 33 cs = some x) : ∃ o : OpV, cs = o.cells ∧ o.path.size ≤ maxLen ∧ o.data.size ≤ maxLen ∧ Op64 o := by
  obtain ⟨xs, n2, _, _, hlcs, hxl, hf⟩ := DataW.trod_struct Tryz.underlying33 h
  have q0 := hf 0 _ rfl
  have q1 := hf 1 _ rfl
  have q2 := hf 2 _ rfl
  have q3 := hf 3 _ rfl
  have q4 := hf 4 _ rfl
  have k3 : Program.cellsOf Tryz.prog 3 = 1 := by kernel_rfl
  have k9 : Program.cellsOf Tryz.prog 9 = 1 := by kernel_rfl
  have k5 : Program.cellsOf Tryz.prog 33 = 5 := by kernel_rfl
  simp at hxl
  obtain ⟨z0, z1, z2, z3, z4, rfl⟩ : ∃ z0 z1 z2 z3 z4, xs = [z0, z1, z2, z3, z4] := by
    match xs, hxl with
    | [z0, z1, z2, z3, z4], _ => exact ⟨z0, z1, z2, z3, z4, rfl⟩
  rw [k5] at hlcs
  obtain ⟨v0, v1, v2, v3, v4, rfl⟩ : ∃ v0 v1 v2 v3 v4, cs = [v0, v1, v2, v3, v4] := by
    match cs, hlcs with
    | [v0, v1, v2, v3, v4], _ => exact ⟨v0, v1, v2, v3, v4, rfl⟩
  simp [k3, k9] at q0 q1 q2 q3 q4
  obtain ⟨i0, e0, b0⟩ := trod_i64 Tryz.underlying3 q0
  obtain ⟨i1, e1, b1⟩ := trod_str1 Tryz.underlying9 q1
  obtain ⟨i2, e2, b2⟩ := trod_str1 Tryz.underlying9 q2
  obtain ⟨i3, e3, b3⟩ := trod_i64 Tryz.underlying3 q3
  obtain ⟨i4, e4, b4⟩ := trod_i64 Tryz.underlying3 q4
  simp at e0 e1 e2 e3 e4
  subst e0 e1 e2 e3 e4
  exact ⟨⟨i0, i1, i2, i3, i4⟩, rfl, b1, b2, b0, b3, b4⟩
end
end Go.Proofs.YtdagikbdpeblhaaGreatDoor

/- Slices that come in, whatever their elements are. -/
namespace Go.Proofs.YtdagikbdpeblhaaGreatDoor
set_option maxRecDepth 100000
open Go.ChangeShapes Go.WideShapes Go.ChangeAt Go.RowKit Av
section
variable {P : Program} {H : Type} {enc : TypeId × Value → H} {W : World}
/-- A slice of elements of K cells each; what an element says is shown by 'elem'. -/
theorem trod_sl {α : Type} (f : α → List Value) (K : Nat) (Pr : α → Prop) (hf : ∀ x, (f x).length = K) (hK : 0 < K) {t e : TypeId} (ht : P.underlying t = some (.slice e)) (hc : P.cellsOf e = K)
    (elem : ∀ (fuel : Nat) (cs : List Value) (x : DataW H × List MemPlace), DataW.trod enc P W 0 (fun _ => true) true fuel e cs = some x → ∃ o : α, cs = f o ∧ Pr o)
    {fuel : Nat} {cs : List Value} {x : DataW H × List MemPlace} (h : DataW.trod enc P W 0 (fun _ => true) true fuel t cs = some x) : ∃ v, cs = [v] ∧ ∃ xs : List α, Sl W K v xs.length (xs.flatMap f) ∧ Shp v ∧ ∀ o ∈ xs, Pr o := by
  rcases DataW.trod_slice ht h with ⟨rfl, hx⟩ | ⟨a, len, cap, elems, rest, n', _, rfl, _, _, hl, hm, hlen, hel, _⟩
  · exact ⟨_, rfl, [], Sl.nil W K, .inl rfl, fun o ho => by (cases ho)⟩
  · refine ⟨_, rfl, ?_⟩
    have each : ∀ i, i < len → ∃ o : α, W.cells? 0 (a.add (i * K)) K = some (f o) ∧ Pr o := by
      intro i hi
      have h1 := hel i hi
      rw [hc] at h1
      cases hcs : W.cells? 0 (a.add (i * K)) K with
      | none => rw [hcs] at h1; simp at h1; omega
      | some cs =>
        rw [hcs] at h1
        obtain ⟨y, hy⟩ : ∃ y, elems[i]? = some y := ⟨elems[i], by simp [hlen, hi]⟩
        rw [hy] at h1
        simp only [Option.bind_some] at h1
        obtain ⟨o, rfl, ho⟩ := elem _ _ _ h1
        exact ⟨o, rfl, ho⟩
    obtain ⟨xs, hxl, hxs⟩ := list_of_each _ len each
    refine ⟨xs, ?_, Shp.some, fun o ho => ?_⟩
    · rw [hxl]
      obtain ⟨b, off, spot⟩ := a
      by_cases h0 : len = 0
      · subst h0
        obtain rfl : xs = [] := List.length_eq_zero_iff.1 hxl
        exact ⟨by simp, Nat.zero_le _, _, _, rfl, hl, .inl rfl⟩
      · have hat := fun i hi => World.cells?_some (hxs i hi).1
        obtain ⟨v0, hv0⟩ : ∃ v0, (f (xs[0]'(by omega)))[0]? = some v0 := ⟨(f (xs[0]'(by omega)))[0]'(by rw [hf]; exact hK), List.getElem?_eq_getElem _⟩
        have hfirst := (hat 0 (by omega)).2.2 0 (by omega)
        rw [hv0] at hfirst
        have h5 : W.cell? ⟨b, off, spot⟩ = some v0 := by simpa [Addr.add] using hfirst
        have hspot : spot = none := by simpa using World.cell?_spot h5
        subst hspot
        refine sl_rowsK f K hf hK xs hxl (by omega) hl (fun _ => World.block_lt_of_cell? _ _ h5) (fun i hi j hj => ?_)
        have := (hat i hi).2.2 j hj
        rwa [add_plain, add_plain] at this
    · obtain ⟨i, hi, rfl⟩ := List.getElem_of_mem ho
      exact (hxs i hi).2
theorem flat_one {α : Type} (g : α → Value) : ∀ xs : List α, xs.flatMap (fun x => [g x]) = xs.map g
  | [] => rfl
  | x :: xs => by rw [List.flatMap_cons, flat_one g xs]; rfl
end
end Go.Proofs.YtdagikbdpeblhaaGreatDoor

/- Acts on trees that come in: arguments. -/
namespace Go.Proofs.YtdagikbdpeblhaaGreatDoor
set_option maxRecDepth 100000
open Go.ChangeShapes Go.WideShapes Go.ChangeAt Go.RowKit Av

/-- One act: which, the op, whose, when, the node. -/
structure ActN where
  op : Int
  o : OpV
  sess : Int
  z : Int
  n : NodeV
  nv : Value
def ActN.cells (a : ActN) : List Value := [.int .i64 a.op, .int .i64 a.o.kind, .string a.o.path, .string a.o.data, .int .i64 a.o.ver, .int .i64 a.o.flags, .int .i64 a.sess, .int .i64 a.z, .int .i64 a.n.made, .int .i64 a.n.chg, .int .i64 a.n.ver, .int .i64 a.n.kids, .int .i64 a.n.own, .int .i64 a.n.len, .int .i64 a.n.cnt, .string a.n.data, .int .i64 a.n.next, a.nv]
/-- What is known of an act that comes in. -/
structure ActOk (W : World) (a : ActN) : Prop where
  path : a.o.path.size ≤ maxLen
  data : a.o.data.size ≤ maxLen
  ndata : a.n.data.size ≤ maxLen
  names : NmS W a.nv a.n.names
  nsize : ∀ s ∈ a.n.names, s.length ≤ maxLen
  i64 : Op64 a.o ∧ I64 a.op ∧ I64 a.sess ∧ I64 a.z
  n64 : I64 a.n.ver ∧ I64 a.n.kids ∧ I64 a.n.next
section
variable {H : Type} {enc : TypeId × Value → H} {W : World}
theorem trod_names {fuel : Nat} {cs : List Value} {x : DataW H × List MemPlace} (h : DataW.trod enc Tryz.prog W 0 (fun _ => true) true fuel 36 cs = some x) : ∃ v, cs = [v] ∧ ∃ l : List Bs, NmS W v l ∧ ∀ s ∈ l, s.length ≤ maxLen := by
  obtain ⟨v, e, xs, h1, h2, h3⟩ := trod_sl (fun s : Bs => [encStr s]) 1 (fun s => s.length ≤ maxLen) (fun _ => rfl) (by decide) Tryz.underlying36 (by kernel_rfl) (fun fuel cs x hx => by
    obtain ⟨s, rfl, hs⟩ := trod_str1 Tryz.underlying9 hx
    exact ⟨s.data.toList, by simp [encStr], by rw [← Lib.size_eq]; exact hs⟩) h
  rw [flat_one] at h1
  exact ⟨v, e, xs, ⟨h1, h2⟩, h3⟩
theorem trod_stat {fuel : Nat} {cs : List Value} {x : DataW H × List MemPlace} (h : DataW.trod enc Tryz.prog W 0 (fun _ => true) true fuel 35 cs = some x) : ∃ a b c d e f g : Int, cs = [.int .i64 a, .int .i64 b, .int .i64 c, .int .i64 d, .int .i64 e, .int .i64 f, .int .i64 g] ∧ I64 c ∧ I64 d := by
  obtain ⟨xs, n2, _, _, hlcs, hxl, hf⟩ := DataW.trod_struct Tryz.underlying35 h
  have q0 := hf 0 _ rfl
  have q1 := hf 1 _ rfl
  have q2 := hf 2 _ rfl
  have q3 := hf 3 _ rfl
  have q4 := hf 4 _ rfl
  have q5 := hf 5 _ rfl
  have q6 := hf 6 _ rfl
  have k2 : Program.cellsOf Tryz.prog 2 = 1 := by kernel_rfl
  have k3 : Program.cellsOf Tryz.prog 3 = 1 := by kernel_rfl
  have k5 : Program.cellsOf Tryz.prog 35 = 7 := by kernel_rfl
  simp at hxl
  obtain ⟨z0, z1, z2, z3, z4, z5, z6, rfl⟩ : ∃ z0 z1 z2 z3 z4 z5 z6, xs = [z0, z1, z2, z3, z4, z5, z6] := by
    match xs, hxl with
    | [z0, z1, z2, z3, z4, z5, z6], _ => exact ⟨z0, z1, z2, z3, z4, z5, z6, rfl⟩
  rw [k5] at hlcs
  obtain ⟨v0, v1, v2, v3, v4, v5, v6, rfl⟩ : ∃ v0 v1 v2 v3 v4 v5 v6, cs = [v0, v1, v2, v3, v4, v5, v6] := by
    match cs, hlcs with
    | [v0, v1, v2, v3, v4, v5, v6], _ => exact ⟨v0, v1, v2, v3, v4, v5, v6, rfl⟩
  simp [k2, k3] at q0 q1 q2 q3 q4 q5 q6
  obtain ⟨i0, e0, _⟩ := trod_i64 Tryz.underlying2 q0
  obtain ⟨i1, e1, _⟩ := trod_i64 Tryz.underlying2 q1
  obtain ⟨i2, e2, b2⟩ := trod_i64 Tryz.underlying3 q2
  obtain ⟨i3, e3, b3⟩ := trod_i64 Tryz.underlying3 q3
  obtain ⟨i4, e4, _⟩ := trod_i64 Tryz.underlying2 q4
  obtain ⟨i5, e5, _⟩ := trod_i64 Tryz.underlying3 q5
  obtain ⟨i6, e6, _⟩ := trod_i64 Tryz.underlying3 q6
  simp at e0 e1 e2 e3 e4 e5 e6
  subst e0 e1 e2 e3 e4 e5 e6
  exact ⟨i0, i1, i2, i3, i4, i5, i6, rfl, b2, b3⟩
theorem trod_nd {fuel : Nat} {cs : List Value} {x : DataW H × List MemPlace} (h : DataW.trod enc Tryz.prog W 0 (fun _ => true) true fuel 38 cs = some x) : ∃ (n : NodeV) (nv : Value), cs = (ndA n nv).toList ∧ n.data.size ≤ maxLen ∧ NmS W nv n.names ∧ (∀ s ∈ n.names, s.length ≤ maxLen) ∧ I64 n.ver ∧ I64 n.kids ∧ I64 n.next := by
  obtain ⟨xs, n2, _, _, hlcs, hxl, hf⟩ := DataW.trod_struct Tryz.underlying38 h
  have q0 := hf 0 _ rfl
  have q1 := hf 1 _ rfl
  have q2 := hf 2 _ rfl
  have q3 := hf 3 _ rfl
  have k3 : Program.cellsOf Tryz.prog 3 = 1 := by kernel_rfl
  have k9 : Program.cellsOf Tryz.prog 9 = 1 := by kernel_rfl
  have k7 : Program.cellsOf Tryz.prog 35 = 7 := by kernel_rfl
  have k1 : Program.cellsOf Tryz.prog 36 = 1 := by kernel_rfl
  have k5 : Program.cellsOf Tryz.prog 38 = 10 := by kernel_rfl
  simp at hxl
  obtain ⟨z0, z1, z2, z3, rfl⟩ : ∃ z0 z1 z2 z3, xs = [z0, z1, z2, z3] := by
    match xs, hxl with
    | [z0, z1, z2, z3], _ => exact ⟨z0, z1, z2, z3, rfl⟩
  rw [k5] at hlcs
  obtain ⟨v0, v1, v2, v3, v4, v5, v6, v7, v8, v9, rfl⟩ : ∃ v0 v1 v2 v3 v4 v5 v6 v7 v8 v9, cs = [v0, v1, v2, v3, v4, v5, v6, v7, v8, v9] := by
    match cs, hlcs with
    | [v0, v1, v2, v3, v4, v5, v6, v7, v8, v9], _ => exact ⟨v0, v1, v2, v3, v4, v5, v6, v7, v8, v9, rfl⟩
  simp [k3, k9, k7, k1] at q0 q1 q2 q3
  obtain ⟨i0, i1, i2, i3, i4, i5, i6, e0, b2, b3⟩ := trod_stat q0
  obtain ⟨s7, e7, b7⟩ := trod_str1 Tryz.underlying9 q1
  obtain ⟨i8, e8, b8⟩ := trod_i64 Tryz.underlying3 q2
  obtain ⟨nv, e9, l, h9, hl9⟩ := trod_names q3
  simp at e0 e7 e8 e9
  obtain ⟨rfl, rfl, rfl, rfl, rfl, rfl, rfl⟩ := e0
  subst e7 e8 e9
  exact ⟨⟨i0, i1, i2, i3, i4, i5, i6, s7, i8, l⟩, _, rfl, b7, h9, hl9, b2, b3, b8⟩
theorem trod_act {fuel : Nat} {cs : List Value} {x : DataW H × List MemPlace} (h : DataW.trod enc Tryz.prog W 0 (fun _ => true) true fuel 40 cs = some x) : ∃ a : ActN, cs = a.cells ∧ ActOk W a := by
  obtain ⟨xs, n2, _, _, hlcs, hxl, hf⟩ := DataW.trod_struct Tryz.underlying40 h
  have q0 := hf 0 _ rfl
  have q1 := hf 1 _ rfl
  have q2 := hf 2 _ rfl
  have q3 := hf 3 _ rfl
  have q4 := hf 4 _ rfl
  have k3 : Program.cellsOf Tryz.prog 3 = 1 := by kernel_rfl
  have k2 : Program.cellsOf Tryz.prog 2 = 1 := by kernel_rfl
  have k6 : Program.cellsOf Tryz.prog 33 = 5 := by kernel_rfl
  have k7 : Program.cellsOf Tryz.prog 38 = 10 := by kernel_rfl
  have k5 : Program.cellsOf Tryz.prog 40 = 18 := by kernel_rfl
  simp at hxl
  obtain ⟨z0, z1, z2, z3, z4, rfl⟩ : ∃ z0 z1 z2 z3 z4, xs = [z0, z1, z2, z3, z4] := by
    match xs, hxl with
    | [z0, z1, z2, z3, z4], _ => exact ⟨z0, z1, z2, z3, z4, rfl⟩
  rw [k5] at hlcs
  obtain ⟨v0, v1, v2, v3, v4, v5, v6, v7, v8, v9, va, vb, vc, vd, ve, vf, vg, vh, rfl⟩ : ∃ v0 v1 v2 v3 v4 v5 v6 v7 v8 v9 va vb vc vd ve vf vg vh, cs = [v0, v1, v2, v3, v4, v5, v6, v7, v8, v9, va, vb, vc, vd, ve, vf, vg, vh] := by
    match cs, hlcs with
    | [v0, v1, v2, v3, v4, v5, v6, v7, v8, v9, va, vb, vc, vd, ve, vf, vg, vh], _ => exact ⟨v0, v1, v2, v3, v4, v5, v6, v7, v8, v9, va, vb, vc, vd, ve, vf, vg, vh, rfl⟩
  simp [k3, k2, k6, k7] at q0 q1 q2 q3 q4
  obtain ⟨i0, e0, b0⟩ := trod_i64 Tryz.underlying3 q0
  obtain ⟨o, e1, b1, b2, b3⟩ := trod_op q1
  obtain ⟨i2, e2, b4⟩ := trod_i64 Tryz.underlying2 q2
  obtain ⟨i3, e3, b5⟩ := trod_i64 Tryz.underlying2 q3
  obtain ⟨n, nv, e4, b6, b7, b8, b9, b10, b11⟩ := trod_nd q4
  unfold OpV.cells at e1
  unfold ndA at e4
  simp at e0 e1 e2 e3 e4
  obtain ⟨rfl, rfl, rfl, rfl, rfl⟩ := e1
  obtain ⟨rfl, rfl, rfl, rfl, rfl, rfl, rfl, rfl, rfl, rfl⟩ := e4
  subst e0 e2 e3
  exact ⟨⟨i0, o, i2, i3, n, _⟩, rfl, ⟨b1, b2, b6, b7, b8, ⟨b3, b0, b4, b5⟩, b9, b10, b11⟩⟩
end
/-- A slice of acts that can be read. -/
def ActsN (w : World) (v : Value) (xs : List ActN) : Prop := Sl w 18 v xs.length (xs.flatMap ActN.cells) ∧ ∀ a ∈ xs, ActOk w a
theorem arg_actsn {H : Type} {enc : TypeId × Value → H} {W : World} {base : Nat} {r : Reach} {v : Value} {d : DataW H} {p : List MemPlace} (hv : Value.okWide Tryz.prog W r base 22 v) (h : DataW.Trod enc Tryz.prog W 0 (fun _ => true) true 22 v d p) :
    ∃ xs : List ActN, ActsN W v xs := by
  obtain ⟨a0, len, cap, rfl⟩ := okWide_slice Tryz.underlying22 hv
  obtain ⟨n, h⟩ := h
  obtain ⟨v', hcs, xs, h1, _, h3⟩ := trod_sl ActN.cells 18 (ActOk W) (fun _ => rfl) (by decide) Tryz.underlying22 (by kernel_rfl) (fun fuel cs x hx => trod_act hx) h
  simp only [Value.cells, List.cons.injEq, and_true] at hcs
  subst hcs
  exact ⟨xs, h1, h3⟩
end Go.Proofs.YtdagikbdpeblhaaGreatDoor

/- Walks of package aviarylaw11: heavy, has. -/
namespace Go.Proofs.YtdagikbdpeblhaaGreatDoor
set_option maxRecDepth 100000
open Go.RowKit Av

structure Light (a : ActN) : Prop where
  path : a.o.path.size ≤ 300
  data : a.o.data.size ≤ 1100
  few : a.n.names.length ≤ 20
  ndata : a.n.data.size ≤ 1100
  short : ∀ s ∈ a.n.names, s.length ≤ 60
def HeavyPost (w : World) (a : ActN) (e : Ending) (w' : World) : Prop := ∃ r : Bool, e = .returned (.bool r) ∧ (r = false → Light a) ∧ Ext w w'
def HvLoop (l : List Bs) (s3 : Value) : Prop := ∃ k : Nat, k ≤ l.length ∧ s3 = .int .i64 k ∧ ∀ j (h : j < l.length), j < k → l[j].length ≤ 60
set_option maxHeartbeats 3200000 in
theorem heavy_any (a : ActN) (w : World) (h : ActOk w a) : Calls Tryz.prog 7 #[.agg a.cells.toArray] w fun e w' => HeavyPost w a e w' := by
  obtain ⟨op, ⟨k, p, d, v, f⟩, sess, z, n, nv⟩ := a
  obtain ⟨na, nc, e0, _⟩ := Sl.open h.names.1
  obtain rfl : nv = .slice na n.names.length nc := e0
  obtain ⟨l, hl⟩ : ∃ l, n.names = l := ⟨_, rfl⟩
  obtain ⟨dd, hdd⟩ : ∃ x, n.data = x := ⟨_, rfl⟩
  have hnm : NmS w (.slice na l.length nc) l := by have := h.names; simp only [hl] at this; exact this
  obtain ⟨_, _, hsl, _, hm, _, hop⟩ := Sl.open hnm.1
  simp only [Value.slice.injEq, true_and] at hsl
  obtain ⟨rfl, rfl⟩ := hsl
  have hop' : 0 < l.length → ∃ g off, na = some ⟨g, off, none⟩ ∧ ∀ k (hk : k < l.length), w.cell? ⟨g, off + k, none⟩ = some (encStr l[k]) := fun h0 => by
    obtain ⟨g, off, e2, _, hc⟩ := hop h0
    exact ⟨g, off, e2, fun k hk => hc k _ (by rw [List.getElem?_map, List.getElem?_eq_getElem hk]; rfl)⟩
  have HOP := Lib.hid hop'
  have HLT : Hid (p.size ≤ 300 → d.size ≤ 1100 → l.length ≤ 20 → dd.size ≤ 1100 → (∀ s ∈ l, s.length ≤ 60) → Light ⟨op, ⟨k, p, d, v, f⟩, sess, z, n, .slice na l.length nc⟩) := fun h1 h2 h3 h4 h5 => ⟨h1, h2, by rw [hl]; exact h3, by rw [hdd]; exact h4, by rw [hl]; exact h5⟩
  unfold ActN.cells
  simp only [hl, hdd]
  obtain ⟨wA, hWA⟩ : ∃ wA, w.alloc (.cells #[.int .i64 op, .int .i64 k, .string p, .string d, .int .i64 v, .int .i64 f, .int .i64 sess, .int .i64 z, .int .i64 n.made, .int .i64 n.chg, .int .i64 n.ver, .int .i64 n.kids, .int .i64 n.own, .int .i64 n.len, .int .i64 n.cnt, .string dd, .int .i64 n.next, .slice na l.length nc] 40) = wA := ⟨_, rfl⟩
  have hxA : Ext w wA := by rw [← hWA]; exact (Kp.refl _ _).alloc _
  have hA : Blk wA w.heap.size #[.int .i64 op, .int .i64 k, .string p, .string d, .int .i64 v, .int .i64 f, .int .i64 sess, .int .i64 z, .int .i64 n.made, .int .i64 n.chg, .int .i64 n.ver, .int .i64 n.kids, .int .i64 n.own, .int .i64 n.len, .int .i64 n.cnt, .string dd, .int .i64 n.next, .slice na l.length nc] 40 := by rw [← hWA]; exact heap_alloc_new w _
  have c2 := hA.cell 2 _ rfl
  have c3 := hA.cell 3 _ rfl
  have c15 := hA.cell 15 _ rfl
  have c17 := hA.cell 17 _ rfl
  have HXA := Lib.hid hxA
  have HWA := Lib.hid hWA
  generalize (⟨op, ⟨k, p, d, v, f⟩, sess, z, n, .slice na l.length nc⟩ : ActN) = A at HLT ⊢
  clear hWA hxA hA h hnm hop hop' hl hdd
  go_enter Tryz.func7, Tryz.ntmps7
  go_upto_region 1 with (fail)
  rw [HWA.out]
  by_cases h1 : p.size ≤ 300
  · have t1 : ¬ (300 : Int) < (p.size : Int) := by omega
    by_cases h2 : d.size ≤ 1100
    · have t2 : ¬ (1100 : Int) < (d.size : Int) := by omega
      by_cases h3 : l.length ≤ 20
      · have t3 : ¬ (20 : Int) < (l.length : Int) := by omega
        by_cases h4 : dd.size ≤ 1100
        · have t4 : ¬ (1100 : Int) < (dd.size : Int) := by omega
          go_wp2_with (fail)
          go_loop [3] (fun s3 => HvLoop l s3) (fun s3 => l.length - (intOf s3).toNat)
          case atStart => exact ⟨0, Nat.zero_le _, rfl, fun j _ hj => by omega⟩
          case round =>
            obtain ⟨q, hq, rfl, hall⟩ := hrel
            have HALL := Lib.hid hall
            clear hall
            by_cases hlt : q < l.length
            · obtain ⟨g, off, rfl, hcl⟩ := HOP.out (by omega)
              have hc := HXA.out.cell (hcl q hlt) (fun f => f)
              obtain ⟨s, hs⟩ : ∃ s, l[q] = s := ⟨_, rfl⟩
              rw [hs] at hc
              obtain ⟨pp, hp⟩ : ∃ pp : ByteArray, ⟨s.toArray⟩ = pp := ⟨_, rfl⟩
              have hps : pp.size = s.length := by rw [← hp, Lib.size_eq]
              unfold encStr at hc
              rw [hp] at hc
              have HS := Lib.hid hs
              clear hs hp hcl
              by_cases h5 : s.length ≤ 60
              · have t5 : ¬ (60 : Int) < (pp.size : Int) := by omega
                go_wp2_with (fail)
                go_light
                exact ⟨⟨q + 1, by omega, by go_num, fun j hj hjq => by
                  by_cases e : j = q
                  · subst e; rw [HS.out]; exact h5
                  · exact HALL.out j hj (by omega)⟩, by simp [intOf]; omega⟩
              · have t5 : (60 : Int) < (pp.size : Int) := by omega
                go_wp2_with (fail)
                go_ret
                exact ⟨true, rfl, fun h => (by cases h), HXA.out⟩
            · go_wp2_with (fail)
              go_ret
              exact ⟨false, rfl, fun _ => HLT.out h1 h2 h3 h4 (fun s hs => by
                obtain ⟨j, hj, rfl⟩ := List.getElem_of_mem hs
                exact HALL.out j hj (by omega)), HXA.out⟩
        · have t4 : (1100 : Int) < (dd.size : Int) := by omega
          go_wp2_with (fail)
          go_ret
          exact ⟨true, rfl, fun h => (by cases h), HXA.out⟩
      · have t3 : (20 : Int) < (l.length : Int) := by omega
        go_wp2_with (fail)
        go_ret
        exact ⟨true, rfl, fun h => (by cases h), HXA.out⟩
    · have t2 : (1100 : Int) < (d.size : Int) := by omega
      go_wp2_with (fail)
      go_ret
      exact ⟨true, rfl, fun h => (by cases h), HXA.out⟩
  · have t1 : (300 : Int) < (p.size : Int) := by omega
    go_wp2_with (fail)
    go_ret
    exact ⟨true, rfl, fun h => (by cases h), HXA.out⟩
end Go.Proofs.YtdagikbdpeblhaaGreatDoor

/- Acts on a law's tree: what they leave. -/
namespace Go.Proofs.YtdagikbdpeblhaaGreatDoor
set_option maxRecDepth 100000
open Go.RowKit Av

theorem ActsN.open {w : World} {v : Value} {xs : List ActN} (h : ActsN w v xs) : ∃ a c, v = .slice a xs.length c ∧ xs.length ≤ maxLen ∧ (0 < xs.length → ∃ b off, a = some ⟨b, off, none⟩ ∧ b < w.heap.size ∧ ∀ k (hk : k < xs.length) i u, i < 18 → xs[k].cells[i]? = some u → w.cell? ⟨b, off + k * 18 + i, none⟩ = some u) := by
  obtain ⟨a, c, rfl, _, hm, hop⟩ := Sl.rows (f := ActN.cells) (K := 18) (fun _ => rfl) h.1
  refine ⟨a, c, rfl, hm, fun h0 => ?_⟩
  obtain ⟨b, off, rfl, hb, hc⟩ := hop h0
  exact ⟨b, off, rfl, hb, hc⟩
/-- What is known of a tree that acts have made. -/
structure GoodT (room : Int) (S : List Int) (P : Pt) : Prop where
  snd : SoundP room P
  free : PtN P
  parts : AllN PartsOk P
  owned : AllN (OwnedBy S) P
theorem GoodT.nil {room : Int} (h : 0 ≤ room) (S : List Int) : GoodT room S [] := ⟨SoundP.nil h, fun e he => by (cases he), AllN.nil _, AllN.nil _⟩
theorem GoodT.step {room : Int} {S : List Int} {P : Pt} (h : GoodT room S P) {K : Nat} (hk : PtK K P) (o : OpV) {sess : Int} (z : Int) (hs : 1 ≤ sess → sess ∈ S) : GoodT room S (doP room P o sess z false).1 :=
  ⟨h.snd.doP hk h.free _ _ _, h.free.doP _ _ _ _ _, h.parts.doP (partsOk_inv o sess z) _ _, h.owned.doP (ownedBy_inv o z hs) _ _⟩
end Go.Proofs.YtdagikbdpeblhaaGreatDoor

/- Walks of package tree: Copy. -/
namespace Go.Proofs.YtdagikbdpeblhaaGreatDoor
set_option maxRecDepth 100000
open Go.RowKit Av
end Go.Proofs.YtdagikbdpeblhaaGreatDoor
