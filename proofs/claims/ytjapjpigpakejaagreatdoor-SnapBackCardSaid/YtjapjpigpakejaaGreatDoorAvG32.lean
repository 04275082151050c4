/- Texts put together: AvActN, AvWHeavy, AvActW, AvWTreeN. -/
import Derived.Test.YtjapjpigpakejaaGreatDoorAvG31
import Derived.Test.YtjapjpigpakejaaGreatDoorAvG5
import Derived.Test.YtjapjpigpakejaaGreatDoorAvG8
import Derived.Test.YtjapjpigpakejaaGreatDoorAvG11
import Derived.Test.YtjapjpigpakejaaGreatDoorAvG26
import Derived.Test.YtjapjpigpakejaaGreatDoorAvG25

/- Acts on trees that come in: arguments. -/
namespace Go.Proofs.YtjapjpigpakejaaGreatDoor
set_option maxRecDepth 100000
open Go.ChangeShapes Go.WideShapes Go.ChangeAt Go.RowKit Av

/-- One act: which, the op, whose, when, the node. -/
structure ActN where
  op : Int
  o : OpV
  sess : Int
  z : Int
  n : NodeV
  nv : Value
def ActN.cells (a : ActN) : List Value := [.int .i64 a.op, .int .i64 a.o.kind, .string a.o.path, .string a.o.data, .int .i64 a.o.ver, .int .i64 a.o.flags, .int .i64 a.sess, .int .i64 a.z, .int .i64 a.n.made, .int .i64 a.n.chg, .int .i64 a.n.ver, .int .i64 a.n.kids, .int .i64 a.n.own, .int .i64 a.n.len, .int .i64 a.n.cnt, .string a.n.data, .int .i64 a.n.next, a.nv]
/-- What is known of an act that comes in. -/
structure ActOk (W : World) (a : ActN) : Prop where
  path : a.o.path.size ≤ maxLen
  data : a.o.data.size ≤ maxLen
  ndata : a.n.data.size ≤ maxLen
  names : NmS W a.nv a.n.names
  nsize : ∀ s ∈ a.n.names, s.length ≤ maxLen
  i64 : Op64 a.o ∧ I64 a.op ∧ I64 a.sess ∧ I64 a.z
  n64 : I64 a.n.ver ∧ I64 a.n.kids ∧ I64 a.n.next
section
variable {H : Type} {enc : TypeId × Value → H} {W : World}
theorem trod_names {fuel : Nat} {cs : List Value} {x : DataW H × List MemPlace} (h : DataW.trod enc Tryz.prog W 0 (fun _ => true) true fuel 33 cs = some x) : ∃ v, cs = [v] ∧ ∃ l : List Bs, NmS W v l ∧ ∀ s ∈ l, s.length ≤ maxLen := by
  obtain ⟨v, e, xs, h1, h2, h3⟩ := trod_sl (fun s : Bs => [encStr s]) 1 (fun s => s.length ≤ maxLen) (fun _ => rfl) (by decide) Tryz.underlying33 (by kernel_rfl) (fun fuel cs x hx => by
    obtain ⟨s, rfl, hs⟩ := trod_str1 Tryz.underlying9 hx
    exact ⟨s.data.toList, by simp [encStr], by rw [← Lib.size_eq]; exact hs⟩) h
  rw [flat_one] at h1
  exact ⟨v, e, xs, ⟨h1, h2⟩, h3⟩
theorem trod_stat {fuel : Nat} {cs : List Value} {x : DataW H × List MemPlace} (h : DataW.trod enc Tryz.prog W 0 (fun _ => true) true fuel 32 cs = some x) : ∃ a b c d e f g : Int, cs = [.int .i64 a, .int .i64 b, .int .i64 c, .int .i64 d, .int .i64 e, .int .i64 f, .int .i64 g] ∧ I64 c ∧ I64 d := by
  obtain ⟨xs, n2, _, _, hlcs, hxl, hf⟩ := DataW.trod_struct Tryz.underlying32 h
  have q0 := hf 0 _ rfl
  have q1 := hf 1 _ rfl
  have q2 := hf 2 _ rfl
  have q3 := hf 3 _ rfl
  have q4 := hf 4 _ rfl
  have q5 := hf 5 _ rfl
  have q6 := hf 6 _ rfl
  have k2 : Program.cellsOf Tryz.prog 2 = 1 := by kernel_rfl
  have k3 : Program.cellsOf Tryz.prog 3 = 1 := by kernel_rfl
  have k5 : Program.cellsOf Tryz.prog 32 = 7 := by kernel_rfl
  simp at hxl
  obtain ⟨z0, z1, z2, z3, z4, z5, z6, rfl⟩ : ∃ z0 z1 z2 z3 z4 z5 z6, xs = [z0, z1, z2, z3, z4, z5, z6] := by
    match xs, hxl with
    | [z0, z1, z2, z3, z4, z5, z6], _ => exact ⟨z0, z1, z2, z3, z4, z5, z6, rfl⟩
  rw [k5] at hlcs
  obtain ⟨v0, v1, v2, v3, v4, v5, v6, rfl⟩ : ∃ v0 v1 v2 v3 v4 v5 v6, cs = [v0, v1, v2, v3, v4, v5, v6] := by
    match cs, hlcs with
    | [v0, v1, v2, v3, v4, v5, v6], _ => exact ⟨v0, v1, v2, v3, v4, v5, v6, rfl⟩
  simp [k2, k3] at q0 q1 q2 q3 q4 q5 q6
  obtain ⟨i0, e0, _⟩ := trod_i64 Tryz.underlying2 q0
  obtain ⟨i1, e1, _⟩ := trod_i64 Tryz.underlying2 q1
  obtain ⟨i2, e2, b2⟩ := trod_i64 Tryz.underlying3 q2
  obtain ⟨i3, e3, b3⟩ := trod_i64 Tryz.underlying3 q3
  obtain ⟨i4, e4, _⟩ := trod_i64 Tryz.underlying2 q4
  obtain ⟨i5, e5, _⟩ := trod_i64 Tryz.underlying3 q5
  obtain ⟨i6, e6, _⟩ := trod_i64 Tryz.underlying3 q6
  simp at e0 e1 e2 e3 e4 e5 e6
  subst e0 e1 e2 e3 e4 e5 e6
  exact ⟨i0, i1, i2, i3, i4, i5, i6, rfl, b2, b3⟩
theorem trod_nd {fuel : Nat} {cs : List Value} {x : DataW H × List MemPlace} (h : DataW.trod enc Tryz.prog W 0 (fun _ => true) true fuel 35 cs = some x) : ∃ (n : NodeV) (nv : Value), cs = (ndA n nv).toList ∧ n.data.size ≤ maxLen ∧ NmS W nv n.names ∧ (∀ s ∈ n.names, s.length ≤ maxLen) ∧ I64 n.ver ∧ I64 n.kids ∧ I64 n.next := by
  obtain ⟨xs, n2, _, _, hlcs, hxl, hf⟩ := DataW.trod_struct Tryz.underlying35 h
  have q0 := hf 0 _ rfl
  have q1 := hf 1 _ rfl
  have q2 := hf 2 _ rfl
  have q3 := hf 3 _ rfl
  have k3 : Program.cellsOf Tryz.prog 3 = 1 := by kernel_rfl
  have k9 : Program.cellsOf Tryz.prog 9 = 1 := by kernel_rfl
  have k7 : Program.cellsOf Tryz.prog 32 = 7 := by kernel_rfl
  have k1 : Program.cellsOf Tryz.prog 33 = 1 := by kernel_rfl
  have k5 : Program.cellsOf Tryz.prog 35 = 10 := by kernel_rfl
  simp at hxl
  obtain ⟨z0, z1, z2, z3, rfl⟩ : ∃ z0 z1 z2 z3, xs = [z0, z1, z2, z3] := by
    match xs, hxl with
    | [z0, z1, z2, z3], _ => exact ⟨z0, z1, z2, z3, rfl⟩
  rw [k5] at hlcs
  obtain ⟨v0, v1, v2, v3, v4, v5, v6, v7, v8, v9, rfl⟩ : ∃ v0 v1 v2 v3 v4 v5 v6 v7 v8 v9, cs = [v0, v1, v2, v3, v4, v5, v6, v7, v8, v9] := by
    match cs, hlcs with
    | [v0, v1, v2, v3, v4, v5, v6, v7, v8, v9], _ => exact ⟨v0, v1, v2, v3, v4, v5, v6, v7, v8, v9, rfl⟩
  simp [k3, k9, k7, k1] at q0 q1 q2 q3
  obtain ⟨i0, i1, i2, i3, i4, i5, i6, e0, b2, b3⟩ := trod_stat q0
  obtain ⟨s7, e7, b7⟩ := trod_str1 Tryz.underlying9 q1
  obtain ⟨i8, e8, b8⟩ := trod_i64 Tryz.underlying3 q2
  obtain ⟨nv, e9, l, h9, hl9⟩ := trod_names q3
  simp at e0 e7 e8 e9
  obtain ⟨rfl, rfl, rfl, rfl, rfl, rfl, rfl⟩ := e0
  subst e7 e8 e9
  exact ⟨⟨i0, i1, i2, i3, i4, i5, i6, s7, i8, l⟩, _, rfl, b7, h9, hl9, b2, b3, b8⟩
theorem trod_act {fuel : Nat} {cs : List Value} {x : DataW H × List MemPlace} (h : DataW.trod enc Tryz.prog W 0 (fun _ => true) true fuel 37 cs = some x) : ∃ a : ActN, cs = a.cells ∧ ActOk W a := by
  obtain ⟨xs, n2, _, _, hlcs, hxl, hf⟩ := DataW.trod_struct Tryz.underlying37 h
  have q0 := hf 0 _ rfl
  have q1 := hf 1 _ rfl
  have q2 := hf 2 _ rfl
  have q3 := hf 3 _ rfl
  have q4 := hf 4 _ rfl
  have k3 : Program.cellsOf Tryz.prog 3 = 1 := by kernel_rfl
  have k2 : Program.cellsOf Tryz.prog 2 = 1 := by kernel_rfl
  have k6 : Program.cellsOf Tryz.prog 30 = 5 := by kernel_rfl
  have k7 : Program.cellsOf Tryz.prog 35 = 10 := by kernel_rfl
  have k5 : Program.cellsOf Tryz.prog 37 = 18 := by kernel_rfl
  simp at hxl
  obtain ⟨z0, z1, z2, z3, z4, rfl⟩ : ∃ z0 z1 z2 z3 z4, xs = [z0, z1, z2, z3, z4] := by
    match xs, hxl with
    | [z0, z1, z2, z3, z4], _ => exact ⟨z0, z1, z2, z3, z4, rfl⟩
  rw [k5] at hlcs
  obtain ⟨v0, v1, v2, v3, v4, v5, v6, v7, v8, v9, va, vb, vc, vd, ve, vf, vg, vh, rfl⟩ : ∃ v0 v1 v2 v3 v4 v5 v6 v7 v8 v9 va vb vc vd ve vf vg vh, cs = [v0, v1, v2, v3, v4, v5, v6, v7, v8, v9, va, vb, vc, vd, ve, vf, vg, vh] := by
    match cs, hlcs with
    | [v0, v1, v2, v3, v4, v5, v6, v7, v8, v9, va, vb, vc, vd, ve, vf, vg, vh], _ => exact ⟨v0, v1, v2, v3, v4, v5, v6, v7, v8, v9, va, vb, vc, vd, ve, vf, vg, vh, rfl⟩
  simp [k3, k2, k6, k7] at q0 q1 q2 q3 q4
  obtain ⟨i0, e0, b0⟩ := trod_i64 Tryz.underlying3 q0
  obtain ⟨o, e1, b1, b2, b3⟩ := trod_op q1
  obtain ⟨i2, e2, b4⟩ := trod_i64 Tryz.underlying2 q2
  obtain ⟨i3, e3, b5⟩ := trod_i64 Tryz.underlying2 q3
  obtain ⟨n, nv, e4, b6, b7, b8, b9, b10, b11⟩ := trod_nd q4
  unfold OpV.cells at e1
  unfold ndA at e4
  simp at e0 e1 e2 e3 e4
  obtain ⟨rfl, rfl, rfl, rfl, rfl⟩ := e1
  obtain ⟨rfl, rfl, rfl, rfl, rfl, rfl, rfl, rfl, rfl, rfl⟩ := e4
  subst e0 e2 e3
  exact ⟨⟨i0, o, i2, i3, n, _⟩, rfl, ⟨b1, b2, b6, b7, b8, ⟨b3, b0, b4, b5⟩, b9, b10, b11⟩⟩
end
/-- A slice of acts that can be read. -/
def ActsN (w : World) (v : Value) (xs : List ActN) : Prop := Sl w 18 v xs.length (xs.flatMap ActN.cells) ∧ ∀ a ∈ xs, ActOk w a
theorem arg_actsn {H : Type} {enc : TypeId × Value → H} {W : World} {base : Nat} {r : Reach} {v : Value} {d : DataW H} {p : List MemPlace} (hv : Value.okWide Tryz.prog W r base 22 v) (h : DataW.Trod enc Tryz.prog W 0 (fun _ => true) true 22 v d p) :
    ∃ xs : List ActN, ActsN W v xs := by
  obtain ⟨a0, len, cap, rfl⟩ := okWide_slice Tryz.underlying22 hv
  obtain ⟨n, h⟩ := h
  obtain ⟨v', hcs, xs, h1, _, h3⟩ := trod_sl ActN.cells 18 (ActOk W) (fun _ => rfl) (by decide) Tryz.underlying22 (by kernel_rfl) (fun fuel cs x hx => trod_act hx) h
  simp only [Value.cells, List.cons.injEq, and_true] at hcs
  subst hcs
  exact ⟨xs, h1, h3⟩
end Go.Proofs.YtjapjpigpakejaaGreatDoor

/- Walks of package aviarylaw11: heavy, has. -/
namespace Go.Proofs.YtjapjpigpakejaaGreatDoor
set_option maxRecDepth 100000
open Go.RowKit Av

structure Light (a : ActN) : Prop where
  path : a.o.path.size ≤ 300
  data : a.o.data.size ≤ 1100
  few : a.n.names.length ≤ 20
  ndata : a.n.data.size ≤ 1100
  short : ∀ s ∈ a.n.names, s.length ≤ 60
def HeavyPost (w : World) (a : ActN) (e : Ending) (w' : World) : Prop := ∃ r : Bool, e = .returned (.bool r) ∧ (r = false → Light a) ∧ Ext w w'
def HvLoop (l : List Bs) (s3 : Value) : Prop := ∃ k : Nat, k ≤ l.length ∧ s3 = .int .i64 k ∧ ∀ j (h : j < l.length), j < k → l[j].length ≤ 60
set_option maxHeartbeats 3200000 in
theorem heavy_any (a : ActN) (w : World) (h : ActOk w a) : Calls Tryz.prog 11 #[.agg a.cells.toArray] w fun e w' => HeavyPost w a e w' := by
  obtain ⟨op, ⟨k, p, d, v, f⟩, sess, z, n, nv⟩ := a
  obtain ⟨na, nc, e0, _⟩ := Sl.open h.names.1
  obtain rfl : nv = .slice na n.names.length nc := e0
  obtain ⟨l, hl⟩ : ∃ l, n.names = l := ⟨_, rfl⟩
  obtain ⟨dd, hdd⟩ : ∃ x, n.data = x := ⟨_, rfl⟩
  have hnm : NmS w (.slice na l.length nc) l := by have := h.names; simp only [hl] at this; exact this
  obtain ⟨_, _, hsl, _, hm, _, hop⟩ := Sl.open hnm.1
  simp only [Value.slice.injEq, true_and] at hsl
  obtain ⟨rfl, rfl⟩ := hsl
  have hop' : 0 < l.length → ∃ g off, na = some ⟨g, off, none⟩ ∧ ∀ k (hk : k < l.length), w.cell? ⟨g, off + k, none⟩ = some (encStr l[k]) := fun h0 => by
    obtain ⟨g, off, e2, _, hc⟩ := hop h0
    exact ⟨g, off, e2, fun k hk => hc k _ (by rw [List.getElem?_map, List.getElem?_eq_getElem hk]; rfl)⟩
  have HOP := Lib.hid hop'
  have HLT : Hid (p.size ≤ 300 → d.size ≤ 1100 → l.length ≤ 20 → dd.size ≤ 1100 → (∀ s ∈ l, s.length ≤ 60) → Light ⟨op, ⟨k, p, d, v, f⟩, sess, z, n, .slice na l.length nc⟩) := fun h1 h2 h3 h4 h5 => ⟨h1, h2, by rw [hl]; exact h3, by rw [hdd]; exact h4, by rw [hl]; exact h5⟩
  unfold ActN.cells
  simp only [hl, hdd]
  obtain ⟨wA, hWA⟩ : ∃ wA, w.alloc (.cells #[.int .i64 op, .int .i64 k, .string p, .string d, .int .i64 v, .int .i64 f, .int .i64 sess, .int .i64 z, .int .i64 n.made, .int .i64 n.chg, .int .i64 n.ver, .int .i64 n.kids, .int .i64 n.own, .int .i64 n.len, .int .i64 n.cnt, .string dd, .int .i64 n.next, .slice na l.length nc] 37) = wA := ⟨_, rfl⟩
  have hxA : Ext w wA := by rw [← hWA]; exact (Kp.refl _ _).alloc _
  have hA : Blk wA w.heap.size #[.int .i64 op, .int .i64 k, .string p, .string d, .int .i64 v, .int .i64 f, .int .i64 sess, .int .i64 z, .int .i64 n.made, .int .i64 n.chg, .int .i64 n.ver, .int .i64 n.kids, .int .i64 n.own, .int .i64 n.len, .int .i64 n.cnt, .string dd, .int .i64 n.next, .slice na l.length nc] 37 := by rw [← hWA]; exact heap_alloc_new w _
  have c2 := hA.cell 2 _ rfl
  have c3 := hA.cell 3 _ rfl
  have c15 := hA.cell 15 _ rfl
  have c17 := hA.cell 17 _ rfl
  have HXA := Lib.hid hxA
  have HWA := Lib.hid hWA
  generalize (⟨op, ⟨k, p, d, v, f⟩, sess, z, n, .slice na l.length nc⟩ : ActN) = A at HLT ⊢
  clear hWA hxA hA h hnm hop hop' hl hdd
  go_enter Tryz.func11, Tryz.ntmps11
  go_upto_region 1 with (fail)
  rw [HWA.out]
  by_cases h1 : p.size ≤ 300
  · have t1 : ¬ (300 : Int) < (p.size : Int) := by omega
    by_cases h2 : d.size ≤ 1100
    · have t2 : ¬ (1100 : Int) < (d.size : Int) := by omega
      by_cases h3 : l.length ≤ 20
      · have t3 : ¬ (20 : Int) < (l.length : Int) := by omega
        by_cases h4 : dd.size ≤ 1100
        · have t4 : ¬ (1100 : Int) < (dd.size : Int) := by omega
          go_wp2_with (fail)
          go_loop [3] (fun s3 => HvLoop l s3) (fun s3 => l.length - (intOf s3).toNat)
          case atStart => exact ⟨0, Nat.zero_le _, rfl, fun j _ hj => by omega⟩
          case round =>
            obtain ⟨q, hq, rfl, hall⟩ := hrel
            have HALL := Lib.hid hall
            clear hall
            by_cases hlt : q < l.length
            · obtain ⟨g, off, rfl, hcl⟩ := HOP.out (by omega)
              have hc := HXA.out.cell (hcl q hlt) (fun f => f)
              obtain ⟨s, hs⟩ : ∃ s, l[q] = s := ⟨_, rfl⟩
              rw [hs] at hc
              obtain ⟨pp, hp⟩ : ∃ pp : ByteArray, ⟨s.toArray⟩ = pp := ⟨_, rfl⟩
              have hps : pp.size = s.length := by rw [← hp, Lib.size_eq]
              unfold encStr at hc
              rw [hp] at hc
              have HS := Lib.hid hs
              clear hs hp hcl
              by_cases h5 : s.length ≤ 60
              · have t5 : ¬ (60 : Int) < (pp.size : Int) := by omega
                go_wp2_with (fail)
                go_light
                exact ⟨⟨q + 1, by omega, by go_num, fun j hj hjq => by
                  by_cases e : j = q
                  · subst e; rw [HS.out]; exact h5
                  · exact HALL.out j hj (by omega)⟩, by simp [intOf]; omega⟩
              · have t5 : (60 : Int) < (pp.size : Int) := by omega
                go_wp2_with (fail)
                go_ret
                exact ⟨true, rfl, fun h => (by cases h), HXA.out⟩
            · go_wp2_with (fail)
              go_ret
              exact ⟨false, rfl, fun _ => HLT.out h1 h2 h3 h4 (fun s hs => by
                obtain ⟨j, hj, rfl⟩ := List.getElem_of_mem hs
                exact HALL.out j hj (by omega)), HXA.out⟩
        · have t4 : (1100 : Int) < (dd.size : Int) := by omega
          go_wp2_with (fail)
          go_ret
          exact ⟨true, rfl, fun h => (by cases h), HXA.out⟩
      · have t3 : (20 : Int) < (l.length : Int) := by omega
        go_wp2_with (fail)
        go_ret
        exact ⟨true, rfl, fun h => (by cases h), HXA.out⟩
    · have t2 : (1100 : Int) < (d.size : Int) := by omega
      go_wp2_with (fail)
      go_ret
      exact ⟨true, rfl, fun h => (by cases h), HXA.out⟩
  · have t1 : (300 : Int) < (p.size : Int) := by omega
    go_wp2_with (fail)
    go_ret
    exact ⟨true, rfl, fun h => (by cases h), HXA.out⟩
def HasLoop (l : List Bs) (x : Bs) (s5 : Value) : Prop := ∃ k : Nat, k ≤ l.length ∧ s5 = .int .i64 k ∧ ∀ j (h : j < l.length), j < k → l[j] ≠ x
set_option maxHeartbeats 800000 in
theorem has_any (v : Value) (l : List Bs) (x : Bs) (w : World) (h : NmS w v l) : Calls Tryz.prog 17 #[v, .string ⟨x.toArray⟩] w fun e w' => e = .returned (.bool (decide (x ∈ l))) ∧ w = w' := by
  obtain ⟨a, c, rfl, _, hm, _, hop⟩ := Sl.open h.1
  have hop' : 0 < l.length → ∃ g off, a = some ⟨g, off, none⟩ ∧ ∀ k (hk : k < l.length), w.cell? ⟨g, off + k, none⟩ = some (encStr l[k]) := fun h0 => by
    obtain ⟨g, off, e2, _, hc⟩ := hop h0
    exact ⟨g, off, e2, fun k hk => hc k _ (by rw [List.getElem?_map, List.getElem?_eq_getElem hk]; rfl)⟩
  have HOP := Lib.hid hop'
  obtain ⟨q, hq⟩ : ∃ q : ByteArray, ⟨x.toArray⟩ = q := ⟨_, rfl⟩
  have hql : q.toList = x := by rw [← hq, Lib.toList_data]
  rw [hq]
  have HQ := Lib.hid hql
  unfold maxLen at hm
  clear hop hop' h hq hql
  go_enter Tryz.func17, Tryz.ntmps17
  go_wp2_with (fail)
  go_loop [5] (fun s5 => HasLoop l x s5) (fun s5 => l.length - (intOf s5).toNat)
  case atStart => exact ⟨0, Nat.zero_le _, rfl, fun j _ hj => by omega⟩
  case round =>
    obtain ⟨k, hk, rfl, hall⟩ := hrel
    have HALL := Lib.hid hall
    clear hall
    by_cases hlt : k < l.length
    · obtain ⟨g, off, rfl, hcl⟩ := HOP.out (by omega)
      have hc := hcl k hlt
      obtain ⟨s, hs⟩ : ∃ s, l[k] = s := ⟨_, rfl⟩
      rw [hs] at hc
      obtain ⟨p, hp⟩ : ∃ p : ByteArray, ⟨s.toArray⟩ = p := ⟨_, rfl⟩
      have hpl : p.toList = s := by rw [← hp, Lib.toList_data]
      unfold encStr at hc
      rw [hp] at hc
      have HS := Lib.hid hs
      by_cases h5 : s = x
      · have e1 : (p.toList == q.toList) = true := by rw [hpl, HQ.out, h5]; simp
        have HM : Hid (x ∈ l) := by show _ ∈ _; rw [← h5, ← HS.out]; exact List.getElem_mem hlt
        clear hs hp hcl hpl h5
        go_wp2_with (fail)
        go_ret
        exact ⟨ret_bool (by rw [decide_eq_true HM.out]), rfl⟩
      · have e1 : (p.toList == q.toList) = false := by rw [hpl, HQ.out]; simpa using h5
        clear hs hp hcl hpl
        go_wp2_with (fail)
        go_light
        exact ⟨⟨k + 1, by omega, by go_num, fun j hj hjq => by
          by_cases e : j = k
          · subst e; rw [HS.out]; exact h5
          · exact HALL.out j hj (by omega)⟩, by simp [intOf]; omega⟩
    · have HM : Hid (x ∉ l) := fun hx => by
        obtain ⟨j, hj, e⟩ := List.getElem_of_mem hx
        exact HALL.out j hj (by omega) e
      go_wp2_with (fail)
      go_ret
      exact ⟨ret_bool (by rw [decide_eq_false HM.out]), rfl⟩
end Go.Proofs.YtjapjpigpakejaaGreatDoor

/- Acts on a law's tree: what they leave. -/
namespace Go.Proofs.YtjapjpigpakejaaGreatDoor
set_option maxRecDepth 100000
open Go.RowKit Av

theorem ActsN.open {w : World} {v : Value} {xs : List ActN} (h : ActsN w v xs) : ∃ a c, v = .slice a xs.length c ∧ xs.length ≤ maxLen ∧ (0 < xs.length → ∃ b off, a = some ⟨b, off, none⟩ ∧ b < w.heap.size ∧ ∀ k (hk : k < xs.length) i u, i < 18 → xs[k].cells[i]? = some u → w.cell? ⟨b, off + k * 18 + i, none⟩ = some u) := by
  obtain ⟨a, c, rfl, _, hm, hop⟩ := Sl.rows (f := ActN.cells) (K := 18) (fun _ => rfl) h.1
  refine ⟨a, c, rfl, hm, fun h0 => ?_⟩
  obtain ⟨b, off, rfl, hb, hc⟩ := hop h0
  exact ⟨b, off, rfl, hb, hc⟩
/-- What is known of a tree that acts have made. -/
structure GoodT (room : Int) (S : List Int) (P : Pt) : Prop where
  snd : SoundP room P
  free : PtN P
  parts : AllN PartsOk P
  owned : AllN (OwnedBy S) P
theorem GoodT.nil {room : Int} (h : 0 ≤ room) (S : List Int) : GoodT room S [] := ⟨SoundP.nil h, fun e he => by (cases he), AllN.nil _, AllN.nil _⟩
theorem GoodT.step {room : Int} {S : List Int} {P : Pt} (h : GoodT room S P) {K : Nat} (hk : PtK K P) (o : OpV) {sess : Int} (z : Int) (hs : 1 ≤ sess → sess ∈ S) : GoodT room S (doP room P o sess z false).1 :=
  ⟨h.snd.doP hk h.free _ _ _, h.free.doP _ _ _ _ _, h.parts.doP (partsOk_inv o sess z) _ _, h.owned.doP (ownedBy_inv o z hs) _ _⟩
/-- The tree behind some acts. -/
def ActRel (w0 : World) (room : Int) (xs : List ActN) (b m : Nat) (s7 : Value) (wr : World) : Prop := ∃ (i : Nat) (t : Tr), i ≤ xs.length ∧ s7 = .int .i64 i ∧ TS w0 wr b m room i t ∧ GoodT room (xs.map (·.sess)) (pl t)
theorem acts_step {w0 wr w' : World} {room : Int} {xs : List ActN} {b m i : Nat} {t : Tr} (hg : GoodT room (xs.map (·.sess)) (pl t)) (hts : TS w0 wr b m room i t) (hi : i < xs.length) {a : ActN} (ha : a.sess ∈ xs.map (·.sess)) {e : Ending} {s7 : Value} (h7 : s7 = .int .i64 ((i + 1 : Nat) : Int)) (h : TDone w0 wr b m room i t (doP room (pl t) a.o a.sess a.z false) e w') : ActRel w0 room xs b m s7 w' := by
  obtain ⟨t', nv, _, _, h1, h2, _, _⟩ := h
  exact ⟨i + 1, t', by omega, h7, h1, by rw [h2]; exact hg.step hts.pk _ _ (fun _ => ha)⟩
end Go.Proofs.YtjapjpigpakejaaGreatDoor

/- Walks of package tree: Copy. -/
namespace Go.Proofs.YtjapjpigpakejaaGreatDoor
set_option maxRecDepth 100000
open Go.RowKit Av

theorem iter_obj {w : World} {r m : Nat} {es left : List (ByteArray × Value)} (h : Iter Value.string w r m es left) : (∀ cur T f, w.heap[r]? ≠ some (Obj.cells cur T f)) ∧ ∀ e c, w.heap[r]? ≠ some (Obj.map e c) := by
  obtain ⟨L, c, s, sn, _, _, h2, _⟩ := h
  exact ⟨fun cur T f e => by rw [h2] at e; simp at e, fun q c e => by rw [h2] at e; simp at e⟩
/-- The iterator moves on: a tree stands. -/
theorem TreeR.iter {w w' : World} {base b m : Nat} {room : Int} {t : Tr} (h : TreeR w base b m room t) {r m0 : Nat} {es left : List (ByteArray × Value)} (hit : Iter Value.string w r m0 es left) (k : Kp (fun i => i = r) w w') : TreeR w' base b m room t := by
  obtain ⟨h1, h2⟩ := iter_obj hit
  refine h.apart k (fun i hi (hs : i = r) => ?_) (fun i (hs : i = r) _ cur f => by rw [hs]; exact h1 _ _ _)
  rw [← hs] at h1 h2
  rcases hi with rfl | rfl | ⟨e, he, rfl⟩
  · exact h1 _ _ _ (show w.heap[i]? = some (Obj.cells #[.int .i64 room, .map (some m)] trT (0, 0)) from h.blk)
  · obtain ⟨L, clock, hr, _⟩ := h.map
    exact h2 _ _ hr.1
  · obtain ⟨nv, h4, _⟩ := h.nod e he
    exact h1 _ _ _ (show w.heap[e.2.1]? = some (Obj.cells (ndA e.2.2 nv) ndT (0, 0)) from h4)
def CopyRel (w : World) (t : Tr) (room : Int) (m b2 m2 r : Nat) (wr : World) : Prop :=
  ∃ left t2, Iter Value.string wr r m (ptrs t) left ∧ TreeR wr w.heap.size b2 m2 room t2 ∧ (∀ p, mget (pl t2) p = if p ∈ left.map (·.1) then none else mget (pl t) p) ∧ Ext w wr ∧ w.heap.size + 2 ≤ r
def CopyPost (w : World) (room : Int) (t : Tr) (e : Ending) (w' : World) : Prop :=
  ∃ b' m' t', e = .returned (.pointer (some ⟨b', 0, none⟩)) ∧ TreeR w' w.heap.size b' m' room t' ∧ (∀ p, mget (pl t') p = mget (pl t) p) ∧ Ext w w'
set_option maxHeartbeats 3200000 in
theorem treeCopy_any (base b m : Nat) (room : Int) (t : Tr) (w : World) (hT : TreeR w base b m room t) (hok : TrOk t) :
    Calls Tryz.prog 38 #[.pointer (some ⟨b, 0, none⟩)] w fun e w' => CopyPost w room t e w' := by
  have hmm := @run_makeMap Tryz.prog
  obtain ⟨wB, hWB⟩ : ∃ wB, (w.alloc (.map #[] 0)).alloc (.cells #[.int .i64 room, .map (some w.heap.size)] trT) = wB := ⟨_, rfl⟩
  have hxB : Ext w wB := by rw [← hWB]; exact ((Kp.refl _ _).alloc _).alloc _
  have h2 : TreeR wB w.heap.size (w.heap.size + 1) w.heap.size room [] := by
    refine ⟨⟨by omega, by omega, fun e he => by (cases he)⟩, ?_, ?_, fun e he => by (cases he), fun e he => by (cases he)⟩
    · rw [← hWB]
      have := heap_alloc_new (w.alloc (.map #[] 0)) (.cells #[.int .i64 room, .map (some w.heap.size)] trT)
      rw [World.size_alloc] at this
      exact this
    · rw [← hWB]
      exact (MapK.new w).kp ((Kp.refl (fun _ => False) _).alloc _) (fun f => f)
  have hTB := hT.ext hxB
  have c0 := hT.blk.cell 0 _ rfl
  have c1 := hTB.blk.cell 1 _ rfl
  obtain ⟨w3, hrun, hit, hx3, hsz⟩ := MapK.range tNodes hTB.map
  have HIT := Lib.hid hit
  have H2 := Lib.hid (h2.ext hx3)
  have HX3 := Lib.hid (hxB.ext hx3)
  have HT := Lib.hid hT
  have HOK := Lib.hid hok
  have hrs : w.heap.size + 2 ≤ wB.heap.size := by rw [← hWB]; simp
  generalize hr : wB.heap.size = r at hrun HIT hrs
  have HRS := Lib.hid hrs
  have HWB := Lib.hid hWB
  clear hWB hxB h2 hTB hT hok hit hx3 hsz hr hrs
  go_enter Tryz.func38, Tryz.ntmps38
  go_upto_region 2 with (fail)
  rw [HWB.out]
  go_wp2_with (fail)
  go_loopw [] (fun wr => CopyRel w t room m (w.heap.size + 1) w.heap.size r wr) (fun wr => itLeft wr r m)
  case atStart =>
    refine ⟨_, [], HIT.out, H2.out, fun p => ?_, HX3.out, HRS.out⟩
    show none = _
    split
    · rfl
    · rename_i h
      symm
      rw [pl_get]
      have : mget t p = none := mget_none.2 (fun hm => h (by unfold ptrs; rw [List.map_map]; exact hm))
      rw [this]; rfl
  case round =>
    obtain ⟨left, t2, hit, ht2, hget, hxr, hwr⟩ := hrel
    rcases hit.next (P := Tryz.prog) with ⟨rfl, hnx⟩ | ⟨q, v, w', hmem, hnx, hit', hkp, hsz, hen⟩
    · have HR2 := Lib.hid ht2
      have HG := Lib.hid hget
      have HXR := Lib.hid hxr
      clear hit ht2 hget hxr
      go_wp2_with (fail)
      go_ret
      exact ⟨_, _, t2, rfl, HR2.out, fun p => by rw [HG.out]; simp, HXR.out⟩
    · obtain ⟨e0, he0, hev⟩ := List.mem_map.1 (hit.sub.subset hmem)
      obtain ⟨q', g, n⟩ := e0
      simp only [Prod.mk.injEq] at hev
      obtain ⟨rfl, rfl⟩ := hev
      have hxq : Ext w w' := hxr.next hkp (fun i hi e => by omega)
      have ht2' : TreeR w' w.heap.size (w.heap.size + 1) w.heap.size room t2 := ht2.iter hit hkp
      obtain ⟨nv, hnb, hno⟩ : NdAt w' g n := (HT.out.ext hxq).nod _ he0
      obtain ⟨na, nc, rfl⟩ := owns_slice hno
      have HCP := Lib.hid (statCopied_any n (.slice na n.names.length nc) w' (names_own hno) (HOK.out _ he0).few)
      have HGET : Hid (∀ p, (if p = q' then some n else mget (pl t2) p) = if p ∈ (mdel left q').map (·.1) then none else mget (pl t) p) := by
        intro p
        have hmd : p ∈ (mdel left q').map (·.1) ↔ p ∈ left.map (·.1) ∧ p ≠ q' := by
          unfold mdel
          simp only [List.mem_map, List.mem_filter, decide_eq_true_eq]
          constructor
          · rintro ⟨e, ⟨he, hne⟩, rfl⟩
            exact ⟨⟨e, he, rfl⟩, fun h => hne h.symm⟩
          · rintro ⟨⟨e, he, rfl⟩, hne⟩
            exact ⟨e, ⟨he, fun h => hne h.symm⟩, rfl⟩
        by_cases hp : p = q'
        · rw [if_pos hp, if_neg (fun h => (hmd.1 h).2 hp), hp, pl_get, mget_of_mem HT.out.keys he0]; rfl
        · rw [if_neg hp, hget]
          by_cases hl : p ∈ left.map (·.1)
          · rw [if_pos hl, if_pos (hmd.2 ⟨hl, hp⟩)]
          · rw [if_neg hl, if_neg (fun h => hl (hmd.1 h).1)]
      have HML : Hid (∀ {W : World}, Iter Value.string W r m (ptrs t) (mdel left q') → itLeft W r m < itLeft wr r m) := fun h => by rw [hit.left, h.left]; exact mdel_length hmem
      have HT2 := Lib.hid ht2'
      have HIT2 := Lib.hid hit'
      have HXQ := Lib.hid hxq
      have HWR : Hid (w.heap.size + 2 ≤ r ∧ m < w.heap.size) := ⟨hwr, HT.out.map.lt⟩
      unfold ndA at hnb HCP
      have j0 := hnb.cell 0 _ rfl
      have j1 := hnb.cell 1 _ rfl
      have j2 := hnb.cell 2 _ rfl
      have j3 := hnb.cell 3 _ rfl
      have j4 := hnb.cell 4 _ rfl
      have j5 := hnb.cell 5 _ rfl
      have j6 := hnb.cell 6 _ rfl
      have j7 := hnb.cell 7 _ rfl
      have j8 := hnb.cell 8 _ rfl
      have j9 := hnb.cell 9 _ rfl
      clear hno hnb hxq ht2' hget hit hit' hmem he0 hxr ht2 hkp hsz hwr
      go_wp2_with (fail)
      refine HCP.out.mono ?_
      rintro e1 w5 ⟨nv5, rfl, ho5, hx5⟩
      obtain ⟨na5, nc5, rfl⟩ := owns_slice ho5
      obtain ⟨wN, hWN⟩ : ∃ wN, w5.alloc (.cells #[.int .i64 n.made, .int .i64 n.chg, .int .i64 n.ver, .int .i64 n.kids, .int .i64 n.own, .int .i64 n.len, .int .i64 n.cnt, .string n.data, .int .i64 n.next, .slice na5 n.names.length nc5] ndT) = wN := ⟨_, rfl⟩
      have hxN : Ext w5 wN := by rw [← hWN]; exact (Kp.refl _ _).alloc _
      have hN : Blk wN w5.heap.size (ndA n (.slice na5 n.names.length nc5)) ndT := by rw [← hWN]; exact heap_alloc_new w5 _
      have hnd : NdAt wN w5.heap.size n := ⟨_, hN, owns_zero (ownsRow.ext ho5 hxN)⟩
      have hxx := hx5.ext hxN
      have hTN := HT2.out.ext hxx
      obtain ⟨wM, u1, u2, u3, u4⟩ := MapK.update kStr tNodes hTN.map q' (.pointer (some ⟨w5.heap.size, 0, none⟩))
      have hfr : ∀ e ∈ t2, e.2.1 ≠ w5.heap.size := fun e he e2 => by
        have h1 := (HT2.out.nod e he).lt
        have h2 := hx5.size
        omega
      have HTM := Lib.hid (hTN.lay (by have h1 := HXQ.out.size; have h2 := hx5.size; omega) hnd hfr u2 u3)
      have HITM := Lib.hid ((HIT2.out.ext hxx).kp u3 (by have := HWR.out; omega) (by have := HWR.out; omega))
      have HXM : Hid (Ext w wM) := (HXQ.out.ext hxx).next u3 (fun i hi e => by omega)
      have c1 := hTN.blk.cell 1 _ rfl
      have HWN := Lib.hid hWN
      clear hWN hxN hN hnd hxx hTN u2 u3 u4 hfr hx5 ho5 HCP j0 j1 j2 j3 j4 j5 j6 j7 j8 j9 hnx hen
      go_upto_region 6 with (fail)
      rw [HWN.out]
      go_wp2_with (fail)
      go_light
      exact ⟨⟨_, _, HITM.out, HTM.out, fun p => by rw [pl_set, mget_mset]; exact HGET.out p, HXM.out, HWR.out.1⟩, HML.out HITM.out⟩
end Go.Proofs.YtjapjpigpakejaaGreatDoor
