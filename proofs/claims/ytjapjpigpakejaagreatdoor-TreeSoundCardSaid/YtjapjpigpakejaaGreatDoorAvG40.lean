/- Texts put together: AvWHeavy, AvActW, AvDagPut. -/
import Derived.Test.YtjapjpigpakejaaGreatDoorAvG39
import Derived.Test.YtjapjpigpakejaaGreatDoorAvG15
import Derived.Test.YtjapjpigpakejaaGreatDoorAvG16
import Derived.Test.YtjapjpigpakejaaGreatDoorAvG36
import Derived.Test.YtjapjpigpakejaaGreatDoorAvDag

/- Walks of package aviarylaw11: heavy, has. -/
namespace Go.Proofs.YtjapjpigpakejaaGreatDoor
set_option maxRecDepth 100000
open Go.RowKit Av

structure Light (a : ActN) : Prop where
  path : a.o.path.size ≤ 300
  data : a.o.data.size ≤ 1100
  few : a.n.names.length ≤ 20
  ndata : a.n.data.size ≤ 1100
  short : ∀ s ∈ a.n.names, s.length ≤ 60
def HeavyPost (w : World) (a : ActN) (e : Ending) (w' : World) : Prop := ∃ r : Bool, e = .returned (.bool r) ∧ (r = false → Light a) ∧ Ext w w'
def HvLoop (l : List Bs) (s3 : Value) : Prop := ∃ k : Nat, k ≤ l.length ∧ s3 = .int .i64 k ∧ ∀ j (h : j < l.length), j < k → l[j].length ≤ 60
set_option maxHeartbeats 3200000 in
theorem heavy_any (a : ActN) (w : World) (h : ActOk w a) : Calls Tryz.prog 11 #[.agg a.cells.toArray] w fun e w' => HeavyPost w a e w' := by
  obtain ⟨op, ⟨k, p, d, v, f⟩, sess, z, n, nv⟩ := a
  obtain ⟨na, nc, e0, _⟩ := Sl.open h.names.1
  obtain rfl : nv = .slice na n.names.length nc := e0
  obtain ⟨l, hl⟩ : ∃ l, n.names = l := ⟨_, rfl⟩
  obtain ⟨dd, hdd⟩ : ∃ x, n.data = x := ⟨_, rfl⟩
  have hnm : NmS w (.slice na l.length nc) l := by have := h.names; simp only [hl] at this; exact this
  obtain ⟨_, _, hsl, _, hm, _, hop⟩ := Sl.open hnm.1
  simp only [Value.slice.injEq, true_and] at hsl
  obtain ⟨rfl, rfl⟩ := hsl
  have hop' : 0 < l.length → ∃ g off, na = some ⟨g, off, none⟩ ∧ ∀ k (hk : k < l.length), w.cell? ⟨g, off + k, none⟩ = some (encStr l[k]) := fun h0 => by
    obtain ⟨g, off, e2, _, hc⟩ := hop h0
    exact ⟨g, off, e2, fun k hk => hc k _ (by rw [List.getElem?_map, List.getElem?_eq_getElem hk]; rfl)⟩
  have HOP := Lib.hid hop'
  have HLT : Hid (p.size ≤ 300 → d.size ≤ 1100 → l.length ≤ 20 → dd.size ≤ 1100 → (∀ s ∈ l, s.length ≤ 60) → Light ⟨op, ⟨k, p, d, v, f⟩, sess, z, n, .slice na l.length nc⟩) := fun h1 h2 h3 h4 h5 => ⟨h1, h2, by rw [hl]; exact h3, by rw [hdd]; exact h4, by rw [hl]; exact h5⟩
  unfold ActN.cells
  simp only [hl, hdd]
  obtain ⟨wA, hWA⟩ : ∃ wA, w.alloc (.cells #[.int .i64 op, .int .i64 k, .string p, .string d, .int .i64 v, .int .i64 f, .int .i64 sess, .int .i64 z, .int .i64 n.made, .int .i64 n.chg, .int .i64 n.ver, .int .i64 n.kids, .int .i64 n.own, .int .i64 n.len, .int .i64 n.cnt, .string dd, .int .i64 n.next, .slice na l.length nc] 37) = wA := ⟨_, rfl⟩
  have hxA : Ext w wA := by rw [← hWA]; exact (Kp.refl _ _).alloc _
  have hA : Blk wA w.heap.size #[.int .i64 op, .int .i64 k, .string p, .string d, .int .i64 v, .int .i64 f, .int .i64 sess, .int .i64 z, .int .i64 n.made, .int .i64 n.chg, .int .i64 n.ver, .int .i64 n.kids, .int .i64 n.own, .int .i64 n.len, .int .i64 n.cnt, .string dd, .int .i64 n.next, .slice na l.length nc] 37 := by rw [← hWA]; exact heap_alloc_new w _
  have c2 := hA.cell 2 _ rfl
  have c3 := hA.cell 3 _ rfl
  have c15 := hA.cell 15 _ rfl
  have c17 := hA.cell 17 _ rfl
  have HXA := Lib.hid hxA
  have HWA := Lib.hid hWA
  generalize (⟨op, ⟨k, p, d, v, f⟩, sess, z, n, .slice na l.length nc⟩ : ActN) = A at HLT ⊢
  clear hWA hxA hA h hnm hop hop' hl hdd
  go_enter Tryz.func11, Tryz.ntmps11
  go_upto_region 1 with (fail)
  rw [HWA.out]
  by_cases h1 : p.size ≤ 300
  · have t1 : ¬ (300 : Int) < (p.size : Int) := by omega
    by_cases h2 : d.size ≤ 1100
    · have t2 : ¬ (1100 : Int) < (d.size : Int) := by omega
      by_cases h3 : l.length ≤ 20
      · have t3 : ¬ (20 : Int) < (l.length : Int) := by omega
        by_cases h4 : dd.size ≤ 1100
        · have t4 : ¬ (1100 : Int) < (dd.size : Int) := by omega
          go_wp2_with (fail)
          go_loop [3] (fun s3 => HvLoop l s3) (fun s3 => l.length - (intOf s3).toNat)
          case atStart => exact ⟨0, Nat.zero_le _, rfl, fun j _ hj => by omega⟩
          case round =>
            obtain ⟨q, hq, rfl, hall⟩ := hrel
            have HALL := Lib.hid hall
            clear hall
            by_cases hlt : q < l.length
            · obtain ⟨g, off, rfl, hcl⟩ := HOP.out (by omega)
              have hc := HXA.out.cell (hcl q hlt) (fun f => f)
              obtain ⟨s, hs⟩ : ∃ s, l[q] = s := ⟨_, rfl⟩
              rw [hs] at hc
              obtain ⟨pp, hp⟩ : ∃ pp : ByteArray, ⟨s.toArray⟩ = pp := ⟨_, rfl⟩
              have hps : pp.size = s.length := by rw [← hp, Lib.size_eq]
              unfold encStr at hc
              rw [hp] at hc
              have HS := Lib.hid hs
              clear hs hp hcl
              by_cases h5 : s.length ≤ 60
              · have t5 : ¬ (60 : Int) < (pp.size : Int) := by omega
                go_wp2_with (fail)
                go_light
                exact ⟨⟨q + 1, by omega, by go_num, fun j hj hjq => by
                  by_cases e : j = q
                  · subst e; rw [HS.out]; exact h5
                  · exact HALL.out j hj (by omega)⟩, by simp [intOf]; omega⟩
              · have t5 : (60 : Int) < (pp.size : Int) := by omega
                go_wp2_with (fail)
                go_ret
                exact ⟨true, rfl, fun h => (by cases h), HXA.out⟩
            · go_wp2_with (fail)
              go_ret
              exact ⟨false, rfl, fun _ => HLT.out h1 h2 h3 h4 (fun s hs => by
                obtain ⟨j, hj, rfl⟩ := List.getElem_of_mem hs
                exact HALL.out j hj (by omega)), HXA.out⟩
        · have t4 : (1100 : Int) < (dd.size : Int) := by omega
          go_wp2_with (fail)
          go_ret
          exact ⟨true, rfl, fun h => (by cases h), HXA.out⟩
      · have t3 : (20 : Int) < (l.length : Int) := by omega
        go_wp2_with (fail)
        go_ret
        exact ⟨true, rfl, fun h => (by cases h), HXA.out⟩
    · have t2 : (1100 : Int) < (d.size : Int) := by omega
      go_wp2_with (fail)
      go_ret
      exact ⟨true, rfl, fun h => (by cases h), HXA.out⟩
  · have t1 : (300 : Int) < (p.size : Int) := by omega
    go_wp2_with (fail)
    go_ret
    exact ⟨true, rfl, fun h => (by cases h), HXA.out⟩
def HasLoop (l : List Bs) (x : Bs) (s5 : Value) : Prop := ∃ k : Nat, k ≤ l.length ∧ s5 = .int .i64 k ∧ ∀ j (h : j < l.length), j < k → l[j] ≠ x
set_option maxHeartbeats 800000 in
theorem has_any (v : Value) (l : List Bs) (x : Bs) (w : World) (h : NmS w v l) : Calls Tryz.prog 17 #[v, .string ⟨x.toArray⟩] w fun e w' => e = .returned (.bool (decide (x ∈ l))) ∧ w = w' := by
  obtain ⟨a, c, rfl, _, hm, _, hop⟩ := Sl.open h.1
  have hop' : 0 < l.length → ∃ g off, a = some ⟨g, off, none⟩ ∧ ∀ k (hk : k < l.length), w.cell? ⟨g, off + k, none⟩ = some (encStr l[k]) := fun h0 => by
    obtain ⟨g, off, e2, _, hc⟩ := hop h0
    exact ⟨g, off, e2, fun k hk => hc k _ (by rw [List.getElem?_map, List.getElem?_eq_getElem hk]; rfl)⟩
  have HOP := Lib.hid hop'
  obtain ⟨q, hq⟩ : ∃ q : ByteArray, ⟨x.toArray⟩ = q := ⟨_, rfl⟩
  have hql : q.toList = x := by rw [← hq, Lib.toList_data]
  rw [hq]
  have HQ := Lib.hid hql
  unfold maxLen at hm
  clear hop hop' h hq hql
  go_enter Tryz.func17, Tryz.ntmps17
  go_wp2_with (fail)
  go_loop [5] (fun s5 => HasLoop l x s5) (fun s5 => l.length - (intOf s5).toNat)
  case atStart => exact ⟨0, Nat.zero_le _, rfl, fun j _ hj => by omega⟩
  case round =>
    obtain ⟨k, hk, rfl, hall⟩ := hrel
    have HALL := Lib.hid hall
    clear hall
    by_cases hlt : k < l.length
    · obtain ⟨g, off, rfl, hcl⟩ := HOP.out (by omega)
      have hc := hcl k hlt
      obtain ⟨s, hs⟩ : ∃ s, l[k] = s := ⟨_, rfl⟩
      rw [hs] at hc
      obtain ⟨p, hp⟩ : ∃ p : ByteArray, ⟨s.toArray⟩ = p := ⟨_, rfl⟩
      have hpl : p.toList = s := by rw [← hp, Lib.toList_data]
      unfold encStr at hc
      rw [hp] at hc
      have HS := Lib.hid hs
      by_cases h5 : s = x
      · have e1 : (p.toList == q.toList) = true := by rw [hpl, HQ.out, h5]; simp
        have HM : Hid (x ∈ l) := by show _ ∈ _; rw [← h5, ← HS.out]; exact List.getElem_mem hlt
        clear hs hp hcl hpl h5
        go_wp2_with (fail)
        go_ret
        exact ⟨ret_bool (by rw [decide_eq_true HM.out]), rfl⟩
      · have e1 : (p.toList == q.toList) = false := by rw [hpl, HQ.out]; simpa using h5
        clear hs hp hcl hpl
        go_wp2_with (fail)
        go_light
        exact ⟨⟨k + 1, by omega, by go_num, fun j hj hjq => by
          by_cases e : j = k
          · subst e; rw [HS.out]; exact h5
          · exact HALL.out j hj (by omega)⟩, by simp [intOf]; omega⟩
    · have HM : Hid (x ∉ l) := fun hx => by
        obtain ⟨j, hj, e⟩ := List.getElem_of_mem hx
        exact HALL.out j hj (by omega) e
      go_wp2_with (fail)
      go_ret
      exact ⟨ret_bool (by rw [decide_eq_false HM.out]), rfl⟩
end Go.Proofs.YtjapjpigpakejaaGreatDoor

/- Acts on a law's tree: what they leave. -/
namespace Go.Proofs.YtjapjpigpakejaaGreatDoor
set_option maxRecDepth 100000
open Go.RowKit Av

theorem ActsN.open {w : World} {v : Value} {xs : List ActN} (h : ActsN w v xs) : ∃ a c, v = .slice a xs.length c ∧ xs.length ≤ maxLen ∧ (0 < xs.length → ∃ b off, a = some ⟨b, off, none⟩ ∧ b < w.heap.size ∧ ∀ k (hk : k < xs.length) i u, i < 18 → xs[k].cells[i]? = some u → w.cell? ⟨b, off + k * 18 + i, none⟩ = some u) := by
  obtain ⟨a, c, rfl, _, hm, hop⟩ := Sl.rows (f := ActN.cells) (K := 18) (fun _ => rfl) h.1
  refine ⟨a, c, rfl, hm, fun h0 => ?_⟩
  obtain ⟨b, off, rfl, hb, hc⟩ := hop h0
  exact ⟨b, off, rfl, hb, hc⟩
/-- What is known of a tree that acts have made. -/
structure GoodT (room : Int) (S : List Int) (P : Pt) : Prop where
  snd : SoundP room P
  free : PtN P
  parts : AllN PartsOk P
  owned : AllN (OwnedBy S) P
theorem GoodT.nil {room : Int} (h : 0 ≤ room) (S : List Int) : GoodT room S [] := ⟨SoundP.nil h, fun e he => by (cases he), AllN.nil _, AllN.nil _⟩
theorem GoodT.step {room : Int} {S : List Int} {P : Pt} (h : GoodT room S P) {K : Nat} (hk : PtK K P) (o : OpV) {sess : Int} (z : Int) (hs : 1 ≤ sess → sess ∈ S) : GoodT room S (doP room P o sess z false).1 :=
  ⟨h.snd.doP hk h.free _ _ _, h.free.doP _ _ _ _ _, h.parts.doP (partsOk_inv o sess z) _ _, h.owned.doP (ownedBy_inv o z hs) _ _⟩
/-- The tree behind some acts. -/
def ActRel (w0 : World) (room : Int) (xs : List ActN) (b m : Nat) (s7 : Value) (wr : World) : Prop := ∃ (i : Nat) (t : Tr), i ≤ xs.length ∧ s7 = .int .i64 i ∧ TS w0 wr b m room i t ∧ GoodT room (xs.map (·.sess)) (pl t)
theorem acts_step {w0 wr w' : World} {room : Int} {xs : List ActN} {b m i : Nat} {t : Tr} (hg : GoodT room (xs.map (·.sess)) (pl t)) (hts : TS w0 wr b m room i t) (hi : i < xs.length) {a : ActN} (ha : a.sess ∈ xs.map (·.sess)) {e : Ending} {s7 : Value} (h7 : s7 = .int .i64 ((i + 1 : Nat) : Int)) (h : TDone w0 wr b m room i t (doP room (pl t) a.o a.sess a.z false) e w') : ActRel w0 room xs b m s7 w' := by
  obtain ⟨t', nv, _, _, h1, h2, _, _⟩ := h
  exact ⟨i + 1, t', by omega, h7, h1, by rw [h2]; exact hg.step hts.pk _ _ (fun _ => ha)⟩
end Go.Proofs.YtjapjpigpakejaaGreatDoor

/- A store among a drawn region's operations. No program. -/
namespace Av
set_option maxRecDepth 100000
open Go Go.RowKit

/-- It yields nothing, and writes blocks that were made on the way: what is known of the temporaries stands. -/
theorem wpD_put {P : Program} {ops : Array Oper} {E R : World → World → Prop} {w0 : World} {S : List (Tmp × TSpec)} {C : List (Tmp × List Tmp × List Tmp)} {Fin : Act → Prop} {o : Oper} {rest : List Oper} {k : Nat} {a : Act}
    (hs : o.dst = none) (hw : Region.wanted o (yielded ops a.tmps) = true) (h : ∀ w, R w0 w → Facts ops S k o a w → DUpon P (fun _ w' => R w w' ∧ PresL [] w w' S) ((execOp a.eval o).run P w)) (hk : WpD P ops E R w0 S C Fin rest (k + 1) a) : WpD P ops E R w0 S C Fin (o :: rest) k a := by
  refine ⟨fun hsb hER => ⟨?_, fun v _ => ?_⟩⟩
  · unfold DLoc
    rw [if_pos hw, hs]
    exact ⟨⟨undef, trivial⟩, fun w hw hf => (h w hw hf).mono fun _ _ hv => ⟨trivial, trivial, hv.1, hv.2.pres⟩⟩
  · rw [hs]
    exact hk.out hsb hER
end Av
