/- Texts put together: AvDagRow, AvWOwn, AvWOwn2. -/
import Derived.Test.YtdagikbdpeblhaaGreatDoorAvG23
import Derived.Maps.AppendAt
import Derived.Test.YtdagikbdpeblhaaGreatDoorAvG22

/- Appends, in a region that draws its order, to a row that was there. No program. -/
namespace Av
set_option maxRecDepth 100000
open Go Go.RowKit
/-- From base on anything; of the row v its spare places alone. -/
def Rr (base : Nat) (e : TypeId) (k : Nat) (v : Value) (n : Nat) (xs : List Value) (a b : World) : Prop :=
  Kp (fun i => base ≤ i ∨ v.ownBlock = some i) a b ∧ (a.ownsRow 0 e k v n xs → b.ownsRow 0 e k v n xs)
section
variable {base : Nat} {e : TypeId} {k : Nat} {v : Value} {n : Nat} {xs : List Value}
theorem Rr.refl (w : World) : Rr base e k v n xs w w := ⟨Kp.refl _ _, fun h => h⟩
theorem Rr.trans {a b c : World} (h : Rr base e k v n xs a b) (g : Rr base e k v n xs b c) : Rr base e k v n xs a c := ⟨h.1.trans g.1, fun x => g.2 (h.2 x)⟩
theorem Rr.ext {a b : World} (h : Ext a b) : Rr base e k v n xs a b := ⟨Ext.kp h, fun x => ownsRow.ext x h⟩
end
theorem append_keeps {P : Program} (w : World) (t ty e : TypeId) (i : TypeInfo) (z : Value) (ht : P.underlying t = some (.slice e)) (hi : P.info? e = some i) (hz : i.zero = some z)
    (v : Value) (n : Nat) (xs : List Value) (hown : w.ownsRow 0 e i.size v n xs) (ad : Addr) (m c : Nat) (news : List Value) (hl : news.length = m * i.size) (hnews : ∀ j u, news[j]? = some u → w.cell? (ad.add j) = some u) (h1 : ∀ u ∈ news, u.oneCell' = true)
    (h63 : n + m ≤ maxLen) (hbytes : (n + m) * i.bytes ≤ 140737488355328) {v' : Value} {w' : World} (hr : (Builtin.append_ #[t, t] ty #[v, .slice (some ad) m c]).run P w = .ok v' w') : w'.ownsRow 0 e i.size v n xs := by
  rcases hown.2 with ⟨rfl, rfl⟩ | ⟨g, cap, cur, rfl, hbg, hg, hnc, hcm, hcs, htake⟩
  · exact ⟨hown.1, .inl ⟨rfl, rfl⟩⟩
  · by_cases hroom : n + m ≤ cap
    · have hfit : n * i.size + news.length ≤ cur.size := by rw [hl, hcs, ← Nat.add_mul]; exact Nat.mul_le_mul_right _ hroom
      have hr2 := run_append_room (P := P) w t ty e i ht hi g n cap cur hg ad m c news hl hnews h1 hroom hfit
      rw [hr2] at hr
      simp only [Result.ok.injEq] at hr
      rw [← hr.2]
      have hlt : (cur.toList.take (n * i.size)).length = n * i.size := by rw [htake]; exact hown.1
      refine ⟨hown.1, .inr ⟨g, cap, _, rfl, hbg, setRow_heap w g cur _ e _ hg, hnc, hcm, ?_, ?_⟩⟩
      · simp only [List.size_toArray, List.length_append, List.length_take, List.length_drop, Array.length_toList]
        omega
      · rw [List.append_assoc, List.take_append_of_le_length (by rw [hlt]; exact Nat.le_refl _), List.take_of_length_le (by rw [hlt]; exact Nat.le_refl _)]
        exact htake
    · have holds : ∀ j u, xs[j]? = some u → w.cell? ((⟨g, 0, none⟩ : Addr).add j) = some u := hown.cells (g := g) rfl
      have hr2 := run_append_grow (P := P) w t ty e i z ht hi hz ⟨g, 0, none⟩ n cap xs hown.1 holds ad m c news hl hnews (by omega) (by unfold maxLen at h63; omega) (growslice_fits (by omega) hbytes)
      rw [hr2] at hr
      simp only [Result.ok.injEq] at hr
      rw [← hr.2]
      exact ownsRow.ext hown ((Kp.refl _ _).drew.alloc _)
theorem dUpon_appR {P : Program} {o : Oper} {a : Act} {w : World} {K : Value → World → Prop} {d : Tmp} (hd : o.dst = .some d) (hlt : decide (d < a.tmps.size) = true) (t e : TypeId) (k : Nat) (hk : 0 < k) (hfacts : ElemOk P t e k)
    (hgd : o.guard = none) (s x : Operand) (ho : o.op = .call { callee := .builtin .append, args := #[s, x], argTypes := #[t, t] })
    (v : Value) (n : Nat) (xs : List Value) (hs : a.eval s = v) (hown : w.ownsRow 0 e k v n xs)
    (u : Value) (m : Nat) (ys : List Value) (hx : a.eval x = u) (base : Nat) (hu : BoxL base e m ys u w) (hl : ys.length = m * k) (hone : ∀ y ∈ ys, y.oneCell' = true) (hn : n + m ≤ 1000000)
    (h : ∀ v' w', w'.ownsRow 0 e k v' (n + m) (xs ++ ys) → w.grownBy w' v.ownBlock → w'.ownsRow 0 e k v n xs → (v'.ownBlock = v.ownBlock ∨ v'.ownBlock = some w.heap.size) → K v' w') : DUpon P K ((execOp a.eval o).run P w) := by
  obtain ⟨ht, hi⟩ := hfacts
  cases hie : P.info? e with
  | none => simp [hie] at hi
  | some i =>
    simp only [hie, Option.map_some, Option.some.injEq, Prod.mk.injEq, decide_eq_true_eq] at hi
    obtain ⟨hz, hsz, hby⟩ := hi
    cases hze : i.zero with
    | none => simp [hze] at hz
    | some z =>
      simp only [hze, Option.map_some, Option.some.injEq] at hz
      subst hsz
      obtain ⟨g, hg, rfl, hblk⟩ := hu
      have hnews : ∀ j q, ys[j]? = some q → w.cell? ((⟨g, 0, none⟩ : Addr).add j) = some q := by
        intro j q hj
        rw [show (⟨g, 0, none⟩ : Addr).add j = ⟨g, j, none⟩ by by_cases h : j = 0 <;> simp [Addr.add, h]]
        exact Blk.cell hblk j q (by simpa using hj)
      have hnb : (n + m) * i.bytes ≤ 140737488355328 := by
        have := Nat.mul_le_mul hn hby
        omega
      obtain ⟨v', w', hr, h2, h3, _, h4⟩ := run_append_own_at (P := P) w 0 t o.type e i z i.size i.bytes ht hie hze rfl rfl hz hk v n xs hown ⟨g, 0, none⟩ m m ys hl hnews hone (by unfold maxLen; omega) hnb (Nat.zero_le _)
      have h5 := append_keeps w t o.type e i z ht hie hze v n xs hown ⟨g, 0, none⟩ m m ys hl hnews hone (by unfold maxLen; omega) hnb hr
      refine DUpon.of_list (ops := #[]) hd (of_decide_eq_true hlt) hgd ?_
      refine wpList_plain hgd fun _ hK => ?_
      unfold Oper.wp execOp
      simp only [ho, resolve, invoke, builtin, Sem.run_bind, Sem.run_pure, Result.andThen_ok, List.map_toArray, List.map_cons, List.map_nil, hs, hx, hr]
      exact hK _ _ ⟨rfl, v', rfl, h v' w' h2 h3 h5 h4⟩
/-- A region in which a row that was there is appended to. -/
theorem wp_region_dagQ (base : Nat) (e : TypeId) (ke : Nat) (v : Value) (m : Nat) (xs : List Value) {P : Program} {id : Nat} {Q : Exit → Act → World → Prop} {a : Act} {w : World} {l : List Oper} (n : Nat) (C : List (Tmp × List Tmp × List Tmp)) (S : List (Tmp × TSpec)) (hst : Stab (fun a b => Ext a b) S) (hm : P.follows .mixedOrders = true) (hB : dagB .any l.toArray C n = true) (hsz : dstB l.toArray a.tmps.size = true)
    (h : WpD P l.toArray (fun a b => Ext a b) (fun a b => Rr base e ke v m xs a b) w S C (fun a' => ∀ w', Rr base e ke v m xs w w' → Ends l.toArray S C n a' w' → wpList P l.toArray Q (l.drop n) a' w') (l.take n) 0 a) : (Code.region id l.toArray true).wp P Q a w :=
  wp_region_dagR n S C (fun a b => Rr base e ke v m xs a b) (fun w => Rr.refl w) (fun _ _ _ h k => h.trans k) (Rr.ext (Kp.refl _ w).drew) hm hB hsz (h.out hst (fun _ _ h => Rr.ext h))
end Av

/- Walks over the reference's tree: SameTree; a tree as the reference's: own. -/
namespace Go.Proofs.YtdagikbdpeblhaaGreatDoor
set_option maxRecDepth 100000
open Go.RowKit Av

def SameT (w : World) (La Lb : RL) (i : Value) (wr : World) : Prop := ∃ k : Nat, k ≤ La.length ∧ i = .int .i64 k ∧ La.take k = Lb.take k ∧ Ext w wr
theorem take_stepR {α : Type} {a b : List α} {k : Nat} (h : a.take k = b.take k) (ha : k < a.length) (hb : k < b.length) (e : a[k] = b[k]) : a.take (k + 1) = b.take (k + 1) := by
  rw [List.take_succ_eq_append_getElem ha, List.take_succ_eq_append_getElem hb, h, e]
theorem entL_get (E : List Ent) (k : Nat) (hk : k < E.length) : (entL E)[k]'(by unfold entL; simpa using hk) = (E[k].p, E[k].n) := by
  unfold entL
  simp
theorem entL_len (E : List Ent) : (entL E).length = E.length := by simp [entL]
theorem EntOk.nms {w : World} {e : Ent} (h : EntOk w e) : NmS w e.nv e.n.names := names_own h
set_option maxHeartbeats 3200000 in
theorem sameTree_any (base base' ga gb : Nat) (ra rb : Int) (La Lb : RL) (w : World) (ha : RefT w base ga ra La) (hb : RefT w base' gb rb Lb) :
    Calls Tryz.prog 17 #[.pointer (some ⟨ga, 0, none⟩), .pointer (some ⟨gb, 0, none⟩)] w fun e w' => e = .returned (.bool (decide (La = Lb))) ∧ Ext w w' := by
  obtain ⟨_, va, Ea, rfl, hba, hea⟩ := ha
  obtain ⟨_, vb, Eb, rfl, hbb, heb⟩ := hb
  obtain ⟨aa, ca, rfl, hma, hoa⟩ := hea.at
  obtain ⟨ab, cb, rfl, hmb, hob⟩ := heb.at
  have ca1 := hba.cell 1 _ rfl
  have cb1 := hbb.cell 1 _ rfl
  have HA := Lib.hid hoa
  have HB := Lib.hid hob
  have HOA := Lib.hid hea.ok
  have HOB := Lib.hid heb.ok
  have CA := Lib.hid ca1
  have CB := Lib.hid cb1
  unfold maxLen at hma hmb
  clear hba hbb hea heb hoa hob
  by_cases hl : Ea.length = Eb.length
  · have hlb : ((Ea.length : Int) != (Eb.length : Int)) = false := by rw [hl]; simp
    have HL := Lib.hid hl
    clear hl
    go_enter Tryz.func17, Tryz.ntmps17
    go_upto_region 1 with (fail)
    clear ca1 cb1
    refine' wp_region_dag0 ((6, .val _) :: (7, .val _) :: (8, .val _) :: (9, .val _) :: (10, .val _) :: (11, .val _) :: (12, .val _) :: (13, .val _) :: (14, .val _) :: (15, .val _) :: (16, .val _) :: []) (by exact ⟨fun _ _ _ _ _ => trivial, ⟨fun _ _ _ _ _ => trivial, ⟨fun _ _ _ _ _ => trivial, ⟨fun _ _ _ _ _ => trivial, ⟨fun _ _ _ _ _ => trivial, ⟨fun _ _ _ _ _ => trivial, ⟨fun _ _ _ _ _ => trivial, ⟨fun _ _ _ _ _ => trivial, ⟨fun _ _ _ _ _ => trivial, ⟨fun _ _ _ _ _ => trivial, ⟨fun _ _ _ _ _ => trivial, trivial⟩⟩⟩⟩⟩⟩⟩⟩⟩⟩⟩) (by kernel_rfl) (by kernel_rfl) (by kernel_rfl) ?_
    rotate_left 11
    repeat (first
      | (refine wpD_skipv ?_ ?_ ?_
         focus rfl
         focus rfl
         simp only [Act.put, List.setIfInBounds_toArray, List.set_cons_succ, List.set_cons_zero])
      | (refine' wpD_val (c := _) ?_ (fun w => Kp.refl _ w) ?_ (fun wq hwq hfq => ?_) ?_
         rotate_left
         focus rfl
         focus rfl
         focus ((have c1 := hwq.cell CA.out (fun f => f); have c2 := hwq.cell CB.out (fun f => f)); go_simp; first | done | rfl)
         simp only [Act.put, List.setIfInBounds_toArray, List.set_cons_succ, List.set_cons_zero])
      | (refine' wpD_con (c := _) ?_ ?_ (fun wq hwq hfq => ?_) ?_
         rotate_left
         focus rfl
         focus rfl
         focus ((have c1 := hwq.cell CA.out (fun f => f); have c2 := hwq.cell CB.out (fun f => f)); go_simp; (try (rw [dUpon_enter])); fail)
         simp only [Act.put, List.setIfInBounds_toArray, List.set_cons_succ, List.set_cons_zero])
      | fail)
    refine wpD_nil ?_
    intro w1 hx1 hend
    clear hend hlb
    have HX1 := Lib.hid hx1
    clear hx1
    go_wp2_with (fail)
    go_loopw [5] (fun i wr => SameT w (entL Ea) (entL Eb) i wr) (fun i _ => Ea.length - (intOf i).toNat)
    case atStart => exact ⟨0, Nat.zero_le _, rfl, rfl, HX1.out⟩
    case round =>
      obtain ⟨k, hk, rfl, htk, hxr⟩ := hrel
      rw [entL_len] at hk
      have HTK := Lib.hid htk
      have HXR := Lib.hid hxr
      have c1 := hxr.cell CA.out (fun f => f)
      clear htk hxr
      by_cases hlt : k < Ea.length
      · as_aux_lemma =>
        have hlt2 : k < Eb.length := by have := HL.out; omega
        obtain ⟨g1, o1, rfl, _, hc1⟩ := HA.out (by omega)
        obtain ⟨g2, o2, rfl, _, hc2⟩ := HB.out (by omega)
        have hstep := take_stepR HTK.out (by rw [entL_len]; exact hlt) (by rw [entL_len]; exact hlt2)
        have hno : ∀ h : entL Ea = entL Eb, (entL Ea)[k]'(by rw [entL_len]; exact hlt) = (entL Eb)[k]'(by rw [entL_len]; exact hlt2) := fun h => by simp only [h]
        rw [entL_get Ea k hlt, entL_get Eb k hlt2] at hstep hno
        obtain ⟨x, hx⟩ : ∃ x, Ea[k] = x := ⟨_, rfl⟩
        obtain ⟨y, hy⟩ : ∃ y, Eb[k] = y := ⟨_, rfl⟩
        have hc1 := hc1 k hlt
        have hc2 := hc2 k hlt2
        have hox := HOA.out _ (List.getElem_mem hlt)
        have hoy := HOB.out _ (List.getElem_mem hlt2)
        rw [hx] at hc1 hox hstep hno
        rw [hy] at hc2 hoy hstep hno
        have HSTEP := Lib.hid hstep
        have HNO := Lib.hid hno
        have HS := Lib.hid (fun W (hx : Ext wr W) => refSame10_any x.n y.n x.nv y.nv W (hox.ext (HXR.out.trans hx)).nms (hoy.ext (HXR.out.trans hx)).nms)
        have HC1 : Hid (∀ W, Ext wr W → ∀ i u, i < 11 → (entC x)[i]? = some u → W.cell? ⟨g1, o1 + k * 11 + i, none⟩ = some u) := fun W hW i u hi hu => (HXR.out.trans hW).cell (hc1 i u hi hu) (fun f => f)
        have HC2 : Hid (∀ W, Ext wr W → ∀ i u, i < 11 → (entC y)[i]? = some u → W.cell? ⟨g2, o2 + k * 11 + i, none⟩ = some u) := fun W hW i u hi hu => (HXR.out.trans hW).cell (hc2 i u hi hu) (fun f => f)
        have CA1 := Lib.hid c1
        have CB1 := Lib.hid (HXR.out.cell CB.out (fun f => f))
        unfold entC at HC1 HC2
        unfold ndA at HS
        clear hx hy hc1 hc2 hox hoy hstep hno
        by_cases hp : x.p = y.p
        · have hpe : (x.p.toList == y.p.toList) = true := by rw [hp]; simp
          go_upto_region 6 with (fail)
          clear c1
          refine' wp_region_dag0 ((26, .val _) :: (27, .val _) :: (28, .val _) :: (29, .val _) :: (30, .val _) :: (31, .val _) :: (32, .val _) :: (33, .val _) :: (34, .val _) :: (35, .val _) :: (36, .val _) :: (37, .val _) :: (38, .val _) :: (39, .val _) :: (40, .val _) :: (41, .val _) :: (42, .val _) :: (43, .val _) :: (44, .val _) :: (45, .val _) :: (46, .val _) :: (47, .val _) :: (48, .val _) :: (49, .val _) :: (50, .val _) :: (51, .val _) :: (52, .val _) :: (53, .val _) :: (54, .val _) :: (55, .val _) :: (56, .val _) :: (57, .val _) :: (58, .val _) :: (59, .val _) :: (60, .val _) :: (61, .val _) :: (62, .val _) :: []) (by exact ⟨fun _ _ _ _ _ => trivial, ⟨fun _ _ _ _ _ => trivial, ⟨fun _ _ _ _ _ => trivial, ⟨fun _ _ _ _ _ => trivial, ⟨fun _ _ _ _ _ => trivial, ⟨fun _ _ _ _ _ => trivial, ⟨fun _ _ _ _ _ => trivial, ⟨fun _ _ _ _ _ => trivial, ⟨fun _ _ _ _ _ => trivial, ⟨fun _ _ _ _ _ => trivial, ⟨fun _ _ _ _ _ => trivial, ⟨fun _ _ _ _ _ => trivial, ⟨fun _ _ _ _ _ => trivial, ⟨fun _ _ _ _ _ => trivial, ⟨fun _ _ _ _ _ => trivial, ⟨fun _ _ _ _ _ => trivial, ⟨fun _ _ _ _ _ => trivial, ⟨fun _ _ _ _ _ => trivial, ⟨fun _ _ _ _ _ => trivial, ⟨fun _ _ _ _ _ => trivial, ⟨fun _ _ _ _ _ => trivial, ⟨fun _ _ _ _ _ => trivial, ⟨fun _ _ _ _ _ => trivial, ⟨fun _ _ _ _ _ => trivial, ⟨fun _ _ _ _ _ => trivial, ⟨fun _ _ _ _ _ => trivial, ⟨fun _ _ _ _ _ => trivial, ⟨fun _ _ _ _ _ => trivial, ⟨fun _ _ _ _ _ => trivial, ⟨fun _ _ _ _ _ => trivial, ⟨fun _ _ _ _ _ => trivial, ⟨fun _ _ _ _ _ => trivial, ⟨fun _ _ _ _ _ => trivial, ⟨fun _ _ _ _ _ => trivial, ⟨fun _ _ _ _ _ => trivial, ⟨fun _ _ _ _ _ => trivial, ⟨fun _ _ _ _ _ => trivial, trivial⟩⟩⟩⟩⟩⟩⟩⟩⟩⟩⟩⟩⟩⟩⟩⟩⟩⟩⟩⟩⟩⟩⟩⟩⟩⟩⟩⟩⟩⟩⟩⟩⟩⟩⟩⟩⟩) (by kernel_rfl) (by kernel_rfl) (by kernel_rfl) ?_
          rotate_left 37
          repeat (first
            | (refine wpD_skipv ?_ ?_ ?_
               focus rfl
               focus rfl
               simp only [Act.put, List.setIfInBounds_toArray, List.set_cons_succ, List.set_cons_zero])
            | (refine' wpD_val (c := _) ?_ (fun w => Kp.refl _ w) ?_ (fun wq hwq hfq => ?_) ?_
               rotate_left
               focus rfl
               focus rfl
               focus ((have c1 := hwq.cell CA1.out (fun f => f); have c2 := hwq.cell CB1.out (fun f => f); have x0 := HC1.out _ hwq 0 _ (by decide) rfl; have y0 := HC2.out _ hwq 0 _ (by decide) rfl; have x1 := HC1.out _ hwq 1 _ (by decide) rfl; have x2 := HC1.out _ hwq 2 _ (by decide) rfl; have x3 := HC1.out _ hwq 3 _ (by decide) rfl; have x4 := HC1.out _ hwq 4 _ (by decide) rfl; have x5 := HC1.out _ hwq 5 _ (by decide) rfl; have x6 := HC1.out _ hwq 6 _ (by decide) rfl; have x7 := HC1.out _ hwq 7 _ (by decide) rfl; have x8 := HC1.out _ hwq 8 _ (by decide) rfl; have x9 := HC1.out _ hwq 9 _ (by decide) rfl; have x10 := HC1.out _ hwq 10 _ (by decide) rfl; have y1 := HC2.out _ hwq 1 _ (by decide) rfl; have y2 := HC2.out _ hwq 2 _ (by decide) rfl; have y3 := HC2.out _ hwq 3 _ (by decide) rfl; have y4 := HC2.out _ hwq 4 _ (by decide) rfl; have y5 := HC2.out _ hwq 5 _ (by decide) rfl; have y6 := HC2.out _ hwq 6 _ (by decide) rfl; have y7 := HC2.out _ hwq 7 _ (by decide) rfl; have y8 := HC2.out _ hwq 8 _ (by decide) rfl; have y9 := HC2.out _ hwq 9 _ (by decide) rfl; have y10 := HC2.out _ hwq 10 _ (by decide) rfl; simp only [Nat.add_zero] at x0 y0); go_simp; first | done | rfl)
               simp only [Act.put, List.setIfInBounds_toArray, List.set_cons_succ, List.set_cons_zero])
            | (refine' wpD_con (c := _) ?_ ?_ (fun wq hwq hfq => ?_) ?_
               rotate_left
               focus rfl
               focus rfl
               focus ((have c1 := hwq.cell CA1.out (fun f => f); have c2 := hwq.cell CB1.out (fun f => f); have x0 := HC1.out _ hwq 0 _ (by decide) rfl; have y0 := HC2.out _ hwq 0 _ (by decide) rfl; have x1 := HC1.out _ hwq 1 _ (by decide) rfl; have x2 := HC1.out _ hwq 2 _ (by decide) rfl; have x3 := HC1.out _ hwq 3 _ (by decide) rfl; have x4 := HC1.out _ hwq 4 _ (by decide) rfl; have x5 := HC1.out _ hwq 5 _ (by decide) rfl; have x6 := HC1.out _ hwq 6 _ (by decide) rfl; have x7 := HC1.out _ hwq 7 _ (by decide) rfl; have x8 := HC1.out _ hwq 8 _ (by decide) rfl; have x9 := HC1.out _ hwq 9 _ (by decide) rfl; have x10 := HC1.out _ hwq 10 _ (by decide) rfl; have y1 := HC2.out _ hwq 1 _ (by decide) rfl; have y2 := HC2.out _ hwq 2 _ (by decide) rfl; have y3 := HC2.out _ hwq 3 _ (by decide) rfl; have y4 := HC2.out _ hwq 4 _ (by decide) rfl; have y5 := HC2.out _ hwq 5 _ (by decide) rfl; have y6 := HC2.out _ hwq 6 _ (by decide) rfl; have y7 := HC2.out _ hwq 7 _ (by decide) rfl; have y8 := HC2.out _ hwq 8 _ (by decide) rfl; have y9 := HC2.out _ hwq 9 _ (by decide) rfl; have y10 := HC2.out _ hwq 10 _ (by decide) rfl; simp only [Nat.add_zero] at x0 y0); go_simp; (try (rw [dUpon_enter])); ((with_reducible refine (HS.out _ hwq).mono ?_); rintro e w' ⟨rfl, hx⟩; exact DEnd.con hx))
               simp only [Act.put, List.setIfInBounds_toArray, List.set_cons_succ, List.set_cons_zero])
            | fail)
          refine wpD_nil ?_
          intro w2 hx2 hend
          clear hend
          have HX2 := Lib.hid hx2
          clear hx2 hpe
          cases hsb : sameB x.n y.n with
          | true =>
            have hn := sameB_iff.1 hsb
            have HT2 := Lib.hid (HSTEP.out (by rw [hp, hn]))
            clear hsb hn
            go_wp2_with (fail)
            go_light
            exact ⟨⟨k + 1, by rw [entL_len]; omega, by go_num, HT2.out, HXR.out.trans HX2.out⟩, by simp [intOf]; omega⟩
          | false =>
            have HNE : Hid (¬ entL Ea = entL Eb) := fun h => by
              have h2 := HNO.out h
              simp only [Prod.mk.injEq] at h2
              rw [sameB_iff.2 h2.2] at hsb
              cases hsb
            clear hsb
            go_wp2_with (fail)
            go_ret
            exact ⟨ret_bool (by rw [decide_eq_false HNE.out]), HXR.out.trans HX2.out⟩
        · have hpe : (x.p.toList == y.p.toList) = false := by rw [str_eq]; exact decide_eq_false hp
          have HNE : Hid (¬ entL Ea = entL Eb) := fun h => by
            have h2 := HNO.out h
            simp only [Prod.mk.injEq] at h2
            exact hp h2.1
          clear hp
          go_upto_region 6 with (fail)
          clear c1
          refine' wp_region_dag0 ((26, .val _) :: (27, .val _) :: (28, .val _) :: (29, .val _) :: (30, .val _) :: (31, .val _) :: (32, .val _) :: (33, .val _) :: (34, .val _) :: (35, .val _) :: (36, .val _) :: (37, .val _) :: (38, .val _) :: (39, .val _) :: (40, .val _) :: (41, .val _) :: (42, .val _) :: (43, .val _) :: (44, .val _) :: (45, .val _) :: (46, .val _) :: (47, .val _) :: (48, .val _) :: (49, .val _) :: (50, .val _) :: (51, .val _) :: (52, .val _) :: (53, .val _) :: (54, .val _) :: (55, .val _) :: (56, .val _) :: (57, .val _) :: (58, .val _) :: (59, .val _) :: (60, .val _) :: (61, .val _) :: (62, .val _) :: []) (by exact ⟨fun _ _ _ _ _ => trivial, ⟨fun _ _ _ _ _ => trivial, ⟨fun _ _ _ _ _ => trivial, ⟨fun _ _ _ _ _ => trivial, ⟨fun _ _ _ _ _ => trivial, ⟨fun _ _ _ _ _ => trivial, ⟨fun _ _ _ _ _ => trivial, ⟨fun _ _ _ _ _ => trivial, ⟨fun _ _ _ _ _ => trivial, ⟨fun _ _ _ _ _ => trivial, ⟨fun _ _ _ _ _ => trivial, ⟨fun _ _ _ _ _ => trivial, ⟨fun _ _ _ _ _ => trivial, ⟨fun _ _ _ _ _ => trivial, ⟨fun _ _ _ _ _ => trivial, ⟨fun _ _ _ _ _ => trivial, ⟨fun _ _ _ _ _ => trivial, ⟨fun _ _ _ _ _ => trivial, ⟨fun _ _ _ _ _ => trivial, ⟨fun _ _ _ _ _ => trivial, ⟨fun _ _ _ _ _ => trivial, ⟨fun _ _ _ _ _ => trivial, ⟨fun _ _ _ _ _ => trivial, ⟨fun _ _ _ _ _ => trivial, ⟨fun _ _ _ _ _ => trivial, ⟨fun _ _ _ _ _ => trivial, ⟨fun _ _ _ _ _ => trivial, ⟨fun _ _ _ _ _ => trivial, ⟨fun _ _ _ _ _ => trivial, ⟨fun _ _ _ _ _ => trivial, ⟨fun _ _ _ _ _ => trivial, ⟨fun _ _ _ _ _ => trivial, ⟨fun _ _ _ _ _ => trivial, ⟨fun _ _ _ _ _ => trivial, ⟨fun _ _ _ _ _ => trivial, ⟨fun _ _ _ _ _ => trivial, ⟨fun _ _ _ _ _ => trivial, trivial⟩⟩⟩⟩⟩⟩⟩⟩⟩⟩⟩⟩⟩⟩⟩⟩⟩⟩⟩⟩⟩⟩⟩⟩⟩⟩⟩⟩⟩⟩⟩⟩⟩⟩⟩⟩⟩) (by kernel_rfl) (by kernel_rfl) (by kernel_rfl) ?_
          rotate_left 37
          repeat (first
            | (refine wpD_skipv ?_ ?_ ?_
               focus rfl
               focus rfl
               simp only [Act.put, List.setIfInBounds_toArray, List.set_cons_succ, List.set_cons_zero])
            | (refine' wpD_val (c := _) ?_ (fun w => Kp.refl _ w) ?_ (fun wq hwq hfq => ?_) ?_
               rotate_left
               focus rfl
               focus rfl
               focus ((have c1 := hwq.cell CA1.out (fun f => f); have c2 := hwq.cell CB1.out (fun f => f); have x0 := HC1.out _ hwq 0 _ (by decide) rfl; have y0 := HC2.out _ hwq 0 _ (by decide) rfl; simp only [Nat.add_zero] at x0 y0); go_simp; first | done | rfl)
               simp only [Act.put, List.setIfInBounds_toArray, List.set_cons_succ, List.set_cons_zero])
            | (refine' wpD_con (c := _) ?_ ?_ (fun wq hwq hfq => ?_) ?_
               rotate_left
               focus rfl
               focus rfl
               focus ((have c1 := hwq.cell CA1.out (fun f => f); have c2 := hwq.cell CB1.out (fun f => f); have x0 := HC1.out _ hwq 0 _ (by decide) rfl; have y0 := HC2.out _ hwq 0 _ (by decide) rfl; simp only [Nat.add_zero] at x0 y0); go_simp; (try (rw [dUpon_enter])); fail)
               simp only [Act.put, List.setIfInBounds_toArray, List.set_cons_succ, List.set_cons_zero])
            | fail)
          refine wpD_nil ?_
          intro w2 hx2 hend
          clear hend
          have HX2 := Lib.hid hx2
          clear hx2 hpe
          go_wp2_with (fail)
          go_ret
          exact ⟨ret_bool (by rw [decide_eq_false HNE.out]), HXR.out.trans HX2.out⟩
      · have HEQ : Hid (entL Ea = entL Eb) := by
          have h1 := HTK.out
          rw [List.take_of_length_le (by rw [entL_len]; omega), List.take_of_length_le (by rw [entL_len]; have := HL.out; omega)] at h1
          exact h1
        go_wp2_with (fail)
        go_ret
        exact ⟨ret_bool (by rw [decide_eq_true HEQ.out]), HXR.out⟩
  · have hlb : ((Ea.length : Int) != (Eb.length : Int)) = true := by rw [bne_iff_ne]; omega
    have HNE : Hid (¬ entL Ea = entL Eb) := fun h => hl (by rw [← entL_len, h, entL_len])
    clear hl
    go_enter Tryz.func17, Tryz.ntmps17
    go_upto_region 1 with (fail)
    clear ca1 cb1
    refine' wp_region_dag0 ((6, .val _) :: (7, .val _) :: (8, .val _) :: (9, .val _) :: (10, .val _) :: (11, .val _) :: (12, .val _) :: (13, .val _) :: (14, .val _) :: (15, .val _) :: (16, .val _) :: []) (by exact ⟨fun _ _ _ _ _ => trivial, ⟨fun _ _ _ _ _ => trivial, ⟨fun _ _ _ _ _ => trivial, ⟨fun _ _ _ _ _ => trivial, ⟨fun _ _ _ _ _ => trivial, ⟨fun _ _ _ _ _ => trivial, ⟨fun _ _ _ _ _ => trivial, ⟨fun _ _ _ _ _ => trivial, ⟨fun _ _ _ _ _ => trivial, ⟨fun _ _ _ _ _ => trivial, ⟨fun _ _ _ _ _ => trivial, trivial⟩⟩⟩⟩⟩⟩⟩⟩⟩⟩⟩) (by kernel_rfl) (by kernel_rfl) (by kernel_rfl) ?_
    rotate_left 11
    repeat (first
      | (refine wpD_skipv ?_ ?_ ?_
         focus rfl
         focus rfl
         simp only [Act.put, List.setIfInBounds_toArray, List.set_cons_succ, List.set_cons_zero])
      | (refine' wpD_val (c := _) ?_ (fun w => Kp.refl _ w) ?_ (fun wq hwq hfq => ?_) ?_
         rotate_left
         focus rfl
         focus rfl
         focus ((have c1 := hwq.cell CA.out (fun f => f); have c2 := hwq.cell CB.out (fun f => f)); go_simp; first | done | rfl)
         simp only [Act.put, List.setIfInBounds_toArray, List.set_cons_succ, List.set_cons_zero])
      | (refine' wpD_con (c := _) ?_ ?_ (fun wq hwq hfq => ?_) ?_
         rotate_left
         focus rfl
         focus rfl
         focus ((have c1 := hwq.cell CA.out (fun f => f); have c2 := hwq.cell CB.out (fun f => f)); go_simp; (try (rw [dUpon_enter])); fail)
         simp only [Act.put, List.setIfInBounds_toArray, List.set_cons_succ, List.set_cons_zero])
      | fail)
    refine wpD_nil ?_
    intro w1 hx1 hend
    clear hend
    have HX1 := Lib.hid hx1
    clear hx1 hlb
    go_wp2_with (fail)
    go_ret
    exact ⟨ret_bool (by rw [decide_eq_false HNE.out]), HX1.out⟩
end Go.Proofs.YtdagikbdpeblhaaGreatDoor

/- Walks: a tree as the reference's own: own. -/
namespace Go.Proofs.YtdagikbdpeblhaaGreatDoor
set_option maxRecDepth 100000
open Go.RowKit Av

abbrev entsT : TypeId := 29
theorem ents_facts : ElemOk Tryz.prog entsT entT 11 := ⟨by kernel_rfl, by kernel_rfl⟩
theorem owns_up {w : World} {base k n : Nat} {e : TypeId} {v : Value} {xs : List Value} (h : w.ownsRow 0 e k v n xs) (hb : ∀ i, v.ownBlock = some i → base ≤ i) : w.ownsRow base e k v n xs := by
  obtain ⟨h1, h2 | ⟨g, c, cur, rfl, _, hr⟩⟩ := h
  · exact ⟨h1, .inl h2⟩
  · exact ⟨h1, .inr ⟨g, c, cur, rfl, hb g rfl, hr⟩⟩
theorem ent_one (e : Ent) (hv : e.nv.oneCell' = true) : ∀ y ∈ entC e, y.oneCell' = true := by
  intro y hy
  unfold entC at hy
  simp only [List.mem_cons, List.not_mem_nil, or_false] at hy
  rcases hy with rfl | rfl | rfl | rfl | rfl | rfl | rfl | rfl | rfl | rfl | rfl
  all_goals first | rfl | exact hv
theorem flat_snoc {α : Type} (f : α → List Value) (xs : List α) (x : α) : (xs ++ [x]).flatMap f = xs.flatMap f ++ f x := by rw [List.flatMap_append, List.flatMap_singleton]
def OwnPost (w : World) (rm : Int) (R : RL) (e : Ending) (w' : World) : Prop := ∃ g, e = .returned (.pointer (some ⟨g, 0, none⟩)) ∧ RefT w' w.heap.size g rm R ∧ Ext w w'
def OwnRel (wS : World) (rm : Int) (g : Nat) (f : Bs → ByteArray × NodeV) (L : List Bs) (s7 : Value) (wr : World) : Prop :=
  ∃ (i : Nat) (v : Value) (E : List Ent), i ≤ L.length ∧ s7 = .int .i64 i ∧ entL E = (L.take i).map f ∧ Blk wr g #[.int .i64 rm, v] rtT ∧ EntsR wr wS.heap.size v E ∧ Kp (fun j => j = g) wS wr
/-- A round of own: the row has one entry more, and lies in the block again. -/
theorem own_step {w wS wC w7 : World} {rm : Int} {va : Option Addr} {vc : Nat} {E : List Ent} {ne : Ent} {a : Option Addr} {c : Nat} (hsz : w.heap.size < wS.heap.size) (hk : Kp (fun j => j = w.heap.size) wS wC) (hE : EntsR wC wS.heap.size (.slice va E.length vc) E) (hne : EntOk wC ne)
    (k7 : Kp (fun i => (Value.slice va E.length vc).ownBlock = some i) wC w7) (h : w7.ownsRow 0 entT 11 (.slice a (E.length + 1) c) (E.length + 1) (E.flatMap entC ++ entC ne)) (hi : ∀ i, (Value.slice a (E.length + 1) c).ownBlock = some i → (Value.slice va E.length vc).ownBlock = some i ∨ wC.heap.size ≤ i)
    (hb : Blk wC w.heap.size #[.int .i64 rm, .slice va E.length vc] rtT) :
    Blk (w7.setCell ⟨w.heap.size, 1, none⟩ (.slice a (E.length + 1) c)) w.heap.size #[.int .i64 rm, .slice a (E.length + 1) c] rtT ∧ EntsR (w7.setCell ⟨w.heap.size, 1, none⟩ (.slice a (E.length + 1) c)) wS.heap.size (.slice a (E.length + 1) c) (E ++ [ne]) ∧ Kp (fun j => j = w.heap.size) wS (w7.setCell ⟨w.heap.size, 1, none⟩ (.slice a (E.length + 1) c)) := by
  have hro : ∀ q, (Value.slice va E.length vc).ownBlock = some q → wS.heap.size ≤ q := fun q hq => (own_in hE.row hq).1
  have hb7 : Blk w7 w.heap.size #[.int .i64 rm, .slice va E.length vc] rtT := hb.kp k7 (fun e => by have := hro _ e; omega)
  have hset : Kp (fun i => i = w.heap.size) w7 (w7.setCell ⟨w.heap.size, 1, none⟩ (.slice a (E.length + 1) c)) := (Kp.refl _ _).set1 _ 1 _ rfl
  have hkS := hk.size
  have hno : NoT w7 (fun i => i = w.heap.size) strT := fun i e cur f hc => by
    have e2 : i = w.heap.size := e
    subst e2
    have h1 : w7.heap[w.heap.size]? = some (.cells #[.int .i64 rm, .slice va E.length vc] rtT (0, 0)) := hb7
    rw [h1] at hc
    simp only [Option.some.injEq, Obj.cells.injEq] at hc
    exact absurd hc.2.1 (by decide)
  have hnr : NoT wC (fun i => (Value.slice va E.length vc).ownBlock = some i) strT := fun i e cur f hc => by
    obtain ⟨cur2, f2, h2⟩ := own_type hE.row e
    rw [h2] at hc
    simp only [Option.some.injEq, Obj.cells.injEq] at hc
    exact absurd hc.2.1 (by decide)
  have hlow : ∀ i, (Value.slice a (E.length + 1) c).ownBlock = some i → wS.heap.size ≤ i := fun i e => by
    rcases hi i e with e2 | e2
    · exact hro i e2
    · omega
  refine ⟨hb7.set 1 _, ⟨?_, fun e he => ?_⟩, ?_⟩
  · have h1 := ownsRow.kp (owns_up h hlow) hset (fun i e e2 => by have := hlow i e; have e3 : i = w.heap.size := e2; omega)
    rw [List.length_append, List.length_singleton, flat_snoc]
    exact h1
  · have h1 : EntOk wC e := by
      rcases List.mem_append.1 he with h | h
      · exact hE.ok e h
      · rw [List.mem_singleton.1 h]; exact hne
    exact (h1.kp k7 hnr).kp hset hno
  · exact (hk.next k7 (fun i hi e => absurd (hro i e) (by omega))).next hset (fun i _ e => e)
end Go.Proofs.YtdagikbdpeblhaaGreatDoor
