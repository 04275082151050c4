/- Walk of package lock: Free. -/
import Derived.Test.YtdaoamnemkiloaaDoorAvWLockB
namespace Go.Proofs.YtdaoamnemkiloaaDoor
set_option maxRecDepth 100000
open Go.RowKit Av

def freeN (st : St) (who : Int) : Nat := (st.filter fun e => decide (e.2 = who)).length
theorem freeN_add (st : St) (who : Int) : freeN st who + (freeL st who).length = st.length := by
  unfold freeN freeL
  induction st with
  | nil => rfl
  | cons e r ih => by_cases h : e.2 = who <;> simp [h] <;> simp at ih <;> omega
/-- What is left of st while the range goes on. -/
def curOf (st : St) (who : Int) (left : List (ByteArray × Value)) : St := st.filter fun e => decide (e.2 ≠ who ∨ e.1 ∈ left.map (·.1))
theorem curOf_all (st : St) (who : Int) : curOf st who (stV st) = st := by
  unfold curOf
  rw [List.filter_eq_self]
  intro e he
  simp only [decide_eq_true_eq]
  exact .inr (by rw [List.map_map]; exact List.mem_map.2 ⟨e, he, rfl⟩)
theorem curOf_nil (st : St) (who : Int) : curOf st who [] = freeL st who := by simp [curOf, freeL]
theorem mem_mdel_keys {left : List (ByteArray × Value)} {q x : ByteArray} : x ∈ (mdel left q).map (·.1) ↔ x ∈ left.map (·.1) ∧ q ≠ x := by
  simp only [mdel, List.mem_map, List.mem_filter, decide_eq_true_eq]
  constructor
  · rintro ⟨e, ⟨h1, h2⟩, rfl⟩; exact ⟨⟨e, h1, rfl⟩, h2⟩
  · rintro ⟨⟨e, h1, rfl⟩, h2⟩; exact ⟨e, ⟨h1, h2⟩, rfl⟩
theorem key_val {st : St} (hn : (st.map (·.1)).Nodup) {e : ByteArray × Int} {q : ByteArray} {x : Int} (he : e ∈ st) (hq : (q, x) ∈ st) (h : e.1 = q) : e.2 = x := by
  have h1 := mget_of_mem hn (show (e.1, e.2) ∈ st from he)
  have h2 := mget_of_mem hn hq
  rw [h, h2] at h1
  exact (Option.some.inj h1).symm
theorem curOf_keep {st : St} (hn : (st.map (·.1)).Nodup) {who : Int} {left : List (ByteArray × Value)} {q : ByteArray} {x : Int} (hq : (q, x) ∈ st) (hx : x ≠ who) : curOf st who (mdel left q) = curOf st who left := by
  unfold curOf
  apply List.filter_congr
  intro e he
  rw [Bool.eq_iff_iff]
  simp only [decide_eq_true_eq, mem_mdel_keys]
  by_cases h : e.1 = q
  · have := key_val hn he hq h
    rw [this]; simp [hx]
  · constructor
    · rintro (h1 | h1)
      · exact .inl h1
      · exact .inr h1.1
    · rintro (h1 | h1)
      · exact .inl h1
      · exact .inr ⟨h1, fun e => h e.symm⟩
theorem curOf_drop {st : St} (hn : (st.map (·.1)).Nodup) {who : Int} {left : List (ByteArray × Value)} {q : ByteArray} (hq : (q, who) ∈ st) : curOf st who (mdel left q) = mdel (curOf st who left) q := by
  unfold curOf mdel
  rw [List.filter_filter]
  apply List.filter_congr
  intro e he
  rw [Bool.eq_iff_iff]
  have hm := mem_mdel_keys (left := left) (q := q) (x := e.1)
  unfold mdel at hm
  simp only [decide_eq_true_eq, Bool.and_eq_true, hm]
  by_cases h : e.1 = q
  · have := key_val hn he hq h
    rw [this, h]; simp
  · constructor
    · rintro (h1 | h1)
      · exact ⟨fun e => h e.symm, .inl h1⟩
      · exact ⟨h1.2, .inr h1.1⟩
    · rintro ⟨h1, h2 | h2⟩
      · exact .inl h2
      · exact .inr ⟨h2, h1⟩
theorem mdel_len {κ α : Type} [DecidableEq κ] {l : List (κ × α)} (hn : (l.map (·.1)).Nodup) {k : κ} {v : α} (h : (k, v) ∈ l) : (mdel l k).length + 1 = l.length := by
  induction l with
  | nil => simp at h
  | cons p r ih =>
    simp only [List.map_cons, List.nodup_cons] at hn
    by_cases hp : k = p.1
    · subst hp
      have : mdel (p :: r) p.1 = r := by
        unfold mdel
        simp only [List.filter_cons, ne_eq, not_true_eq_false, decide_false, Bool.false_eq_true, if_false]
        rw [List.filter_eq_self]
        intro e he
        simp only [decide_eq_true_eq]
        exact fun h => hn.1 (by rw [h]; exact List.mem_map_of_mem (f := (·.1)) he)
      rw [this]; rfl
    · rcases List.mem_cons.1 h with rfl | h
      · exact absurd rfl hp
      · have : mdel (p :: r) k = p :: mdel r k := by simp [mdel, hp]
        rw [this]; simp [ih hn.2 h]
theorem mdel_twice {κ α : Type} [DecidableEq κ] (l : List (κ × α)) (k : κ) : mdel (mdel l k) k = mdel l k := by
  unfold mdel; rw [List.filter_filter]; simp
theorem Iter.left_nodup {w : World} {r m : Nat} {es left : List (ByteArray × Value)} (h : Iter Value.string w r m es left) : (left.map (·.1)).Nodup := List.Nodup.sublist (h.sub.map _) h.map.nodup

def FreeRel (w : World) (b m r : Nat) (st : St) (who : Int) (n : Value) (wr : World) : Prop :=
  ∃ left, (∃ k : Nat, n = .int .i64 k ∧ k + (curOf st who left).length = st.length) ∧ Iter Value.string wr r m (stV (curOf st who left)) left ∧ wr.cell? ⟨b, 0, none⟩ = some (.map (some m)) ∧
    (∀ e ∈ left, e ∈ stV st) ∧ Kp (fun i => i = m) w wr

set_option maxHeartbeats 1000000 in
theorem free_any (b m : Nat) (st : St) (who : Int) (w : World) (h : LockAt w b m st) (hn : st.length ≤ 1000000) :
    Calls Tryd.prog 14 #[.pointer (some ⟨b, 0, none⟩), .int .i64 who] w fun e w' => e = .returned (.int .i64 (freeN st who)) ∧ LockAt w' b m (freeL st who) ∧ Kp (fun i => i = m) w w' := by
  have hc := h.cell
  obtain ⟨w1, hrun, hit, hx, hsz⟩ := MapK.range tM h.map
  have hbm := h.ne
  have hlt := h.lt
  have hnd : (st.map (·.1)).Nodup := by have := h.map.nodup; simpa [List.map_map, Function.comp_def] using this
  have hwr : w.heap.size = w.heap.size := rfl
  generalize hr : w.heap.size = r at hrun hit
  have hmr : m ≠ r := by omega
  have hbr : b ≠ r := by omega
  have hbw : w.heap.size ≤ r := by omega
  have HIT := Lib.hid hit
  have HMR := Lib.hid hmr
  have HBR := Lib.hid hbr
  have HBM := Lib.hid hbm
  have HND := Lib.hid hnd
  clear hit hsz hbm hlt hnd hwr hr hmr hbr
  go_enter Tryd.func14, Tryd.ntmps14
  go_wp2_with (fail)
  go_loopw [5] (FreeRel w b m r st who) (fun _ wr => itLeft wr r m)
  case atStart =>
    go_light
    exact ⟨stV st, ⟨0, rfl, by rw [curOf_all]; omega⟩, by rw [curOf_all]; exact HIT.out, hx.cell hc (fun f => f), fun e he => he, Ext.kp hx⟩
  case round =>
    obtain ⟨left, ⟨n, rfl, hnn⟩, hit, hcw, hsub, hkp⟩ := hrel
    rcases hit.next (P := Tryd.prog) with ⟨rfl, hnx⟩ | ⟨q, v, w2, hmem, hnx, hit', hkp2, hsz, hen⟩
    · have hmap := hit.map
      rw [curOf_nil] at hnn hmap
      have HM := Lib.hid hmap
      have hnl : n = freeN st who := by have := freeN_add st who; omega
      have HN := Lib.hid hnl
      clear hnn hit hsub hmap hnl
      go_wp2_with (fail)
      go_ret
      go_light
      refine ⟨ret_val (by rw [HN.out]; rfl), ⟨hcw, HM.out, fun e he => h.small e ?_⟩, hkp⟩
      exact (List.mem_filter.1 he).1
    · obtain ⟨e0, he0, hev⟩ := List.mem_map.1 (hsub _ hmem)
      obtain ⟨q', x⟩ := e0
      simp only [Prod.mk.injEq] at hev
      obtain ⟨rfl, rfl⟩ := hev
      have hcw2 := hkp2.cell hcw HBR.out
      have hlen : (mdel left q').length < left.length := mdel_length hmem
      by_cases hwho : x = who
      · subst hwho
        obtain ⟨w3, hdl, hit3, hkp3, hsz3⟩ := hit'.delete kS tM q'
        rw [mdel_twice, mdel_map, ← curOf_drop HND.out he0] at hit3
        have hcw3 := hkp3.cell hcw2 HBM.out
        have hcl : (curOf st x (mdel left q')).length + 1 = (curOf st x left).length := by
          rw [curOf_drop HND.out he0]
          refine mdel_len ?_ (k := q') (v := x) ?_
          · exact List.Nodup.sublist (List.filter_sublist.map _) HND.out
          · refine List.mem_filter.2 ⟨he0, by simp only [decide_eq_true_eq]; exact .inr (List.mem_map.2 ⟨_, hmem, rfl⟩)⟩
        have hn1 : n + 1 ≤ 1000000 := by omega
        have hxx : (x == x) = true := by simp
        have hfin : FreeRel w b m r st x (.int .i64 (n + 1)) w3 ∧ itLeft w3 r m < itLeft wr r m := by
          refine ⟨⟨mdel left q', ⟨n + 1, rfl, by omega⟩, hit3, hcw3, fun e he => hsub e (List.mem_filter.1 he).1, ?_⟩, by rw [hit3.left, hit.left]; exact hlen⟩
          exact (hkp.next hkp2 (fun i hi e => by subst e; omega)).trans hkp3
        have HF := Lib.hid hfin
        clear hit hit' hsub hmem hnn hlen he0 hkp2 hsz hit3 hkp3 hsz3 hcl hfin
        go_wp2_with (fail)
        go_light
        exact HF.out
      · have hxx : (x == who) = false := by simpa using hwho
        have hfin : FreeRel w b m r st who (.int .i64 n) w2 ∧ itLeft w2 r m < itLeft wr r m := by
          refine ⟨⟨mdel left q', ⟨n, rfl, by rw [curOf_keep HND.out he0 hwho]; exact hnn⟩, by rw [curOf_keep HND.out he0 hwho]; exact hit', hcw2, fun e he => hsub e (List.mem_filter.1 he).1, ?_⟩, by rw [hit'.left, hit.left]; exact hlen⟩
          exact hkp.next hkp2 (fun i hi e => by subst e; omega)
        have HF := Lib.hid hfin
        clear hit hit' hsub hmem hnn hlen he0 hkp2 hsz hwho hfin
        go_wp2_with (fail)
        go_light
        exact HF.out
end Go.Proofs.YtdaoamnemkiloaaDoor
