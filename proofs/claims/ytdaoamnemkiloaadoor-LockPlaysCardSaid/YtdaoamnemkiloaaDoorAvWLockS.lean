/- Walks of the reference's locks: Free, Take. -/
import Derived.Test.YtdaoamnemkiloaaDoorAvWLockR
import Derived.Test.YtdaoamnemkiloaaDoorAvWLockC
namespace Go.Proofs.YtdaoamnemkiloaaDoor
set_option maxRecDepth 100000
open Go.RowKit Av

theorem held_facts : ElemOk Tryd.prog 38 53 2 := ⟨by kernel_rfl, by kernel_rfl⟩
theorem held_one (xs : St) : ∀ y ∈ xs.flatMap hcell, y.oneCell' = true := by
  intro y hy
  obtain ⟨e, _, he⟩ := List.mem_flatMap.1 hy
  simp only [hcell, List.mem_cons, List.not_mem_nil, or_false] at he
  rcases he with rfl | rfl <;> rfl
theorem RL.set {w : World} {b : Nat} {st' : St} {c : Array Value} {v : Value} (hb : Blk w b c rlT) (hc : c.size = 1) (h2 : Sl w 2 v st'.length (st'.flatMap hcell)) (h3 : Shp v) (h4 : ∀ k, v.ownBlock = some k → k ≠ b) : RL (w.setCell ⟨b, 0, none⟩ v) b st' := by
  have k : Kp (fun i => i = b) w (w.setCell ⟨b, 0, none⟩ v) := Kp.set1 (Kp.refl (fun i => i = b) w) b 0 v rfl
  refine ⟨v, ?_, Sl.kp h2 k (fun i hi _ e => h4 i hi e), h3, fun _ => h4⟩
  have := hb.set 0 v
  have e : c.setIfInBounds 0 v = #[v] := by
    obtain ⟨l⟩ := c
    match l, hc with
    | [x], _ => rfl
  rwa [e] at this
/-- The loop of Free: what is not who's of the first k. -/
def RFreeRel (w : World) (base : Nat) (st : St) (who : Int) (v i : Value) (wr : World) : Prop :=
  ∃ k : Nat, k ≤ st.length ∧ i = .int .i64 k ∧ wr.ownsRow base 53 2 v (freeL (st.take k) who).length ((freeL (st.take k) who).flatMap hcell) ∧ Ext w wr
theorem free_snoc {st : St} {who : Int} {k : Nat} (hk : k < st.length) : freeL (st.take (k + 1)) who = freeL (st.take k) who ++ (if st[k].2 ≠ who then [st[k]] else []) := by
  unfold freeL
  rw [List.take_succ_eq_append_getElem hk, List.filter_append]
  by_cases h : st[k].2 ≠ who <;> simp [h]
set_option maxHeartbeats 1600000 in
theorem rlFree_any (b : Nat) (st : St) (who : Int) (w : World) (h : RL w b st) (hn : st.length ≤ 1000000) :
    Calls Tryd.prog 18 #[.pointer (some ⟨b, 0, none⟩), .int .i64 who] w fun e w' => e = .returned (.int .i64 ((st.length : Int) - ((freeL st who).length : Int))) ∧ RL w' b (freeL st who) ∧ Kp (fun i => i = b) w w' := by
  have HL := Lib.hid h
  have hbl : b < w.heap.size := by obtain ⟨v, h1, _⟩ := h; exact h1.lt
  have hfl : (freeL st who).length ≤ st.length := List.length_filter_le _ _
  have HFL := Lib.hid hfl
  clear h hfl
  go_enter Tryd.func18, Tryd.ntmps18
  go_wp2_with (fail)
  go_loopw [5, 6] (fun v i wr => RFreeRel w w.heap.size st who v i wr) (fun _ i _ => st.length - (intOf i).toNat)
  case atStart => exact ⟨0, Nat.zero_le _, rfl, ⟨rfl, .inl ⟨rfl, rfl⟩⟩, Kp.refl _ _⟩
  case round =>
    obtain ⟨k, hk, rfl, hown, hxr⟩ := hrel
    obtain ⟨a, c, ⟨hb, _, _⟩, hc, hm, hop⟩ := (HL.out.ext hxr).open
    unfold maxLen at hm
    have c0 := hb.cell 0 _ rfl
    have f0 := hb.free 0
    have HB := Lib.hid hb
    have HXR := Lib.hid hxr
    have HOP := Lib.hid hop
    have HOW := Lib.hid hown
    have hsz := hxr.size
    obtain ⟨a3, l3, c3, hv3⟩ : ∃ a3 l3 c3, u5 = .slice a3 l3 c3 := by obtain ⟨a3, c3, e, _⟩ := Sl.open (Sl.of_owns hown); exact ⟨_, _, _, e⟩
    subst hv3
    clear hb hxr hop hown
    by_cases hlt : k < st.length
    · obtain ⟨g, off, rfl, hgl, hcl⟩ := HOP.out (by omega)
      obtain ⟨s0, s1⟩ := hcl k hlt
      have HSN := Lib.hid (free_snoc (who := who) hlt)
      obtain ⟨⟨q, x⟩, hq⟩ : ∃ e, st[k] = e := ⟨_, rfl⟩
      rw [hq] at s0 s1 HSN
      clear hq hcl
      by_cases hx : x = who
      · have HN : Hid (freeL (st.take (k + 1)) who = freeL (st.take k) who) := by show _ = _; rw [HSN.out]; simp [hx]
        subst hx
        clear HSN
        go_wp2_with (fail)
        go_light
        exact ⟨⟨k + 1, by omega, by go_num, by rw [HN.out]; exact HOW.out, HXR.out⟩, by simp [intOf]; omega⟩
      · have HN : Hid (freeL (st.take (k + 1)) who = freeL (st.take k) who ++ [(q, x)]) := by show _ = _; rw [HSN.out]; simp [hx]
        have HLE : Hid ((freeL (st.take k) who).length ≤ 1000000) := by
          show _ ≤ _
          have h1 : (freeL (st.take k) who).length ≤ (st.take k).length := List.length_filter_le _ _
          rw [List.length_take] at h1
          omega
        have hone := held_one [(q, x)]
        clear HSN
        go_wp2_with (at_builtin; refine wpList_appK 38 53 2 (by decide) held_facts rfl _ _ rfl w.heap.size _ _ _ rfl (ownsRow.ext HOW.out ((Kp.refl _ wr).alloc _)) _ 1 ([(q, x)].flatMap hcell) rfl (Sl.of_block (heap_alloc_new wr _) rfl (by decide) (Nat.le_refl _)) Shp.some hone ?c1 ?c2 ?_)
        case c1 => have := HLE.out; omega
        case c2 => first | omega | (simp; omega)
        intro v' w' h1 k2
        have hx' : Ext w w' := (HXR.out.ext ((Kp.refl _ wr).alloc (.cells #[.string q, .int .i64 x] 53))).next k2 (fun i hi e => by have := owns_base HOW.out i e; omega)
        have HX' := Lib.hid hx'
        have HO' := Lib.hid h1
        clear h1 k2 hx'
        go_wp2_with (fail)
        go_light
        refine ⟨⟨k + 1, by omega, by go_num, ?_, HX'.out⟩, by simp [intOf]; omega⟩
        rw [HN.out, List.length_append, flatMap_snoc]
        exact HO'.out
    · obtain rfl : k = st.length := by omega
      rw [List.take_length] at HOW
      have hl3 : l3 = (freeL st who).length := by
        obtain ⟨a', c', e, _⟩ := Sl.open (Sl.of_owns HOW.out)
        simp only [Value.slice.injEq] at e
        exact e.2.1
      subst hl3
      have hfl := HFL.out
      have hset := RL.set (st' := freeL st who) HB.out rfl (Sl.of_owns HOW.out) (shp_owns HOW.out) (fun i hi e => by have := owns_base HOW.out i hi; omega)
      have HS := Lib.hid hset
      clear hset
      go_wp2_with (fail)
      go_ret
      go_light
      exact ⟨rfl, HS.out, HXR.out.kp.trans (Kp.set1 (Kp.refl (fun i => i = b) wr) b 0 _ rfl)⟩
end Go.Proofs.YtdaoamnemkiloaaDoor
