/- Walks of package pack: Read, Text. -/
import Derived.Test.YtlcbllgmnbhphaaGreatDoorAvWRead
import Derived.Laws.IdiomStrings
import Derived.Laws.BytesArg
namespace Go.Proofs.YtlcbllgmnbhphaaGreatDoor
set_option maxRecDepth 100000
open Go.RowKit Av

theorem OwnBy.lt {w : World} {base : Nat} {v : Value} {bs : Bs} (h : OwnBy w base v bs) : ∀ b, v.ownBlock = some b → b < w.heap.size := by
  obtain ⟨_, h2⟩ := h
  rcases h2 with ⟨rfl, _⟩ | ⟨g, cap, cur, rfl, hb, hg, _⟩
  · intro b hb; simp [Value.ownBlock] at hb
  · intro b hb'
    simp [Value.ownBlock] at hb'
    subst hb'
    exact (Array.getElem?_eq_some_iff.1 hg).1
set_option maxHeartbeats 800000 in
theorem packRead_any (v : Value) (bs : Bs) (w : World) (hb : BytesR w v bs) (hl : bs.length ≤ 1000000000) :
    Calls Tryz.prog 39 #[v] w fun e w' => ∃ g, e = .returned (.pointer (some ⟨g, 0, none⟩)) ∧ w.heap.size ≤ g ∧ RdAt w' g (some bs) ∧ Ext w w' := by
  have HB := Lib.hid (hb.ext ((Kp.refl _ w).alloc (.cells #[] 5)))
  have HSH := Lib.hid hb.2
  have hw := OwnBy.empty w
  clear hb
  go_enter Tryz.func39, Tryz.ntmps39
  go_wp2_with (at_builtin; refine wpList_appK 27 5 1 (by decide) byte_facts rfl _ _ rfl w.heap.size _ _ _ rfl hw _ bs.length (bs.map byteV) rfl HB.out.1 HSH.out (byteV_one bs) ?c1 ?c2 ?_)
  case c1 => simp only [List.length_nil]; omega
  case c2 => simp
  intro v1 w1 h1 k1
  have h1' : OwnBy w1 w.heap.size v1 bs := by unfold OwnBy; simpa using h1
  have hx1 : Ext w w1 := ((Kp.refl (fun _ => False) w).alloc (.cells #[] 5)).next k1 (fun i hi e => by simp [Value.ownBlock] at e; omega)
  have hr : RdAt (w1.alloc (.cells #[v1, .bool false] 77)) w1.heap.size (some bs) :=
    ⟨v1, heap_alloc_new w1 _, h1'.bytes.ext ((Kp.refl _ w1).alloc _), fun b hb => OwnBy.lt h1' b hb, fun h => by cases h⟩
  have HR := Lib.hid hr
  have HX := Lib.hid (hx1.alloc (.cells #[v1, .bool false] 77))
  have hsz := hx1.size
  have hsl : ∃ a1 l1 c1, v1 = .slice a1 l1 c1 := by obtain ⟨a1, c1, e, _⟩ := BytesR.open h1'.bytes; exact ⟨_, _, _, e⟩
  clear hw h1 k1 h1' hr hx1
  obtain ⟨a1, l1, c1, rfl⟩ := hsl
  go_wp2_with (fail)
  go_ret
  go_light
  exact ⟨_, rfl, hsz, HR.out, HX.out⟩

theorem conv_any (w : World) (a : Option Addr) (k c : Nat) (l : Bs) (hk : k ≤ l.length) (ha : 0 < k → ∃ b off, a = some ⟨b, off, none⟩ ∧ ∀ j (hj : j < l.length), w.cell? ⟨b, off + j, none⟩ = some (byteV l[j])) :
    (convert 27 9 (.slice a k c)).run Tryz.prog w = .ok (.string ⟨(l.take k).toArray⟩) w := by
  have hlen : (l.take k).length = k := by rw [List.length_take]; omega
  cases a with
  | none =>
    have h0 : k = 0 := by
      rcases Nat.eq_zero_or_pos k with h | h
      · exact h
      · obtain ⟨b, off, e, _⟩ := ha h
        cases e
    subst h0
    rw [run_convert_bytes_string w _ _ 5 none 0 c Tryz.underlying27 Tryz.underlying5 Tryz.underlying9]
    simp [Conv.bytesToString, Sem.run_pure]
    rfl
  | some ad =>
    have := run_convert_bytes_back (P := Tryz.prog) w 27 9 5 ad c (l.take k) Tryz.underlying27 Tryz.underlying5 Tryz.underlying9 (fun j hj => by
      rw [hlen] at hj
      obtain ⟨b, off, e, hc⟩ := ha (by omega)
      obtain rfl : ad = ⟨b, off, none⟩ := by simpa using e
      rw [show (⟨b, off, none⟩ : Addr).add j = ⟨b, off + j, none⟩ by by_cases h : j = 0 <;> simp [Addr.add, h]]
      rw [hc j (by omega), List.getElem_take]
      rfl)
    rwa [hlen] at this
theorem rdC_none' {most v : Int} {s : Rd} (h : rdC most s = (v, none)) : v = 0 := by
  unfold rdC at h
  split at h
  · exact (Prod.mk.inj h).1.symm
  · cases s with
    | none => exact (Prod.mk.inj h).1.symm
    | some l =>
      change (if 8 ≤ l.length then (un8 (l.take 8), some (l.drop 8)) else (0, none)) = _ at h
      split at h
      · cases h
      · exact (Prod.mk.inj h).1.symm
theorem rdT_few {most : Int} {s : Rd} {n : Nat} {l : Bs} (h : rdC most s = ((n : Int), some l)) (hl : l.length < n) : rdT most s = ([], none) := by
  unfold rdT
  rw [h]
  show (if l.length < ((n : Int)).toNat then ([], none) else (l.take ((n : Int)).toNat, some (l.drop ((n : Int)).toNat))) = _
  rw [Int.toNat_natCast]
  exact if_pos hl

set_option maxHeartbeats 1600000 in
theorem rdText_any (g : Nat) (s : Rd) (most : Int) (w : World) (h : RdAt w g s) :
    Calls Tryz.prog 42 #[.pointer (some ⟨g, 0, none⟩), .int .i64 most] w fun e w' => e = .returned (.string ⟨(rdT most s).1.toArray⟩) ∧ RdAt w' g (rdT most s).2 ∧ Kp (fun i => i = g) w w' := by
  have HC := Lib.hid (rdCount_any g s most w h)
  clear h
  obtain ⟨⟨v, s'⟩, hv⟩ : ∃ p, rdC most s = p := ⟨_, rfl⟩
  rw [hv] at HC
  simp only at HC
  cases s' with
  | none =>
    obtain rfl := rdC_none' hv
    have HR : Hid (rdT most s = ([], none)) := by show _ = _; unfold rdT; rw [hv]
    clear hv
    go_enter Tryz.func42, Tryz.ntmps42
    go_wp2_with (fail)
    refine (HC.out).mono ?_
    rintro e w1 ⟨rfl, hr, hk⟩
    obtain ⟨v, b1, b2, b3, b4⟩ := hr
    obtain rfl := b4 rfl
    have c0 := b1.cell 0 _ rfl
    have f0 := b1.free 0
    have hcv := conv_any w1 none 0 0 [] (Nat.le_refl _) (fun h => absurd h (by decide))
    have hb : Blk (w1.setCell ⟨g, 0, none⟩ (.slice none 0 0)) g #[.slice none 0 0, .bool true] 77 := b1.set 0 _
    have HB := Lib.hid (show RdAt _ g none from ⟨_, hb, BytesR.nil _, b3, fun _ => rfl⟩)
    have HK := Lib.hid (Kp.set1 hk g 0 (.slice none 0 0) rfl)
    clear b1 b2 b3 b4 hb hk
    go_wp2_with (fail)
    go_ret
    go_light
    exact ⟨ret_val (by rw [HR.out]; rfl), by rw [HR.out]; exact HB.out, HK.out⟩
  | some l =>
    obtain ⟨n, rfl⟩ : ∃ n : Nat, v = n := ⟨v.toNat, by have := (rdC_some hv).2.2.1; omega⟩
    by_cases hn : l.length < n
    · have HR : Hid (rdT most s = ([], none)) := rdT_few hv hn
      clear hv
      go_enter Tryz.func42, Tryz.ntmps42
      go_wp2_with (fail)
      refine (HC.out).mono ?_
      rintro e w1 ⟨rfl, hr, hk⟩
      have HSP := Lib.hid (spoil_any g (some l) w1 hr)
      obtain ⟨v, b1, b2, b3, b4⟩ := hr
      have c0 := b1.cell 0 _ rfl
      obtain ⟨a, c, rfl, hcc, hm, hop⟩ := BytesR.open b2
      simp only [Option.getD_some] at *
      have hn' : (l.length : Int) < n := by omega
      clear b1 b2 b3 b4 hop
      go_wp2_with (fail)
      refine HSP.out.mono ?_
      rintro e w2 ⟨rfl, hr2, hk2⟩
      go_wp2_with (fail)
      go_ret
      go_light
      exact ⟨ret_val (by rw [HR.out]; rfl), by rw [HR.out]; exact hr2, hk.trans hk2⟩
    · have HR : Hid (rdT most s = (l.take n, some (l.drop n))) := rdT_of hv (by omega)
      clear hv
      go_enter Tryz.func42, Tryz.ntmps42
      go_wp2_with (fail)
      refine (HC.out).mono ?_
      rintro e w1 ⟨rfl, hr, hk⟩
      obtain ⟨v, b1, b2, b3, b4⟩ := hr
      have c0 := b1.cell 0 _ rfl
      have f0 := b1.free 0
      have hshp := b2.2
      obtain ⟨a, c, rfl, hcc, hm, hop⟩ := BytesR.open b2
      simp only [Option.getD_some, Option.isNone_some] at *
      have hn' : (n : Int) ≤ l.length := by omega
      have hnc : n ≤ c := by omega
      have hcv := conv_any w1 a n c l (by omega) (fun h => by obtain ⟨b, off, e, _, hc⟩ := hop (by omega); exact ⟨b, off, e, hc⟩)
      by_cases h0 : l.length = 0
      · obtain rfl : l = [] := List.length_eq_zero_iff.1 h0
        obtain rfl : n = 0 := by simp at hn'; omega
        have HK := Lib.hid (fun v' => Kp.set1 hk g 0 v' rfl)
        have HB : Hid (∀ v', BytesR w1 v' [] → v'.ownBlock = (Value.slice a 0 c).ownBlock → RdAt (w1.setCell ⟨g, 0, none⟩ v') g (some [])) := by
          show ∀ v', _
          intro v' hv1 hv2
          refine ⟨v', b1.set 0 _, ?_, by rw [hv2]; exact b3, fun h => by cases h⟩
          exact hv1.kp (Kp.set1 (Kp.refl (fun i => i = g) w1) g 0 v' rfl) (fun b hb _ => by rw [hv2] at hb; exact Nat.ne_of_lt (b3 b hb))
        clear b1 b2 b3 b4 hop hk
        rcases hshp with hs | ⟨ad, l', c', hs⟩
        · simp at hs
          obtain ⟨rfl, rfl⟩ := hs
          go_wp2_with (fail)
          go_ret
          go_light
          exact ⟨ret_val (by rw [HR.out]; rfl), by rw [HR.out]; exact HB.out _ (BytesR.nil _) rfl, HK.out _⟩
        · simp at hs
          obtain ⟨rfl, rfl, rfl⟩ := hs
          go_wp2_with (fail)
          all_goals
            go_ret
            go_light
            refine ⟨ret_val (by rw [HR.out]; rfl), ?_, HK.out _⟩
            rw [HR.out]
            refine HB.out _ ⟨⟨rfl, by decide, _, _, rfl, by omega, .inl rfl⟩, Shp.some⟩ ?_
            simp [Value.ownBlock]
      · obtain ⟨b, off, rfl, hb, hc⟩ := hop (by omega)
        have HCUT := Lib.hid (fun v' k hk hcc hv => rd_cut (v' := v') (c := c) b1 hb hc (by unfold maxLen at hm ⊢; omega) (b3 b rfl) k hk hcc hv)
        clear b1 b2 b3 b4 hop hc
        go_wp2_with (fail)
        all_goals
          go_ret
          go_light
          first
          | (have hrd := (HCUT.out _ n (by omega) hcc (.inl ⟨by omega, rfl⟩)); rw [HR.out]; exact ⟨rfl, hrd.1, hk.trans hrd.2⟩)
          | (have hrd := (HCUT.out _ n (by omega) hcc (.inr rfl)); rw [HR.out]; exact ⟨rfl, hrd.1, hk.trans hrd.2⟩)
end Go.Proofs.YtlcbllgmnbhphaaGreatDoor
