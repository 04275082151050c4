/- Walks of package route: Move. -/
import Derived.Test.YtmgnndhhpnedkaaGreatDoorAvWRou
namespace Go.Proofs.YtmgnndhhpnedkaaGreatDoor
set_option maxRecDepth 100000
open Go.RowKit Av

theorem TabAt.head {w : World} {b m sh : Nat} {mv : Moved} (h : TabAt w b m sh mv) : w.cell? ⟨b, 0, none⟩ = some (.int .i64 sh) := by
  obtain ⟨ver, hv⟩ := h.blk
  exact hv.cell 0 _ rfl
theorem TabAt.mp {w : World} {b m sh : Nat} {mv : Moved} (h : TabAt w b m sh mv) : w.cell? ⟨b, 2, none⟩ = some (.map (some m)) := by
  obtain ⟨ver, hv⟩ := h.blk
  exact hv.cell 2 _ rfl
set_option maxHeartbeats 3200000 in
theorem rouMove_any (b m sh : Nat) (mv : Moved) (top : ByteArray) (s : Int) (w : World) (h : TabAt w b m sh mv) (hG : GL w) (hp : top.size + 1 ≤ maxLen) :
    Calls Tryz.prog 27 #[.pointer (some ⟨b, 0, none⟩), .string top, .int .i64 s] w fun e w' => e = .returned (.int .i64 (moveT sh mv top s).2) ∧ TabAt w' b m sh (moveT sh mv top s).1 ∧ Kp (fun i => i = b ∨ i = m) w w' := by
  have HT := Lib.hid (pathTop_any (⟨#[47]⟩ ++ top) w hG (by rw [ByteArray.size_append]; show 1 + _ ≤ _; omega))
  have HL := Lib.hid h
  obtain ⟨t, ht⟩ : ∃ t, topB (⟨#[47]⟩ ++ top) = t := ⟨_, rfl⟩
  rw [show (⟨(topL (⟨#[47]⟩ ++ top : ByteArray).data.toList).toArray⟩ : ByteArray) = t from ht] at HT
  obtain ⟨ver, hv⟩ := h.blk
  have hlk := MapK.lookup kSt tMi h.map (.int .i64 0) zInt top true
  rw [mget_mv] at hlk
  have e2 : ((mget mv top).map (Value.int .i64)).isSome = (mget mv top).isSome := by cases mget mv top <;> rfl
  rw [e2] at hlk
  simp only [if_true] at hlk
  have c0 := hv.cell 0 _ rfl
  have c2 := hv.cell 2 _ rfl
  have HM := Lib.hid ht
  have hlen : ∀ w', Ext w w' → ∀ ty, (Builtin.len_ #[95] ty #[.map (some m)]).run Tryz.prog w' = .ok (.int .i64 mv.length) w' := fun w' hx ty => by
    have := MapK.len tMi (h.map.ext hx) ty
    simpa using this
  have HLN := Lib.hid hlen
  clear e2 ht h hv hlen
  generalize ((mget mv top).map (Value.int .i64)).getD (.int .i64 0) = x0 at hlk
  obtain ⟨th, hth⟩ : ∃ b, (mget mv top).isSome = b := ⟨_, rfl⟩
  rw [hth] at hlk
  have HTH := Lib.hid hth
  clear hth
  have hcs : ((t.toList == top.toList) = false) ∨ ((t.toList == top.toList) = true ∧ top.toList.isEmpty = true) ∨ ((t.toList == top.toList) = true ∧ top.toList.isEmpty = false ∧ s < 0) ∨ ((t.toList == top.toList) = true ∧ top.toList.isEmpty = false ∧ ¬ s < 0 ∧ (sh : Int) ≤ s) ∨ ((t.toList == top.toList) = true ∧ top.toList.isEmpty = false ∧ ¬ s < 0 ∧ ¬ (sh : Int) ≤ s) := by
    cases (t.toList == top.toList) <;> cases top.toList.isEmpty <;> by_cases h1 : s < 0 <;> by_cases h2 : (sh : Int) ≤ s <;> simp [h1, h2]
  have HEM : Hid (top.toList.isEmpty = decide (top = ⟨#[]⟩)) := by
    show _ = _
    rw [Lib.toList_data, Bool.eq_iff_iff, List.isEmpty_iff, decide_eq_true_iff]
    exact ⟨fun h => bytes_eq (by rw [h]), fun h => by rw [h]⟩
  have hbd : ∀ (a c : Bool), (t.toList == top.toList) = a → top.toList.isEmpty = c → (a = false ∨ c = true ∨ s < 0 ∨ (sh : Int) ≤ s) → moveT sh mv top s = (mv, 1) := by
    intro a c h1 h2 h3
    rw [str_eq] at h1
    rw [HEM.out] at h2
    unfold moveT
    rw [HM.out, if_pos]
    rcases h3 with h3 | h3 | h3 | h3
    · subst h3; exact .inl (of_decide_eq_false h1)
    · subst h3; exact .inr (.inl (of_decide_eq_true h2))
    · exact .inr (.inr (.inl h3))
    · exact .inr (.inr (.inr h3))
  have hcat : ∀ wx, (Op.stringOp .add (⟨#[47]⟩ : ByteArray) top).run Tryz.prog wx = .ok (.string (⟨#[47]⟩ ++ top)) wx := fun wx => run_string_add_sum (P := Tryz.prog) wx _ _ (by unfold maxLen at hp; have : (⟨#[47]⟩ : ByteArray).size = 1 := rfl; omega)
  have HBD := Lib.hid hbd
  clear hbd
  rcases hcs with hA | ⟨hA, hB⟩ | ⟨hA, hB, hC⟩ | ⟨hA, hB, hC, hD⟩ | ⟨hA, hB, hC, hD⟩
  · rw [HBD.out _ _ hA rfl (.inl rfl)]
    go_enter Tryz.func27, Tryz.ntmps27
    go_wp2_with (fail)
    refine HT.out.mono ?_
    rintro e w1 ⟨rfl, hx⟩
    have c0' := (HL.out.ext hx).head
    have HX := Lib.hid hx
    clear hx
    go_wp2_with (fail)
    go_ret
    exact ⟨rfl, HL.out.ext HX.out, Ext.kp HX.out⟩
  · rw [HBD.out _ _ hA hB (.inr (.inl rfl))]
    go_enter Tryz.func27, Tryz.ntmps27
    go_wp2_with (fail)
    refine HT.out.mono ?_
    rintro e w1 ⟨rfl, hx⟩
    have c0' := (HL.out.ext hx).head
    have HX := Lib.hid hx
    clear hx
    go_wp2_with (fail)
    go_ret
    exact ⟨rfl, HL.out.ext HX.out, Ext.kp HX.out⟩
  · rw [HBD.out _ _ hA hB (.inr (.inr (.inl hC)))]
    go_enter Tryz.func27, Tryz.ntmps27
    go_wp2_with (fail)
    refine HT.out.mono ?_
    rintro e w1 ⟨rfl, hx⟩
    have c0' := (HL.out.ext hx).head
    have HX := Lib.hid hx
    clear hx
    go_wp2_with (fail)
    go_ret
    exact ⟨rfl, HL.out.ext HX.out, Ext.kp HX.out⟩
  · rw [HBD.out _ _ hA hB (.inr (.inr (.inr hD)))]
    go_enter Tryz.func27, Tryz.ntmps27
    go_wp2_with (fail)
    refine HT.out.mono ?_
    rintro e w1 ⟨rfl, hx⟩
    have c0' := (HL.out.ext hx).head
    have HX := Lib.hid hx
    clear hx
    go_wp2_with (fail)
    go_ret
    exact ⟨rfl, HL.out.ext HX.out, Ext.kp HX.out⟩
  · have hgd : moveT sh mv top s = if mget mv top = none ∧ 50 ≤ mv.length then (mv, 2) else (mset mv top s, 0) := by
      rw [str_eq] at hA
      rw [HEM.out] at hB
      unfold moveT
      rw [HM.out, if_neg]
      rintro (h3 | h3 | h3 | h3)
      · exact h3 (of_decide_eq_true hA)
      · exact of_decide_eq_false hB h3
      · exact hC h3
      · exact hD h3
    have hth := HTH.out
    have hnn : mget mv top = none ↔ th = false := by rw [← hth]; cases mget mv top <;> simp
    rw [hgd]
    have HLK : Hid (TabOk sh (moveT sh mv top s).1) := moveT_ok HL.out.ok top s
    rw [hgd] at HLK
    clear hth hgd
    by_cases hfull : mget mv top = none ∧ 50 ≤ mv.length
    · rw [if_pos hfull]
      obtain ⟨rfl, hl50⟩ : th = false ∧ 50 ≤ mv.length := ⟨hnn.1 hfull.1, hfull.2⟩
      clear hnn hfull HLK
      go_enter Tryz.func27, Tryz.ntmps27
      go_wp2_with (fail)
      refine HT.out.mono ?_
      rintro e w1 ⟨rfl, hx⟩
      have c0' := (HL.out.ext hx).head
      have c2' := (HL.out.ext hx).mp
      have hl1 := HLN.out w1 hx
      have HX := Lib.hid hx
      clear hx
      go_wp2_with (fail)
      go_ret
      exact ⟨rfl, HL.out.ext HX.out, Ext.kp HX.out⟩
    · rw [if_neg hfull] at HLK ⊢
      have hor : th = true ∨ (th = false ∧ mv.length < 50) := by
        cases hh : th with
        | true => exact .inl rfl
        | false => right; refine ⟨rfl, ?_⟩; have h9 := hnn.2 hh; have : ¬ 50 ≤ mv.length := fun h => hfull ⟨h9, h⟩; omega
      clear hnn hfull
      go_enter Tryz.func27, Tryz.ntmps27
      go_wp2_with (fail)
      refine HT.out.mono ?_
      rintro e w1 ⟨rfl, hx⟩
      have hT1 := HL.out.ext hx
      obtain ⟨ver, hv1⟩ := hT1.blk
      have c0' := hT1.head
      have c2' := hT1.mp
      have hl1 := HLN.out w1 hx
      obtain ⟨w2, u1, u2, u3, u4⟩ := MapK.update kSt tMi hT1.map top (.int .i64 s)
      rw [mset_map] at u2
      have hv2 := hv1.kp u3 (fun e => hT1.ne e)
      have c1' := hv2.cell 1 _ rfl
      have f1 := hv2.free 1
      have HX := Lib.hid hx
      have HU := Lib.hid u2
      have HK := Lib.hid u3
      have HV := Lib.hid hv2
      clear hx u2 u3 hv2 hv1 hT1 u4
      rcases hor with rfl | ⟨rfl, hl50⟩
      · go_wp2_with (fail)
        go_ret
        refine ⟨rfl, ⟨⟨_, HV.out.set 1 _⟩, ?_, HLK.out, HL.out.ne⟩, ?_⟩
        · exact HU.out.kp ((Kp.refl (fun i => i = b) _).set1 b 1 _ rfl) (fun e => HL.out.ne e.symm)
        · exact ((Ext.kp HX.out).trans (HK.out.mono fun i _ e => .inr e)).set1 b 1 _ (.inl rfl)
      · go_wp2_with (fail)
        go_ret
        refine ⟨rfl, ⟨⟨_, HV.out.set 1 _⟩, ?_, HLK.out, HL.out.ne⟩, ?_⟩
        · exact HU.out.kp ((Kp.refl (fun i => i = b) _).set1 b 1 _ rfl) (fun e => HL.out.ne e.symm)
        · exact ((Ext.kp HX.out).trans (HK.out.mono fun i _ e => .inr e)).set1 b 1 _ (.inl rfl)
end Go.Proofs.YtmgnndhhpnedkaaGreatDoor
