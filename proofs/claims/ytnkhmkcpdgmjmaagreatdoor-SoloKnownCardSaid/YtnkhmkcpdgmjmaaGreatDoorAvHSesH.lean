/- Walks: sessions: slices.Delete, Close. -/
import Derived.Test.YtnkhmkcpdgmjmaaGreatDoorAvG27
namespace Go.Proofs.YtnkhmkcpdgmjmaaGreatDoor
set_option maxRecDepth 100000
open Go.RowKit Av

theorem del_mid (l : List SeV) (k : Nat) (hk : k < l.length) : ((l.flatMap scell).take (k * 3) ++ (l.drop (k + 1)).flatMap scell ++ (l.flatMap scell).drop (k * 3 + ((l.drop (k + 1)).flatMap scell).length)).take ((l.length - 1) * 3) = (l.take k ++ l.drop (k + 1)).flatMap scell := by
  have h1 : ((l.drop (k + 1)).flatMap scell).length = (l.length - (k + 1)) * 3 := by rw [flat_len scell 3 (fun _ => rfl), List.length_drop]
  have h2 : ((l.flatMap scell).take (k * 3)).length = k * 3 := by rw [List.length_take, flat_len scell 3 (fun _ => rfl)]; omega
  rw [List.take_append_of_le_length (by rw [List.length_append, h1, h2]; omega), List.take_of_length_le (by rw [List.length_append, h1, h2]; omega), flat_take scell 3 (fun _ => rfl), List.flatMap_append]
theorem cut_some (r c j : Nat) (l : List SeV) (w : World) (hrow : RowB w r seT 3 c (l.flatMap scell)) (hj : j ≤ l.length) (hc : l.length ≤ c) : ∃ ad, (if c = j then some (⟨r, 0, none⟩ : Addr) else some ⟨r, j * 3, none⟩) = some ad ∧ ∀ i q, ((l.drop j).flatMap scell)[i]? = some q → w.cell? (ad.add i) = some q := by
  by_cases e : c = j
  · refine ⟨⟨r, 0, none⟩, by rw [if_pos e], fun i q hq => ?_⟩
    rw [List.drop_of_length_le (by omega)] at hq
    simp at hq
  · refine ⟨⟨r, j * 3, none⟩, by rw [if_neg e], fun i q hq => ?_⟩
    have hd : (l.flatMap scell)[j * 3 + i]? = some q := by
      rw [← hq, ← List.getElem?_drop]
      congr 1
      have : l.flatMap scell = (l.take j).flatMap scell ++ (l.drop j).flatMap scell := by rw [← List.flatMap_append, List.take_append_drop]
      rw [this]
      have h2 : ((l.take j).flatMap scell).length = j * 3 := by rw [flat_len scell 3 (fun _ => rfl), List.length_take]; omega
      rw [List.drop_append_of_le_length (by omega), List.drop_of_length_le (by omega), List.nil_append]
    have h3 := hrow.cell hd
    rw [Addr.add_lit]
    exact h3
set_option maxHeartbeats 3200000 in
theorem sesDelete_any (r c : Nat) (l : List SeV) (k m : Nat) (w : World) (hk : k < l.length) (hm : m + 1 = l.length) (hrow : RowB w r seT 3 c (l.flatMap scell)) (hnc : l.length ≤ c) (hcm : c ≤ maxLen) (hl : l.length ≤ 100000) :
    Calls Tryz.prog 131 #[.slice (some ⟨r, 0, none⟩) l.length c, .int .i64 k, .int .i64 (k + 1 : Nat)] w fun e w' => e = .returned (.slice (some ⟨r, 0, none⟩) m c) ∧ w'.ownsRow 0 seT 3 (.slice (some ⟨r, 0, none⟩) m c) m ((l.take k ++ l.drop (k + 1)).flatMap scell) ∧ Kp (fun i => i = r) w w' := by
  obtain ⟨j, hj⟩ : ∃ j, k + 1 = j := ⟨_, rfl⟩
  rw [hj]
  have HMID := Lib.hid (del_mid l k hk)
  have HONE := Lib.hid (scell_one (l.drop j))
  have HCUT := Lib.hid (fun w1 (h1 : RowB w1 r seT 3 c (l.flatMap scell)) => cut_some r c j l w1 h1 (by omega) hnc)
  have HLD : Hid (((l.drop j).flatMap scell).length = (l.length - j) * 3) := by show _ = _; rw [flat_len scell 3 (fun _ => rfl), List.length_drop]
  have HLX : Hid ((l.flatMap scell).length = l.length * 3) := flat_len scell 3 (fun _ => rfl) l
  have HKM : Hid (k + (l.length - j) = m) := by show _ = _; omega
  have HML : Hid (l.length - 1 = m) := by show _ = _; omega
  have HROW := Lib.hid hrow
  have hP1 : (0 : Int) ≤ (k : Int) ∧ (k : Int) ≤ (j : Int) ∧ (j : Int) ≤ (l.length : Int) ∧ (l.length : Int) ≤ (c : Int) := by omega
  obtain ⟨q1, q2, q3, q4⟩ := hP1
  have hne : ((k : Int) == (j : Int)) = false := beq_eq_false_iff_ne.2 (by omega)
  have HP1 : Hid ((0 : Int) ≤ k ∧ (k : Int) ≤ c) := ⟨by omega, by omega⟩
  have HP2 : Hid ((0 : Int) ≤ (l.length : Int) ∧ (l.length : Int) ≤ c) := ⟨by omega, by omega⟩
  have HP5 : Hid ((0 : Int) ≤ j ∧ (j : Int) ≤ (l.length : Int)) := ⟨by omega, by omega⟩
  unfold maxLen at hcm
  rw [hj] at HMID
  clear hrow hj
  go_enter Tryz.func131, Tryz.ntmps131
  go_upto_region 5 with (fail)
  refine' Av.X.wp_region_dagG (fun i => i = r) 7 [(26, [900], [])] [900] ((20, .val _) :: (21, .val _) :: (22, .val _) :: (23, .val _) :: (24, .val _) :: (25, .val _) :: (26, ⟨fun v => v = .slice (some ⟨r, 0, none⟩) m c, fun _ w' => RowB w' r seT 3 c ((l.flatMap scell).take (k * 3) ++ (l.drop j).flatMap scell ++ (l.flatMap scell).drop (k * 3 + ((l.drop j).flatMap scell).length))⟩) :: (900, ⟨fun _ => True, fun _ w' => RowB w' r seT 3 c (l.flatMap scell)⟩) :: []) (by exact ⟨fun _ _ _ _ _ => trivial, ⟨fun _ _ _ _ _ => trivial, ⟨fun _ _ _ _ _ => trivial, ⟨fun _ _ _ _ _ => trivial, ⟨fun _ _ _ _ _ => trivial, ⟨fun _ _ _ _ _ => trivial, ⟨fun _ _ _ hr hv => RowB.kp hv hr (fun f => f), ⟨fun _ _ _ hr hv => RowB.kp hv hr (fun f => f), trivial⟩⟩⟩⟩⟩⟩⟩⟩) (by exact ⟨⟨undef, RowB.kp HROW.out (Kp.refl (fun _ => False) _).drew (fun f => f)⟩, trivial⟩) (by kernel_rfl) (by kernel_rfl) (by kernel_rfl) ?_
  rotate_left 6
  simp only [List.take_succ_cons, List.take_zero]
  repeat (first
    | (refine Av.X.wpD_skipv ?_ ?_ ?_
       focus rfl
       focus rfl
       simp only [Act.put, List.setIfInBounds_toArray, List.set_cons_succ, List.set_cons_zero])
    | (refine' Av.X.wpD_val (c := _) ?_ (fun w => Kp.refl _ w) ?_ (fun wq hwq hfz => ?_) ?_
       rotate_left
       focus rfl
       focus rfl
       focus (have hfq := hfz.at_; have hcq := hfz.use; (have p1 := HP1.out; have p2 := HP2.out; have p5 := HP5.out); go_simp; first | done | rfl)
       simp only [Act.put, List.setIfInBounds_toArray, List.set_cons_succ, List.set_cons_zero])
    | (refine' Av.X.wpD_con (c := _) ?_ ?_ (fun wq hwq hfz => ?_) ?_
       rotate_left
       focus rfl
       focus rfl
       focus (have hfq := hfz.at_; have hcq := hfz.use; (have p1 := HP1.out; have p2 := HP2.out; have p5 := HP5.out); go_simp; (try (rw [dUpon_enter])); fail)
       simp only [Act.put, List.setIfInBounds_toArray, List.set_cons_succ, List.set_cons_zero])
    | (refine Av.X.wpD_used (A := fun v => v = .slice (some ⟨r, 0, none⟩) m c) (V := fun _ w' => RowB w' r seT 3 c ((l.flatMap scell).take (k * 3) ++ (l.drop j).flatMap scell ++ (l.flatMap scell).drop (k * 3 + ((l.drop j).flatMap scell).length))) 26 ?_ ?_ ?_ ?_ (fun wq hwq hfz => ?_) (fun v26 h26 => ?_)
       focus rfl
       focus rfl
       focus (exact ⟨_, rfl⟩)
       focus rfl
       focus (have hfq := hfz.at_; have hcq := hfz.use; (have p1 := HP1.out; have p2 := HP2.out; have p5 := HP5.out); have h900 : RowB wq r seT 3 c (l.flatMap scell) := (hcq 900 rfl).elim (fun _ h => h); refine dUpon_room (d := 26) rfl (by kernel_rfl) sesT seT 3 se_facts rfl _ _ rfl r k c (l.flatMap scell) h900 rfl _ (l.length - j) _ ((l.drop j).flatMap scell) rfl (HCUT.out _ h900) HLD.out HONE.out (by omega) (by rw [HLD.out, HLX.out]; omega) (fun w' h1 h2 => ⟨by rw [HKM.out], h1, h2.mono (fun i _ e => .inr e), ?_⟩); repeat (first | exact PresL.nil | (with_reducible refine PresL.val ?_) | (refine PresL.out rfl ?_)))
       subst h26
       simp only [Act.put, List.setIfInBounds_toArray, List.set_cons_succ, List.set_cons_zero])
    | fail)
  refine Av.X.wpD_nil ?_
  intro w2 hx2 hend
  generalize (if c = j then some (⟨r, 0, none⟩ : Addr) else some ⟨r, j * 3, none⟩) = A25
  have h26 : RowB w2 r seT 3 c ((l.flatMap scell).take (k * 3) ++ (l.drop j).flatMap scell ++ (l.flatMap scell).drop (k * 3 + ((l.drop j).flatMap scell).length)) := hend 26 (by kernel_rfl)
  clear hend
  have hk2 : Kp (fun i => i = r) w w2 := hx2.mono (fun i hi e => by
    rcases e with e | e
    · omega
    · exact e)
  have HK2 := Lib.hid hk2
  have H26 := Lib.hid h26
  have hlen : ((l.flatMap scell).take (k * 3) ++ (l.drop j).flatMap scell ++ (l.flatMap scell).drop (k * 3 + ((l.drop j).flatMap scell).length)).length = l.length * 3 := by
    simp only [List.length_append, List.length_take, List.length_drop, HLX.out, HLD.out]; omega
  generalize ((l.flatMap scell).take (k * 3) ++ (l.drop j).flatMap scell ++ (l.flatMap scell).drop (k * 3 + ((l.drop j).flatMap scell).length)) = X at *
  obtain ⟨vs, hvl, hclr⟩ := run_clear_rows (P := Tryz.prog) w2 196 203 _ 3 rfl (by decide) Tryz.underlying196 Tryz.zeroValue203 (by intro v hv; simp [Value.cells] at hv; rcases hv with rfl | rfl | rfl <;> rfl) r (m * 3) (l.length - m) (c - m) (by omega)
    (fun q hq => by
      have : m * 3 + q < X.length := by rw [hlen]; omega
      rw [h26.cell (List.getElem?_eq_getElem this)]; rfl)
    (fun q _ => h26.free _)
  have hm1 : (0 : Int) ≤ (m : Int) ∧ (m : Int) ≤ (l.length : Int) := by omega
  obtain ⟨m1, m2⟩ := hm1
  have HLEN := Lib.hid hlen
  clear h26 hx2 hk2 hlen
  go_wp2_with (fail)
  go_ret
  have hrow := RowB.setCells vs (m * 3) H26.out
  have ho := hrow.owns (m := m) (base := 0) (by rw [setMs_len, HLEN.out]; omega) (by omega) (by unfold maxLen; omega) (Nat.zero_le _)
  rw [setMs_take _ _ _ _ (Nat.le_refl _)] at ho
  have h5 := HMID.out
  rw [HML.out] at h5
  rw [h5] at ho
  exact ⟨rfl, ho, HK2.out.trans (kp_setCells vs w2 (m * 3))⟩
set_option maxHeartbeats 3200000 in
theorem sesClose_any (b : Nat) (ro : Option Nat) (s : SsV) (id : Int) (w : World) (h : SesR w b ro s) (hn : s.l.length ≤ 100000) :
    Calls Tryz.prog 83 #[.pointer (some ⟨b, 0, none⟩), .int .i64 id] w fun e w' => SesPost w b ro (closeS s id).1 (.int .i64 (closeS s id).2) e w' := by
  have HF := Lib.hid (sesFind_any b ro s id w h hn)
  have HH := Lib.hid h
  cases hf : findS s.l id with
  | none =>
    rw [idxF_none hf] at HF
    have HE : Hid (closeS s id = (s, 11)) := by show _ = _; unfold closeS; rw [hf]
    clear h hf
    go_enter Tryz.func83, Tryz.ntmps83
    go_wp2_with (fail)
    refine HF.out.mono ?_
    rintro e w1 ⟨rfl, hx1⟩
    have HX1 := Lib.hid hx1
    clear hx1
    go_wp2_with (fail)
    go_ret
    rw [HE.out]
    exact SesPost.no HH.out HX1.out
  | some k =>
    rw [idxF_some hf] at HF
    obtain ⟨hk, hid⟩ := findS_lt hf
    have HE : Hid (closeS s id = (⟨s.room, s.now, s.next, s.l.take k ++ s.l.drop (k + 1)⟩, 0)) := by show _ = _; unfold closeS; rw [hf]
    obtain ⟨a, c, hb, hown, hro, hrb, had⟩ := h.open
    obtain ⟨ad, rfl⟩ : ∃ ad, a = some ad := by
      cases a with
      | some ad => exact ⟨ad, rfl⟩
      | none =>
        obtain ⟨_, h2 | ⟨g, c, cur, hv, _⟩⟩ := hown
        · omega
        · simp at hv
    obtain ⟨r, rfl, hrow, _, hnc, hcm, _⟩ := RowB.of_owns hown
    have hr0 := had _ rfl
    simp only at hr0
    subst hr0
    obtain ⟨m, hm⟩ : ∃ m, m + 1 = s.l.length := ⟨s.l.length - 1, by omega⟩
    have HD := Lib.hid (fun W (hW : RowB W r seT 3 c (s.l.flatMap scell)) => sesDelete_any r c s.l k m W hk hm hW hnc hcm hn)
    have HROW := Lib.hid hrow
    have HB := Lib.hid hb
    have HRB := Lib.hid hrb
    have HML : Hid ((s.l.take k ++ s.l.drop (k + 1)).length = m) := by show _ = _; rw [List.length_append, List.length_take, List.length_drop]; omega
    have hI3 : ¬ (k : Int) < 0 := by omega
    have hW1 : IntKind.i64.wrap ((k : Int) + 1) = ((k + 1 : Nat) : Int) := by rw [IntWalk.i64_in _ (by omega)]; omega
    have hW2 : wrap64 ((k : Int) + 1) = ((k + 1 : Nat) : Int) := by unfold wrap64; omega
    clear h hf hb hown hrow hid hm hnc hcm
    go_enter Tryz.func83, Tryz.ntmps83
    go_wp2_with (fail)
    refine HF.out.mono ?_
    rintro e w1 ⟨rfl, hx1⟩
    have HX1 := Lib.hid hx1
    have hb1 := HB.out.kp hx1 (fun f => f)
    have c3 := hb1.cell 3 _ rfl
    have HB1 := Lib.hid hb1
    have HR1 := Lib.hid (HROW.out.kp hx1 (fun f => f))
    clear hx1 hb1
    go_wp2_with (fail)
    refine (HD.out _ HR1.out).mono ?_
    rintro e w2 ⟨rfl, ho2, hk2⟩
    have hb2 := HB1.out.kp hk2 (fun (e : b = r) => HRB.out r rfl e.symm)
    have c3 := hb2.cell 3 _ rfl
    have f3 := hb2.free 3
    have HB2 := Lib.hid hb2
    have HO2 := Lib.hid ho2
    have HK2 := Lib.hid hk2
    clear hb2 ho2 hk2
    go_wp2_with (fail)
    go_ret
    rw [HE.out]
    have hst : Kp (fun i => i = b) w2 (w2.setCell ⟨b, 3, none⟩ (.slice (some ⟨r, 0, none⟩) m c)) := Kp.set1 (S := fun i => i = b) (Kp.refl _ _) b 3 _ rfl
    refine ⟨rfl, ⟨some r, SesR.mk (v := .slice (some ⟨r, 0, none⟩) m c) (HB2.out.set 3 _) ?_ rfl HRB.out, fun i hi => .inl hi⟩, ((Ext.kp HX1.out).next HK2.out (fun i _ (e : i = r) => .inr (by rw [e]))).set1 b 3 _ (.inl rfl)⟩
    show World.ownsRow _ 0 seT 3 _ (s.l.take k ++ s.l.drop (k + 1)).length _
    rw [HML.out]
    exact ownsRow.kp HO2.out hst (fun i hi e => HRB.out i hi e)
end Go.Proofs.YtnkhmkcpdgmjmaaGreatDoor
