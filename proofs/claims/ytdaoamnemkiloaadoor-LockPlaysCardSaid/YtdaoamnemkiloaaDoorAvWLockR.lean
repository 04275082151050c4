/- Walks of the reference's locks: Held, Len, Blocks, Free, Take. -/
import Derived.Test.YtdaoamnemkiloaaDoorAvWLock
import Derived.Test.YtdaoamnemkiloaaDoorAvLockLaw3
import Derived.Test.YtdaoamnemkiloaaDoorAvRows
import Derived.Test.YtdaoamnemkiloaaDoorAvDagApp
namespace Go.Proofs.YtdaoamnemkiloaaDoor
set_option maxRecDepth 100000
open Go.RowKit Av

abbrev hcell (e : ByteArray × Int) : List Value := [.string e.1, .int .i64 e.2]
abbrev rlT : TypeId := 40
/-- The reference's locks at block b. -/
def RL (w : World) (b : Nat) (st : St) : Prop := ∃ v, Blk w b #[v] rlT ∧ Sl w 2 v st.length (st.flatMap hcell) ∧ Shp v ∧ (st ≠ [] → ∀ k, v.ownBlock = some k → k ≠ b)
theorem Sl.kpn {S : Nat → Prop} {w w' : World} {k n : Nat} {v : Value} {xs : List Value} (h : Sl w k v n xs) (kp : Kp S w w') (hs : n ≠ 0 → ∀ b, v.ownBlock = some b → b < w.heap.size → ¬ S b) : Sl w' k v n xs := by
  by_cases h0 : n = 0
  · subst h0
    obtain ⟨a, c, rfl, hcc, h2, h1, _⟩ := Sl.open h
    exact ⟨h1, h2, a, c, rfl, hcc, .inl rfl⟩
  · exact h.kp kp (hs h0)
theorem RL.kp {S : Nat → Prop} {w w' : World} {b : Nat} {st : St} (h : RL w b st) (k : Kp S w w') (hb : ¬ S b) (hS : ∀ i, i < w.heap.size → S i → False) : RL w' b st := by
  obtain ⟨v, h1, h2, h3, h4⟩ := h
  exact ⟨v, h1.kp k hb, Sl.kp h2 k (fun i _ hi hs => hS i hi hs), h3, h4⟩
theorem RL.ext {w w' : World} {b : Nat} {st : St} (h : RL w b st) (k : Ext w w') : RL w' b st := h.kp k (fun f => f) (fun _ _ f => f)
theorem RL.open {w : World} {b : Nat} {st : St} (h : RL w b st) : ∃ a c, (Blk w b #[.slice a st.length c] rlT ∧ Shp (.slice a st.length c) ∧ Sl w 2 (.slice a st.length c) st.length (st.flatMap hcell)) ∧ st.length ≤ c ∧ st.length ≤ maxLen ∧
    (0 < st.length → ∃ g off, a = some ⟨g, off, none⟩ ∧ g < w.heap.size ∧ ∀ i (hi : i < st.length), w.cell? ⟨g, off + i * 2, none⟩ = some (.string st[i].1) ∧ w.cell? ⟨g, off + i * 2 + 1, none⟩ = some (.int .i64 st[i].2)) := by
  obtain ⟨v, h1, h2, h3, h4⟩ := h
  obtain ⟨a, c, rfl, hc, hm, hop⟩ := Sl.rows (f := hcell) (K := 2) (fun _ => rfl) h2
  refine ⟨a, c, ⟨h1, h3, h2⟩, hc, hm, fun h0 => ?_⟩
  obtain ⟨g, off, rfl, hg, hcl⟩ := hop h0
  exact ⟨g, off, rfl, hg, fun i hi => ⟨hcl i hi 0 _ (by decide) rfl, hcl i hi 1 _ (by decide) rfl⟩⟩

set_option maxHeartbeats 800000 in
theorem rlLen_any (b : Nat) (st : St) (w : World) (h : RL w b st) : Calls Tryd.prog 20 #[.pointer (some ⟨b, 0, none⟩)] w fun e w' => e = .returned (.int .i64 st.length) ∧ w = w' := by
  obtain ⟨a, c, ⟨hb, _, _⟩, hc, hm, hop⟩ := h.open
  have c0 := hb.cell 0 _ rfl
  clear h hb hop
  go_enter Tryd.func20, Tryd.ntmps20
  go_wp2_with (fail)
  go_ret
  go_light
  exact ⟨rfl, rfl⟩

theorem mget_none_take {st : St} {p : ByteArray} {k : Nat} (h : ∀ e ∈ st.take k, e.1 ≠ p) (hk : st.length ≤ k) : mget st p = none := by
  rw [List.take_of_length_le hk] at h
  induction st with
  | nil => rfl
  | cons e r ih =>
    unfold mget
    rw [if_neg (Ne.symm (h e (by simp)))]
    exact ih (fun x hx => h x (List.mem_cons_of_mem _ hx)) (by simp at hk; omega)
theorem mget_some_take {st : St} {p : ByteArray} : ∀ {k : Nat} (hk : k < st.length), (∀ e ∈ st.take k, e.1 ≠ p) → st[k].1 = p → mget st p = some st[k].2 := by
  induction st with
  | nil => intro k hk; simp at hk
  | cons e r ih =>
    intro k hk h he
    unfold mget
    cases k with
    | zero => rw [if_pos (by simpa using he.symm)]; rfl
    | succ k =>
      rw [if_neg (Ne.symm (h e (by simp)))]
      exact ih (by simpa using hk) (fun x hx => h x (by simp [hx])) (by simpa using he)
def HeldRel (st : St) (p : ByteArray) (i : Value) : Prop := ∃ k : Nat, k ≤ st.length ∧ i = .int .i64 k ∧ ∀ e ∈ st.take k, e.1 ≠ p
set_option maxHeartbeats 800000 in
theorem rlHeld_any (b : Nat) (st : St) (p : ByteArray) (w : World) (h : RL w b st) :
    Calls Tryd.prog 19 #[.pointer (some ⟨b, 0, none⟩), .string p] w fun e w' => e = .returned (.tuple #[.int .i64 ((mget st p).getD 0), .bool (mget st p).isSome]) ∧ w = w' := by
  obtain ⟨a, c, ⟨hb, _, _⟩, hc, hm, hop⟩ := h.open
  unfold maxLen at hm
  have c0 := hb.cell 0 _ rfl
  have HOP := Lib.hid hop
  clear h hb hop
  go_enter Tryd.func19, Tryd.ntmps19
  go_wp2_with (fail)
  go_loop [6] (fun i => HeldRel st p i) (fun i => st.length - (intOf i).toNat)
  case atStart => exact ⟨0, Nat.zero_le _, rfl, by simp⟩
  case round =>
    obtain ⟨k, hk, rfl, hall⟩ := hrel
    have HA := Lib.hid hall
    clear hall
    by_cases hlt : k < st.length
    · obtain ⟨g, off, rfl, hg, hcl⟩ := HOP.out (by omega)
      obtain ⟨s0, s1⟩ := hcl k hlt
      have hse := str_eq st[k].1 p
      cases hd : decide (st[k].1 = p) with
      | true =>
        rw [hd] at hse
        have HR := Lib.hid (mget_some_take hlt HA.out (by simpa using hd))
        clear hd hcl
        go_wp2_with (fail)
        go_ret2
        go_light
        exact ⟨by rw [HR.out]; rfl, rfl⟩
      | false =>
        rw [hd] at hse
        have HD := Lib.hid (show st[k].1 ≠ p by simpa using hd)
        clear hd hcl
        go_wp2_with (fail)
        go_light
        refine ⟨⟨k + 1, by omega, by go_num, fun e he => ?_⟩, by simp [intOf]; omega⟩
        rw [List.take_succ_eq_append_getElem hlt] at he
        rcases List.mem_append.1 he with he | he
        · exact HA.out e he
        · simp only [List.mem_singleton] at he; subst he; exact HD.out
    · have HR := Lib.hid (mget_none_take HA.out (by omega))
      clear HA HOP
      go_wp2_with (fail)
      go_ret2
      go_light
      exact ⟨by rw [HR.out]; rfl, rfl⟩

/-- The loop of Blocks: those before k block nobody. -/
def RBlkRel (w : World) (st : St) (who : Int) (p : ByteArray) (i : Value) (wr : World) : Prop :=
  ∃ k : Nat, k ≤ st.length ∧ i = .int .i64 k ∧ Ext w wr ∧ ∀ e ∈ st.take k, blk who p e = false
theorem blocks_all {st : St} {who : Int} {p : ByteArray} {k : Nat} (h : ∀ e ∈ st.take k, blk who p e = false) (hk : st.length ≤ k) : blocksL st who p = false := by
  rw [List.take_of_length_le hk] at h
  unfold blocksL
  rw [show st.any (blk who p) = false from List.any_eq_false.2 (fun e he => by rw [h e he]; decide), Bool.and_false]
theorem blocks_one {st : St} {who : Int} {p : ByteArray} {k : Nat} (hk : k < st.length) (hg : goodB p = true) (h : blk who p st[k] = true) : blocksL st who p = true := by
  unfold blocksL
  rw [hg, Bool.true_and, List.any_eq_true]
  exact ⟨_, List.getElem_mem hk, h⟩
set_option maxHeartbeats 1600000 in
theorem rlBlocks_any (b : Nat) (st : St) (who : Int) (p : ByteArray) (w : World) (h : RL w b st) (hgs : ∀ e ∈ st, goodB e.1 = true) (hp : p.size ≤ maxLen) :
    Calls Tryd.prog 21 #[.pointer (some ⟨b, 0, none⟩), .int .i64 who, .string p] w fun e w' => e = .returned (.bool (blocksL st who p)) ∧ Ext w w' := by
  have HGd := Lib.hid (refGood_any p w hp)
  by_cases hg : goodB p = true
  · have HG : Hid (goodL p.data.toList = true) := hg
    have HL := Lib.hid h
    have HGS := Lib.hid hgs
    clear hg h hgs
    go_enter Tryd.func21, Tryd.ntmps21
    go_wp2_with (fail)
    refine HGd.out.mono ?_
    rintro e w1 ⟨rfl, hx1⟩
    rw [HG.out]
    have HX1 := Lib.hid hx1
    clear hx1
    go_wp2_with (fail)
    refine (refParent_any p w1 hp).mono ?_
    rintro e w2 ⟨rfl, hx2⟩
    have HX2 := Lib.hid (HX1.out.ext hx2)
    obtain ⟨up, hup⟩ : ∃ s, optS (parentL p.data.toList) = s := ⟨_, rfl⟩
    obtain ⟨under, hun⟩ : ∃ s, (parentL p.data.toList).isSome = s := ⟨_, rfl⟩
    have HUP := Lib.hid hup
    have HUN := Lib.hid hun
    rw [hup, hun]
    clear hx2 HX1 HGd hup hun
    go_wp2_with (fail)
    go_loopw [9] (fun i wr => RBlkRel w st who p i wr) (fun i _ => st.length - (intOf i).toNat)
    case atStart => exact ⟨0, Nat.zero_le _, rfl, HX2.out, by simp⟩
    case round =>
      clear HX2
      obtain ⟨k, hk, rfl, hxr, hall⟩ := hrel
      obtain ⟨a, c, ⟨hb, _, _⟩, hc, hm, hop⟩ := (HL.out.ext hxr).open
      unfold maxLen at hm
      have c0 := hb.cell 0 _ rfl
      have HA := Lib.hid hall
      have HOP := Lib.hid hop
      have HXR := Lib.hid hxr
      clear hb hop hall hxr
      by_cases hlt : k < st.length
      · obtain ⟨g, off, rfl, hgl, hcl⟩ := HOP.out (by omega)
        obtain ⟨s0, s1⟩ := hcl k hlt
        have HGE := Lib.hid (HGS.out st[k] (List.getElem_mem hlt))
        have hsz : st[k].1.size ≤ maxLen := by have h2 := (good_len _ (show goodL st[k].1.data.toList = true from HGE.out)).2; rw [Lib.size_eq]; unfold maxLen; omega
        obtain ⟨⟨q, x⟩, hq⟩ : ∃ e, st[k] = e := ⟨_, rfl⟩
        have HQ := Lib.hid hq
        rw [hq] at s0 s1 hsz HGE
        have HCON := Lib.hid (fun W => refParent_any q W hsz)
        obtain ⟨over, hov⟩ : ∃ s, optS (parentL q.data.toList) = s := ⟨_, rfl⟩
        obtain ⟨has, hhs⟩ : ∃ s, (parentL q.data.toList).isSome = s := ⟨_, rfl⟩
        rw [hov, hhs] at HCON
        have hne : under = false → q ≠ up := fun hu e => by
          have h1 := HUN.out; have h2 := HUP.out
          rw [hu] at h1
          rw [← h2] at e
          have := optS_none (parentL p.data.toList) q HGE.out e
          rw [h1] at this
          cases this
        have hbk : blk who p (q, x) = (decide (x ≠ who) && (decide (q = p) || ((under && decide (q = up)) || (has && decide (over = p))))) := by
          unfold blk
          show (decide (x ≠ who) && (decide (q = p) || (decide (q = optS (parentL p.data.toList)) || ((parentL q.data.toList).isSome && decide (optS (parentL q.data.toList) = p))))) = _
          rw [HUP.out, hov, hhs]
          cases under with
          | true => rfl
          | false => rw [show decide (q = up) = false by simpa using hne rfl]; rfl
        have HBK := Lib.hid hbk
        have hF : blk who p (q, x) = false → ∀ W, Ext w W → RBlkRel w st who p (.int .i64 ((k + 1 : Nat))) W := fun hb W hx => ⟨k + 1, by omega, rfl, hx, fun e he => by
          rw [List.take_succ_eq_append_getElem hlt] at he
          rcases List.mem_append.1 he with he | he
          · exact HA.out e he
          · simp only [List.mem_singleton] at he; subst he; rw [HQ.out]; exact hb⟩
        have hT : blk who p (q, x) = true → blocksL st who p = true := fun hb => blocks_one hlt HG.out (by rw [HQ.out]; exact hb)
        have HF := Lib.hid hF
        have HT := Lib.hid hT
        have a1 := str_eq q p
        have a2 := str_eq q up
        have a3 := str_eq over p
        obtain ⟨b1, hb1⟩ : ∃ b, decide (x ≠ who) = b := ⟨_, rfl⟩
        obtain ⟨b2, hb2⟩ : ∃ b, decide (q = p) = b := ⟨_, rfl⟩
        obtain ⟨b3, hb3⟩ : ∃ b, decide (q = up) = b := ⟨_, rfl⟩
        obtain ⟨b4, hb4⟩ : ∃ b, decide (over = p) = b := ⟨_, rfl⟩
        have hb1' : (x != who) = b1 := by rw [← hb1]; simp [bne, decide_not]; rfl
        rw [hb1, hb2, hb3, hb4] at HBK
        rw [hb2] at a1
        rw [hb3] at a2
        rw [hb4] at a3
        have hw1 : b1 = true → ¬ x = who := fun h => by rw [h] at hb1; simpa using hb1
        have hw2 : b1 = false → x = who := fun h => by rw [h] at hb1; simpa using hb1
        clear hq hcl hsz hov hhs hne hbk hF hT hb1 hb2 hb3 hb4
        obtain ⟨wX, hwX⟩ : ∃ wX, wr.alloc (.cells #[.string q, .int .i64 x] 53) = wX := ⟨_, rfl⟩
        have hxX : Ext wr wX := by rw [← hwX]; exact (Kp.refl _ _).alloc _
        have hbX : Blk wX wr.heap.size #[.string q, .int .i64 x] 53 := by rw [← hwX]; exact heap_alloc_new wr _
        have HWX := Lib.hid hwX
        have HXX := Lib.hid (HXR.out.ext hxX)
        have HBX := Lib.hid hbX
        have e0 := hbX.cell 0 _ rfl
        have e1 := hbX.cell 1 _ rfl
        clear hwX hxX hbX HXR
        go_upto_region 8 with (fail)
        rw [HWX.out]
        go_wp2_with (fail)
        refine (HCON.out _).mono ?_
        rintro e w4 ⟨rfl, hx4⟩
        have HX4 := Lib.hid (HXX.out.ext hx4)
        have e0 := (HBX.out.kp hx4 (fun f => f)).cell 0 _ rfl
        have e1 := (HBX.out.kp hx4 (fun f => f)).cell 1 _ rfl
        clear hx4 HBX HWX HXX HCON
        cases b1 with
        | false =>
          obtain rfl := hw2 rfl
          clear hw1 hw2 hb1'
          go_wp2_with (fail)
          go_light
          exact ⟨HF.out (by rw [HBK.out]; rfl) _ HX4.out, by simp [intOf]; omega⟩
        | true =>
          have hw1 := hw1 rfl
          clear hw2
          cases b2
          focus cases under <;> cases b3 <;> cases has <;> cases b4
          all_goals
            go_wp2_with (fail)
            first
            | (go_ret; go_light; exact ⟨ret_bool (HT.out (by rw [HBK.out]; rfl)).symm, HX4.out⟩)
            | (go_light; exact ⟨HF.out (by rw [HBK.out]; rfl) _ HX4.out, by simp [intOf]; omega⟩)
      · have HR := Lib.hid (blocks_all HA.out (by omega))
        clear HA HOP
        go_wp2_with (fail)
        go_ret
        go_light
        exact ⟨ret_bool HR.out.symm, HXR.out⟩
  · have HG : Hid (goodL p.data.toList = false) := by show goodL p.data.toList = false; simpa using hg
    clear hg h hgs
    go_enter Tryd.func21, Tryd.ntmps21
    go_wp2_with (fail)
    refine HGd.out.mono ?_
    rintro e w1 ⟨rfl, hx1⟩
    rw [HG.out]
    go_wp2_with (fail)
    go_ret
    exact ⟨ret_bool (by simp [blocksL, HG.out]), hx1⟩
end Go.Proofs.YtdaoamnemkiloaaDoor
