/- Walks of package lock: wrong, Take, Free. -/
import Derived.Test.YtdaoamnemkiloaaDoorAvWLock
namespace Go.Proofs.YtdaoamnemkiloaaDoor
set_option maxRecDepth 100000
open Go.RowKit Av

theorem find_at {α : Type} (f : α → Bool) (l : List α) (k : Nat) (hk : k < l.length) (h : ∀ x ∈ l.take k, f x = false) (hf : f l[k] = true) : l.find? f = some l[k] := by
  rw [List.find?_eq_some_iff_getElem]
  refine ⟨hf, k, hk, rfl, fun j hj => ?_⟩
  have := h (l[j]) (by rw [List.mem_take_iff_getElem]; exact ⟨j, by omega, rfl⟩)
  simp [this]
theorem find_no {α : Type} (f : α → Bool) (l : List α) (h : ∀ x ∈ l, f x = false) : l.find? f = none := by
  rw [List.find?_eq_none]; intro x hx; simp [h x hx]
theorem take_all_succ {α : Type} {p : α → Prop} {l : List α} {k : Nat} (hk : k < l.length) (h : ∀ x ∈ l.take k, p x) (hp : p l[k]) : ∀ x ∈ l.take (k + 1), p x := by
  intro x hx
  rw [List.take_succ_eq_append_getElem hk] at hx
  rcases List.mem_append.1 hx with hx | hx
  · exact h x hx
  · simp at hx; subst hx; exact hp

/-- The answer of wrong: a path and true, or nothing and false. -/
def wrV (o : Option ByteArray) : Value := .tuple #[.string (o.getD ⟨#[]⟩), .bool o.isSome]

/-- All of the first k paths are good. -/
def WrRel (w : World) (ps : List ByteArray) (i : Value) (wr : World) : Prop :=
  ∃ k : Nat, k ≤ ps.length ∧ i = .int .i64 k ∧ (∀ x ∈ ps.take k, (!goodB x) = false) ∧ Ext w wr
/-- None of the first k paths is blocked. -/
def WrRel2 (w : World) (st : St) (who : Int) (ps : List ByteArray) (i : Value) (wr : World) : Prop :=
  ∃ k : Nat, k ≤ ps.length ∧ i = .int .i64 k ∧ (∀ x ∈ ps.take k, blocksL st who x = false) ∧ Ext w wr

set_option maxHeartbeats 1000000 in
theorem wrong_any (b m : Nat) (st : St) (who : Int) (v : Value) (ps : List ByteArray) (w : World) (h : LockAt w b m st) (hG : GL w) (hs : Strs w v ps) (hps : ∀ p ∈ ps, p.size ≤ maxLen) :
    Calls Tryd.prog 24 #[.pointer (some ⟨b, 0, none⟩), .int .i64 who, v] w fun e w' => e = .returned (wrV (wrongL st who ps)) ∧ Ext w w' := by
  obtain ⟨a, c, rfl, hcc, hm, hop⟩ := Strs.open hs
  have HO := Lib.hid hop
  have HPS := Lib.hid hps
  unfold maxLen at hm
  clear hop hs hps
  go_enter Tryd.func24, Tryd.ntmps24
  go_wp2_with (fail)
  go_loopw [14] (WrRel w ps) (fun i _ => ps.length - (intOf i).toNat)
  case atStart => exact ⟨0, Nat.zero_le _, rfl, by simp, Kp.refl _ _⟩
  case round =>
    obtain ⟨k, hk, rfl, hall, hx⟩ := hrel
    have HA := Lib.hid hall
    clear hall
    by_cases hlt : k < ps.length
    · obtain ⟨b', off, rfl, hb, hc⟩ := HO.out (by omega)
      have hcell := hx.cell (hc k hlt) (fun f => f)
      have HCON := Lib.hid (Good_any ps[k] wr (hG.ext hx) (HPS.out _ (List.getElem_mem hlt)))
      clear hc
      cases hg : goodB ps[k] with
      | true =>
        have HGB : Hid (goodL ps[k].data.toList = true) := hg
        clear hg
        go_wp2_with (go_at_call 25; refine HCON.out.mono ?_; rintro e w' ⟨rfl, hx'⟩; rw [HGB.out])
        go_light
        exact ⟨⟨k + 1, by omega, by go_num, take_all_succ hlt HA.out (by simp [goodB, HGB.out]), hx.ext hx'⟩, by simp [intOf]; omega⟩
      | false =>
        have HGB : Hid (goodL ps[k].data.toList = false) := hg
        clear hg
        go_wp2_with (go_at_call 25; refine HCON.out.mono ?_; rintro e w' ⟨rfl, hx'⟩; rw [HGB.out])
        go_ret2
        go_light
        refine ⟨ret_val ?_, hx.ext hx'⟩
        have := find_at (fun p => !goodB p) ps k hlt HA.out (by simp [goodB, HGB.out])
        simp only [wrongL, this]
        rfl
    · have hall2 : ∀ x ∈ ps, (!goodB x) = false := by
        have := HA.out
        rwa [List.take_of_length_le (by omega)] at this
      have HN := Lib.hid (find_no _ _ hall2)
      clear hall2 HA
      obtain ⟨wo, rfl⟩ : ∃ wo : World, wo = wr := ⟨_, rfl⟩
      go_wp2_with (fail)
      go_loopw [25] (WrRel2 w st who ps) (fun i _ => ps.length - (intOf i).toNat)
      case atStart => exact ⟨0, Nat.zero_le _, rfl, by simp, hx⟩
      case round =>
        clear hx hk hlt
        obtain ⟨j, hj, rfl, hbl, hx⟩ := hrel
        have HBL := Lib.hid hbl
        clear hbl
        by_cases hlt : j < ps.length
        · obtain ⟨b', off, rfl, hb, hc⟩ := HO.out (by omega)
          have hcell := hx.cell (hc j hlt) (fun f => f)
          have HCON := Lib.hid (blocks_any b m st who ps[j] wr (h.ext hx) (hG.ext hx) (HPS.out _ (List.getElem_mem hlt)))
          clear hc
          cases hg : blocksL st who ps[j] with
          | false =>
            have HGB := Lib.hid hg
            clear hg
            go_wp2_with (go_at_call 16; refine HCON.out.mono ?_; rintro e w' ⟨rfl, hx'⟩; rw [HGB.out])
            go_light
            exact ⟨⟨j + 1, by omega, by go_num, take_all_succ hlt HBL.out HGB.out, hx.ext hx'⟩, by simp [intOf]; omega⟩
          | true =>
            have HGB := Lib.hid hg
            clear hg
            go_wp2_with (go_at_call 16; refine HCON.out.mono ?_; rintro e w' ⟨rfl, hx'⟩; rw [HGB.out])
            go_ret2
            go_light
            refine ⟨ret_val ?_, hx.ext hx'⟩
            have := find_at (blocksL st who) ps j hlt HBL.out HGB.out
            simp only [wrongL, HN.out, this]
            rfl
        · have hall2 : ∀ x ∈ ps, blocksL st who x = false := by
            have := HBL.out
            rwa [List.take_of_length_le (by omega)] at this
          have HN2 := Lib.hid (find_no _ _ hall2)
          clear hall2 HBL
          go_wp2_with (fail)
          go_ret2
          go_light
          refine ⟨ret_val ?_, hx⟩
          simp only [wrongL, HN.out, HN2.out]
          rfl

/-- The store loop of Take. -/
def TakeRel (w : World) (b m : Nat) (st : St) (who : Int) (ps : List ByteArray) (i : Value) (wr : World) : Prop :=
  ∃ k : Nat, k ≤ ps.length ∧ i = .int .i64 k ∧ LockAt wr b m (takeAll st who (ps.take k)) ∧ Kp (fun i => i = m) w wr

theorem takeAll_snoc (st : St) (who : Int) (ps : List ByteArray) (k : Nat) (hk : k < ps.length) : takeAll st who (ps.take (k + 1)) = mset (takeAll st who (ps.take k)) ps[k] who := by
  unfold takeAll
  rw [List.take_succ_eq_append_getElem hk, List.foldl_append]; rfl
theorem mset_small (st : St) (p : ByteArray) (x : Int) (h : ∀ e ∈ st, e.1.size ≤ 200) (hp : p.size ≤ 200) : ∀ e ∈ mset st p x, e.1.size ≤ 200 := by
  induction st with
  | nil => intro e he; simp [mset] at he; subst he; exact hp
  | cons a r ih =>
    intro e he
    unfold mset at he
    split at he
    · rcases List.mem_cons.1 he with rfl | he
      · exact hp
      · exact h e (List.mem_cons_of_mem _ he)
    · rcases List.mem_cons.1 he with rfl | he
      · exact h e List.mem_cons_self
      · exact ih (fun e he => h e (List.mem_cons_of_mem _ he)) e he
theorem LockAt.set {w : World} {b m : Nat} {st : St} (h : LockAt w b m st) (p : ByteArray) (x : Int) (hp : p.size ≤ 200) :
    ∃ w', (Instr.mapUpdate 49 (.map (some m)) (.string p) (.int .i64 x)).run Tryd.prog w = .ok () w' ∧ LockAt w' b m (mset st p x) ∧ Kp (fun i => i = m) w w' ∧ w'.heap.size = w.heap.size := by
  obtain ⟨w', h1, h2, h3, h4⟩ := MapK.update kS tM h.map p (.int .i64 x)
  rw [mset_map] at h2
  exact ⟨w', h1, ⟨h3.cell h.cell (fun e => h.ne e), h2, mset_small st p x h.small hp⟩, h3, h4⟩
theorem good_small (p : ByteArray) (h : goodB p = true) : p.size ≤ 200 := by rw [Lib.size_eq]; exact (good_len _ h).2

set_option maxHeartbeats 1000000 in
theorem take_any (b m : Nat) (st : St) (who : Int) (v : Value) (ps : List ByteArray) (w : World) (h : LockAt w b m st) (hG : GL w) (hs : Strs w v ps) (hps : ∀ p ∈ ps, p.size ≤ maxLen) (hd : ps ≠ [] → ∀ x, v.ownBlock = some x → x ≠ m) :
    Calls Tryd.prog 12 #[.pointer (some ⟨b, 0, none⟩), .int .i64 who, v] w fun e w' =>
      e = .returned (.tuple #[.string ((wrongL st who ps).getD ⟨#[]⟩), .bool (!(wrongL st who ps).isSome)]) ∧ LockAt w' b m (takeL st who ps) ∧ Kp (fun i => i = m) w w' := by
  have HCON := Lib.hid (wrong_any b m st who v ps w h hG hs hps)
  obtain ⟨a, c, rfl, hcc, hm, hop⟩ := Strs.open hs
  have HO := Lib.hid hop
  unfold maxLen at hm
  clear hop hs hps
  cases hw : wrongL st who ps with
  | some p =>
    have HW : Hid (wrongL st who ps = some p) := hw
    clear hw
    go_enter Tryd.func12, Tryd.ntmps12
    go_wp2_with (fail)
    refine HCON.out.mono ?_
    rw [HW.out]
    unfold wrV
    rintro e w1 ⟨rfl, hx⟩
    go_wp2_with (fail)
    go_ret2
    go_light
    refine ⟨rfl, ?_, Ext.kp hx⟩
    simp only [takeL, HW.out, Option.isSome_some, if_true]
    exact h.ext hx
  | none =>
    have HW : Hid (wrongL st who ps = none) := hw
    have hgood : ∀ p ∈ ps, p.size ≤ 200 := by
      intro p hp
      have h1 : ps.find? (fun p => !goodB p) = none := by
        cases hf : ps.find? (fun p => !goodB p) with
        | none => rfl
        | some q => simp [wrongL, hf] at hw
      have := List.find?_eq_none.1 h1 p hp
      exact good_small p (by simpa using this)
    have HGO := Lib.hid hgood
    clear hw hgood
    go_enter Tryd.func12, Tryd.ntmps12
    go_wp2_with (fail)
    refine HCON.out.mono ?_
    rw [HW.out]
    unfold wrV
    rintro e w1 ⟨rfl, hx⟩
    go_wp2_with (fail)
    go_loopw [23] (TakeRel w b m st who ps) (fun i _ => ps.length - (intOf i).toNat)
    case atStart => exact ⟨0, Nat.zero_le _, rfl, h.ext hx, Ext.kp hx⟩
    case round =>
      clear hx
      obtain ⟨k, hk, rfl, hat, hkp⟩ := hrel
      by_cases hlt : k < ps.length
      · obtain ⟨b', off, rfl, hb, hc⟩ := HO.out (by omega)
        have hcell := hkp.cell (hc k hlt) (fun e => hd (by rintro rfl; simp at hlt) _ rfl e)
        obtain ⟨w', hrun, hat', hkp', hsz⟩ := hat.set ps[k] who (HGO.out _ (List.getElem_mem hlt))
        have hcl := hat.cell
        have HAT := Lib.hid hat'
        clear hc hat hat' hsz
        go_wp2_with (fail)
        go_light
        exact ⟨⟨k + 1, by omega, by go_num, by rw [takeAll_snoc _ _ _ _ hlt]; exact HAT.out, hkp.trans hkp'⟩, by simp [intOf]; omega⟩
      · have hke : ps.take k = ps := List.take_of_length_le (by omega)
        rw [hke] at hat
        have HAT := Lib.hid hat
        clear hke hat
        go_wp2_with (fail)
        go_ret2
        go_light
        refine ⟨rfl, ?_, hkp⟩
        simp only [takeL, HW.out, Option.isSome_none, Bool.false_eq_true, if_false]
        exact HAT.out
end Go.Proofs.YtdaoamnemkiloaaDoor
