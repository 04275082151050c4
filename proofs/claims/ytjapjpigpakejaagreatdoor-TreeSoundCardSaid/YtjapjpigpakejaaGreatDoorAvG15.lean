/- Texts put together: AvWPath, AvLock. -/
import Derived.Test.YtjapjpigpakejaaGreatDoorShelf
import Derived.Test.YtjapjpigpakejaaGreatDoorAvBase
import Derived.Test.YtjapjpigpakejaaGreatDoorAvPath
import Derived.Handy
import Derived.Test.YtjapjpigpakejaaGreatDoorAvMap

/- Walks of package path. -/
namespace Go.Proofs.YtjapjpigpakejaaGreatDoor
set_option maxRecDepth 100000
open Go.RowKit Av

/-- internal/bytealg.MaxLen holds an int, whatever it be. -/
def GL (w : World) : Prop := ∃ m : Int, w.cell? ⟨0, 0, none⟩ = some (.int .i64 m)
theorem GL.kp {S : Nat → Prop} {w w' : World} (h : GL w) (k : Kp S w w') (hs : ¬ S 0) : GL w' := by
  obtain ⟨m, h⟩ := h
  exact ⟨m, k.cell h hs⟩
theorem GL.ext {w w' : World} (h : GL w) (k : Ext w w') : GL w' := h.kp k (fun f => f)

theorem ret_bool {a b : Bool} (h : a = b) : Ending.returned (.bool a) = .returned (.bool b) := by rw [h]

theorem all_snoc (l : Bs) (k : Nat) (h : k < l.length) : (l.take (k + 1)).all sign = ((l.take k).all sign && sign l[k]) := by
  rw [List.take_succ_eq_append_getElem h]; simp only [List.all_append, List.all_cons, List.all_nil, Bool.and_true]
theorem not_all (l : Bs) (k : Nat) (h : k < l.length) (hs : sign l[k] = false) : l.all sign = false := by
  rw [List.all_eq_false]; exact ⟨l[k], List.getElem_mem h, by simp [hs]⟩

set_option maxHeartbeats 400000 in
theorem name_any (s : ByteArray) (w : World) (hs : s.size ≤ maxLen) :
    Calls Tryz.prog 84 #[.string s] w fun e w' => e = .returned (.bool (nameL s.data.toList)) ∧ w = w' := by
  unfold maxLen at hs
  have hsz : s.size = s.data.toList.length := Go.Lib.size_eq s
  have HS := Lib.hid hsz; clear hsz
  go_enter Tryz.func84, Tryz.ntmps84
  go_wp2
  go_loop [6] (fun i => ∃ k : Nat, k ≤ s.size ∧ i = .int .i64 k ∧ (s.data.toList.take k).all sign = true) (fun i => s.size - (intOf i).toNat)
  case atStart => exact ⟨0, Nat.zero_le _, rfl, rfl⟩
  case round =>
    obtain ⟨k, hk, rfl, ht⟩ := hrel
    have HT := Lib.hid ht; clear ht
    by_cases hlt : k < s.size
    · have hl : k < s.data.toList.length := by rw [← HS.out]; exact hlt
      have hg : s.data.toList[k] = s[k] := by rw [Array.getElem_toList]; rfl
      by_cases hsg : sign s[k] = true
      · have hb : 33 ≤ s[k].toNat ∧ s[k].toNat ≤ 126 := by
          simp only [sign, Bool.and_eq_true, decide_eq_true_eq, UInt8.le_iff_toNat_le] at hsg; simpa using hsg
        obtain ⟨hb1, hb2⟩ := hb
        have HG := Lib.hid hsg; clear hsg
        have HX := Lib.hid hg; clear hg
        go_wp2
        go_round
        case rel => exact ⟨k + 1, by omega, by go_num, by rw [all_snoc _ _ hl, HT.out, HX.out, HG.out]; rfl⟩
        case measure => simp [intOf]; omega
      · have hb : s[k].toNat < 33 ∨ 126 < s[k].toNat := by
          simp only [sign, Bool.and_eq_true, decide_eq_true_eq, UInt8.le_iff_toNat_le] at hsg
          have h33 : (33 : UInt8).toNat = 33 := rfl
          have h126 : (126 : UInt8).toNat = 126 := rfl
          omega
        have hres : nameL s.data.toList = false := by
          simp only [nameL, not_all _ _ hl (by rw [hg]; simpa using hsg), Bool.false_and]
        have HR := Lib.hid hres
        clear hsg hg hres
        rcases hb with hb | hb
        all_goals
          go_wp2
          go_ret
          exact ⟨ret_bool (by rw [HR.out]), rfl⟩
    · have hall : s.data.toList.all sign = true := by
        have := HT.out
        rwa [List.take_of_length_le (by rw [← HS.out]; omega)] at this
      have HA := Lib.hid hall
      have e1 : s.toList = s.data.toList := Go.Lib.toList_data s
      clear hall
      have HE := Lib.hid e1; clear e1
      have hnm : ∀ b : Bool, ((decide (1 ≤ s.size) && decide (s.size ≤ 40)) && ((s.data.toList != [46]) && (s.data.toList != [46, 46]))) = b → nameL s.data.toList = b := by
        intro b hb; rw [← hb]; simp only [nameL, HA.out, ← HS.out, Bool.true_and, Bool.and_assoc]
      have HN := Lib.hid hnm; clear hnm
      by_cases h1 : 1 ≤ s.size
      · by_cases h2 : s.size ≤ 40
        · go_wp2
          all_goals
            go_ret
            go_light
            refine ⟨ret_bool (HN.out _ ?_).symm, rfl⟩
            have e2 := HE.out
            simp_all [bne]
        · go_wp2
          go_ret
          exact ⟨ret_bool (HN.out _ (by simp [h2])).symm, rfl⟩
      · go_wp2
        go_ret
        exact ⟨ret_bool (HN.out _ (by simp [h1])).symm, rfl⟩

def stroke : ByteArray := ⟨#[47]⟩
theorem Split_any (q : ByteArray) (w : World) (hG : GL w) (hq : q.size < 4294967281) :
    Calls Tryz.prog 83 #[.string q, .string ⟨#[47]⟩] w fun e w' => ∃ (b : Nat) (ps : List ByteArray), ps.map (·.data.toList) = cut q.data.toList ∧ e = .returned (.slice (some ⟨b, 0, none⟩) ps.length ps.length) ∧
      ps.length ≤ maxLen ∧ b < w'.heap.size ∧ (∀ i (hi : i < ps.length), w'.cell? ⟨b, i, none⟩ = some (.string ps[i])) ∧ Ext w w' := by
  obtain ⟨m, hm⟩ := hG
  refine (Tryz.strings_Split q ⟨#[47]⟩ m w hq hm (by decide)).mono ?_
  rintro e w' ⟨rfl, rfl⟩
  have hc : Lib.countB q ⟨#[47]⟩ = q.data.toList.count 47 := Lib.count_one 47 q.data.toList
  have hl := Lib.splitB_all ⟨#[47]⟩ (by decide) 0 _ q rfl
  have hle := Lib.countB_le ⟨#[47]⟩ (by decide) q.size q (Nat.le_refl _)
  have hd := Lib.splitB_data ⟨#[47]⟩ 0 (Lib.countB q ⟨#[47]⟩) q
  generalize Lib.splitB ⟨#[47]⟩ 0 (Lib.countB q ⟨#[47]⟩) q = ps at hl hd ⊢
  refine ⟨w.heap.size, ps, ?_, by rw [hl], by unfold maxLen; omega, by simp, ?_, (Kp.refl _ _).alloc _⟩
  · rw [hd]; exact splitK_cut _ _ hc.symm
  · intro i hi
    exact (World.cell?_alloc_new _ _ _ _).trans (by simp [hi])

theorem CutPrefix_yes (p : ByteArray) (t : Bs) (w : World) (h : p.data.toList = 47 :: t) :
    Calls Tryz.prog 82 #[.string p, .string ⟨#[47]⟩] w fun e w' => e = .returned (.tuple #[.string ⟨t.toArray⟩, .bool true]) ∧ w = w' := by
  refine (Tryz.strings_CutPrefix _ _ _).mono ?_
  rintro e w' ⟨rfl, rfl⟩
  simp [h, Lib.trimPrefix, Lib.hasPrefix]
theorem CutPrefix_no (p : ByteArray) (w : World) (h : p.data.toList.head? ≠ some 47) :
    Calls Tryz.prog 82 #[.string p, .string ⟨#[47]⟩] w fun e w' => e = .returned (.tuple #[.string p, .bool false]) ∧ w = w' := by
  refine (Tryz.strings_CutPrefix _ _ _).mono ?_
  rintro e w' ⟨rfl, rfl⟩
  have : Lib.hasPrefix p.data.toList [47] = false := by
    cases hl : p.data.toList with
    | nil => rfl
    | cons c t =>
      simp only [Lib.hasPrefix, List.isPrefixOf, Bool.and_true]
      simp only [hl, List.head?_cons, ne_eq, Option.some.injEq] at h
      simpa using fun e => h e.symm
  simp [this, Lib.trimPrefix]

theorem good_no (l : Bs) (h : l.head? ≠ some 47) : goodL l = false := by
  cases l with
  | nil => rfl
  | cons c t =>
    have : (c == 47) = false := by simpa using h
    simp [goodL, this]
theorem good_long (l : Bs) (h : 200 < l.length) : goodL l = false := by
  cases l with
  | nil => rfl
  | cons c t =>
    have : decide ((c :: t).length ≤ 200) = false := decide_eq_false (by omega)
    simp only [goodL, this, Bool.and_false, Bool.false_and]
theorem good_cons (t : Bs) (h : t.length < 200) : goodL (47 :: t) = ((cut t).all nameL && decide ((cut t).length ≤ 8)) := by
  have : decide ((47 :: t).length ≤ 200) = true := by simp; omega
  simp only [goodL, this, beq_self_eq_true, Bool.true_and]
theorem piece (ps : List ByteArray) (l : List Bs) (h : ps.map (·.data.toList) = l) (k : Nat) (hk : k < ps.length) : ∃ hk' : k < l.length, ps[k].data.toList = l[k] := by
  subst h; exact ⟨by simpa using hk, by simp⟩
theorem all_name_snoc (l : List Bs) (k : Nat) (h : k < l.length) : (l.take (k + 1)).all nameL = ((l.take k).all nameL && nameL l[k]) := by
  rw [List.take_succ_eq_append_getElem h]; simp only [List.all_append, List.all_cons, List.all_nil, Bool.and_true]

set_option maxHeartbeats 400000 in
theorem Good_any (p : ByteArray) (w : World) (hG : GL w) (hp : p.size ≤ maxLen) :
    Calls Tryz.prog 53 #[.string p] w fun e w' => e = .returned (.bool (goodL p.data.toList)) ∧ Ext w w' := by
  unfold maxLen at hp
  have HS : Hid (p.size = p.data.toList.length) := Go.Lib.size_eq p
  by_cases hpre : p.data.toList.head? = some 47
  · obtain ⟨t, ht⟩ : ∃ t, p.data.toList = 47 :: t := by
      cases h : p.data.toList with
      | nil => simp [h] at hpre
      | cons c t => simp [h] at hpre; exact ⟨t, by rw [hpre]⟩
    have HT := Lib.hid ht
    clear ht hpre
    by_cases hlen : p.size ≤ 200
    · have htl : (⟨t.toArray⟩ : ByteArray).size < 4294967281 := by
        have := HS.out; rw [HT.out] at this; simp at this; simp [ByteArray.size]; omega
      have HL := Lib.hid htl
      clear htl
      go_enter Tryz.func53, Tryz.ntmps53
      go_wp2_with (fail)
      refine (CutPrefix_yes p t _ HT.out).mono ?_
      rintro e w' ⟨rfl, rfl⟩
      go_wp2_with (fail)
      refine (Split_any _ _ hG HL.out).mono ?_
      rintro e w1 ⟨b, ps, hps, rfl, hn, hb, hc, hx⟩
      have HP := Lib.hid hps
      have HC := Lib.hid hc
      clear hps hc
      unfold maxLen at hn
      go_wp2_with (fail)
      go_loop [24] (fun i => ∃ k : Nat, k ≤ ps.length ∧ i = .int .i64 k ∧ ((cut t).take k).all nameL = true) (fun i => ps.length - (intOf i).toNat)
      case atStart => exact ⟨0, Nat.zero_le _, rfl, rfl⟩
      case round =>
        obtain ⟨k, hk, rfl, hall⟩ := hrel
        have HA := Lib.hid hall
        clear hall
        by_cases hlt : k < ps.length
        · have hcell := HC.out k hlt
          obtain ⟨hk', hpk⟩ := piece ps _ HP.out k hlt
          have hsz : ps[k].size ≤ maxLen := by
            have h1 := cut_len_le t _ (List.getElem_mem hk')
            have h2 : ps[k].size = ps[k].data.toList.length := Go.Lib.size_eq _
            have h3 := HS.out
            rw [HT.out] at h3
            simp only [List.length_cons] at h3
            rw [h2, hpk]; unfold maxLen; omega
          have HZ := Lib.hid hsz
          have HK := Lib.hid hpk
          clear hsz hpk
          by_cases hnm : nameL ps[k].data.toList = true
          · go_wp2_with (go_at_call 84; refine (name_any _ _ HZ.out).mono ?_; rintro e w' ⟨rfl, rfl⟩)
            go_round
            case rel => exact ⟨k + 1, by omega, by go_num, by rw [all_name_snoc _ _ hk', HA.out, ← HK.out, hnm]; rfl⟩
            case measure => simp [intOf]; omega
          · have hnf : nameL ps[k].data.toList = false := by simpa using hnm
            clear hnm
            go_wp2_with (go_at_call 84; refine (name_any _ _ HZ.out).mono ?_; rintro e w' ⟨rfl, rfl⟩)
            go_ret
            go_light
            refine ⟨ret_bool ?_, hx⟩
            have h3 := HS.out
            rw [HT.out] at h3 ⊢
            simp only [List.length_cons] at h3
            rw [good_cons _ (by omega)]
            have : (cut t).all nameL = false := by
              rw [List.all_eq_false]; exact ⟨_, List.getElem_mem hk', by rw [← HK.out, hnf]; simp⟩
            rw [this]; rfl
        · have hke : k = ps.length := by omega
          have HKE := Lib.hid hke
          clear hke
          go_wp2
          go_ret
          go_light
          refine ⟨ret_bool ?_, hx⟩
          have h3 := HS.out
          rw [HT.out] at h3 ⊢
          simp only [List.length_cons] at h3
          rw [good_cons _ (by omega)]
          have hl : (cut t).length = ps.length := by rw [← HP.out]; simp
          have := HA.out
          rw [HKE.out, ← hl, List.take_length] at this
          rw [this, hl]
          simp
          omega
    · go_enter Tryz.func53, Tryz.ntmps53
      go_wp2_with (fail)
      refine (CutPrefix_yes p t _ HT.out).mono ?_
      rintro e w' ⟨rfl, rfl⟩
      go_wp2_with (fail)
      go_ret
      exact ⟨ret_bool (good_long _ (by rw [← HS.out]; omega)).symm, Kp.refl _ _⟩
  · have HP := Lib.hid hpre
    clear hpre
    go_enter Tryz.func53, Tryz.ntmps53
    go_wp2_with (fail)
    refine (CutPrefix_no p _ HP.out).mono ?_
    rintro e w' ⟨rfl, rfl⟩
    go_wp2_with (fail)
    go_ret
    exact ⟨ret_bool (good_no _ HP.out).symm, Kp.refl _ _⟩

end Go.Proofs.YtjapjpigpakejaaGreatDoor

/- Locks as a list of pairs: what chapter 17 says, in plain Lean. No program. -/
namespace Av
set_option maxRecDepth 100000
/-- The path without its last name, as a text; empty: there is none. -/
def optS (o : Option Bs) : ByteArray := ⟨(o.getD []).toArray⟩
abbrev goodB (p : ByteArray) : Bool := goodL p.data.toList
abbrev upB (p : ByteArray) : Option Bs := parentL p.data.toList
/-- Does a held path block p for who? -/
def blk (who : Int) (p : ByteArray) (e : ByteArray × Int) : Bool :=
  decide (e.2 ≠ who) && (decide (e.1 = p) || (decide (e.1 = optS (upB p)) || ((upB e.1).isSome && decide (optS (upB e.1) = p))))
def blocksL (st : List (ByteArray × Int)) (who : Int) (p : ByteArray) : Bool := goodB p && st.any (blk who p)
/-- The first path that one may not take. -/
def wrongL (st : List (ByteArray × Int)) (who : Int) (ps : List ByteArray) : Option ByteArray :=
  match ps.find? fun p => !goodB p with
  | some p => some p
  | none => ps.find? fun p => blocksL st who p
def takeAll (st : List (ByteArray × Int)) (who : Int) (ps : List ByteArray) : List (ByteArray × Int) := ps.foldl (fun s p => mset s p who) st
def takeL (st : List (ByteArray × Int)) (who : Int) (ps : List ByteArray) : List (ByteArray × Int) :=
  if (wrongL st who ps).isSome then st else takeAll st who ps
def freeL (st : List (ByteArray × Int)) (who : Int) : List (ByteArray × Int) := st.filter fun e => decide (e.2 ≠ who)
end Av
