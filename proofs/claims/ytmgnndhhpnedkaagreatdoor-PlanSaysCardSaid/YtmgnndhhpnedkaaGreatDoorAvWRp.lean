/- The reference's tables and plans, walked: Of, Split, Make, Ops, Verdict, Results; One, All. -/
import Derived.Test.YtmgnndhhpnedkaaGreatDoorAvPlanLaw
import Derived.Test.YtmgnndhhpnedkaaGreatDoorAvWTab
import Derived.Test.YtmgnndhhpnedkaaGreatDoorAvWRefC
import Derived.Test.YtmgnndhhpnedkaaGreatDoorAvWRouC
import Derived.Test.YtmgnndhhpnedkaaGreatDoorAvWPlan
import Derived.Test.YtmgnndhhpnedkaaGreatDoorAvWReqC
import Derived.Test.YtmgnndhhpnedkaaGreatDoorAvDagRow
import Derived.Test.YtmgnndhhpnedkaaGreatDoorAvWPops
import Derived.Test.YtmgnndhhpnedkaaGreatDoorAvWVer
import Derived.Test.YtmgnndhhpnedkaaGreatDoorAvWPresB
import Derived.Test.YtmgnndhhpnedkaaGreatDoorAvWRefD
import Derived.Test.YtmgnndhhpnedkaaGreatDoorAvDag
namespace Av
set_option maxRecDepth 100000
open Go
def skipV (bz : Bool) (v : VoteV) : Prop := v.err = 0 ∨ (bz = true ∧ v.err ≠ 12)
instance (bz : Bool) (v : VoteV) : Decidable (skipV bz v) := by unfold skipV; exact inferInstance
def rvStep (pl : List (List Nat)) (bz : Bool) (a : Int × Int) (i : Nat) (v : VoteV) : Int × Int :=
  if skipV bz v then a else if placeOf pl i v < a.2 then (v.err, placeOf pl i v) else a
def rvTo (pl : List (List Nat)) (bz : Bool) (vs : List VoteV) : Nat → Int × Int
  | 0 => (0, 1000)
  | k + 1 => rvStep pl bz (rvTo pl bz vs k) k (vs.getD k default)
def badV (vs : List VoteV) : Bool := vs.any fun v => decide (v.err ≠ 0)
theorem rvTo_step {pl : List (List Nat)} {bz : Bool} {vs : List VoteV} {k : Nat} (hk : k < vs.length) : rvTo pl bz vs (k + 1) = rvStep pl bz (rvTo pl bz vs k) k vs[k] := by
  rw [rvTo]; simp [List.getD, List.getElem?_eq_getElem hk]
theorem place_lt {pl : List (List Nat)} (h : ∀ l ∈ pl, ∀ n ∈ l, n < 1000) (i : Nat) (v : VoteV) : placeOf pl i v < 1000 := by
  unfold placeOf
  by_cases h1 : v.at_ < 0 ∨ ((pl.getD i []).length : Int) ≤ v.at_
  · simp only [h1, if_true]; decide
  · simp only [h1, if_false]
    by_cases hi : i < pl.length
    · have e : pl.getD i [] = pl[i] := by simp [List.getD, List.getElem?_eq_getElem hi]
      rw [e] at h1 ⊢
      have hq : v.at_.toNat < pl[i].length := by omega
      have e2 : pl[i].getD v.at_.toNat 0 = pl[i][v.at_.toNat] := by simp [List.getD, List.getElem?_eq_getElem hq]
      rw [e2]
      have := h _ (List.getElem_mem hi) _ (List.getElem_mem hq)
      omega
    · have e : pl.getD i [] = [] := by simp [List.getD, List.getElem?_eq_none (show pl.length ≤ i by omega)]
      rw [e] at h1
      simp only [List.length_nil] at h1
      omega
theorem rv_eq {pl : List (List Nat)} (h : ∀ l ∈ pl, ∀ n ∈ l, n < 1000) (bz : Bool) (vs : List VoteV) : ∀ k, k ≤ vs.length →
    (verdTo pl bz vs k = (0, -1) ∧ rvTo pl bz vs k = (0, 1000) ∧ ∀ v ∈ vs.take k, skipV bz v) ∨ (verdTo pl bz vs k = rvTo pl bz vs k ∧ (verdTo pl bz vs k).1 ≠ 0 ∧ ∃ v ∈ vs.take k, ¬ skipV bz v)
  | 0, _ => .inl ⟨rfl, rfl, by simp⟩
  | k + 1, hk => by
    have hkl : k < vs.length := by omega
    have ih := rv_eq h bz vs k (by omega)
    have e1 : verdTo pl bz vs (k + 1) = verdStep pl bz (verdTo pl bz vs k) k vs[k] := by rw [verdTo]; simp [List.getD, List.getElem?_eq_getElem hkl]
    rw [e1, rvTo_step hkl, List.take_succ_eq_append_getElem hkl]
    have hp := place_lt h k vs[k]
    by_cases hs : skipV bz vs[k]
    · have a1 : verdStep pl bz (verdTo pl bz vs k) k vs[k] = verdTo pl bz vs k := by unfold verdStep; exact if_pos hs
      have a2 : rvStep pl bz (rvTo pl bz vs k) k vs[k] = rvTo pl bz vs k := by unfold rvStep; rw [if_pos hs]
      rw [a1, a2]
      rcases ih with ⟨i1, i2, i3⟩ | ⟨i1, i2, v, i3, i4⟩
      · exact .inl ⟨i1, i2, fun v hv => by
          rcases List.mem_append.1 hv with hv | hv
          · exact i3 v hv
          · simp only [List.mem_singleton] at hv; rw [hv]; exact hs⟩
      · exact .inr ⟨i1, i2, v, List.mem_append_left _ i3, i4⟩
    · have a1 : verdStep pl bz (verdTo pl bz vs k) k vs[k] = if (verdTo pl bz vs k).1 = 0 ∨ placeOf pl k vs[k] < (verdTo pl bz vs k).2 then (vs[k].err, placeOf pl k vs[k]) else verdTo pl bz vs k := by unfold verdStep; exact if_neg hs
      have a2 : rvStep pl bz (rvTo pl bz vs k) k vs[k] = if placeOf pl k vs[k] < (rvTo pl bz vs k).2 then (vs[k].err, placeOf pl k vs[k]) else rvTo pl bz vs k := by unfold rvStep; rw [if_neg hs]
      have he : vs[k].err ≠ 0 := fun e => hs (.inl e)
      have hmem : ∃ v ∈ vs.take k ++ [vs[k]], ¬ skipV bz v := ⟨vs[k], List.mem_append_right _ (List.mem_singleton.2 rfl), hs⟩
      rw [a1, a2]
      rcases ih with ⟨i1, i2, _⟩ | ⟨i1, i2, _⟩
      · rw [i1, i2, if_pos (.inl rfl), if_pos hp]
        exact .inr ⟨rfl, he, hmem⟩
      · rw [← i1]
        by_cases hc : placeOf pl k vs[k] < (verdTo pl bz vs k).2
        · rw [if_pos (.inr hc), if_pos hc]
          exact .inr ⟨rfl, he, hmem⟩
        · rw [if_neg (fun f => by rcases f with f | f; exact i2 f; exact hc f), if_neg hc]
          exact .inr ⟨rfl, i2, hmem⟩
theorem rv_bad {pl : List (List Nat)} (h : ∀ l ∈ pl, ∀ n ∈ l, n < 1000) (vs : List VoteV) (hb : badV vs = true) : rvTo pl (busyV vs) vs vs.length = verdTo pl (busyV vs) vs vs.length := by
  rcases rv_eq h (busyV vs) vs vs.length (Nat.le_refl _) with ⟨_, _, h3⟩ | ⟨h1, _⟩
  · exfalso
    rw [List.take_length] at h3
    obtain ⟨v, hv, he⟩ := List.any_eq_true.1 hb
    have he : v.err ≠ 0 := by simpa using he
    rcases h3 v hv with h4 | ⟨h4, _⟩
    · exact he h4
    · obtain ⟨u, hu, he2⟩ := List.any_eq_true.1 h4
      have he2 : u.err = 12 := by simpa using he2
      rcases h3 u hu with h5 | ⟨_, h5⟩
      · omega
      · exact h5 he2
  · exact h1.symm
theorem rv_good {pl : List (List Nat)} (h : ∀ l ∈ pl, ∀ n ∈ l, n < 1000) (vs : List VoteV) (hb : badV vs = false) : verdTo pl (busyV vs) vs vs.length = (0, -1) := by
  rcases rv_eq h (busyV vs) vs vs.length (Nat.le_refl _) with ⟨h1, _⟩ | ⟨_, _, v, h3, h4⟩
  · exact h1
  · rw [List.take_length] at h3
    exact absurd (.inl (by have := List.any_eq_false.1 hb v h3; simpa using this)) h4
theorem any_snoc {vs : List VoteV} {k : Nat} (hk : k < vs.length) (p : VoteV → Bool) : (vs.take (k + 1)).any p = ((vs.take k).any p || p vs[k]) := by
  rw [List.take_succ_eq_append_getElem hk, List.any_append]
  simp
end Av

namespace Go.Proofs.YtmgnndhhpnedkaaGreatDoor
open Go.RowKit Av

theorem mget_hit {ml : Moved} {t : ByteArray} : ∀ (k : Nat) (hk : k < ml.length), (∀ e ∈ ml.take k, e.1 ≠ t) → ml[k].1 = t → mget ml t = some ml[k].2 := by
  induction ml with
  | nil => intro k hk; simp at hk
  | cons a r ih =>
    intro k hk h h2
    cases k with
    | zero =>
      simp only [List.getElem_cons_zero] at h2 ⊢
      unfold mget
      rw [if_pos h2.symm]
    | succ k =>
      simp only [List.getElem_cons_succ] at h2 ⊢
      have h0 : a.1 ≠ t := h a (by simp)
      unfold mget
      rw [if_neg (fun e => h0 e.symm)]
      exact ih k (by simpa using hk) (fun e he => h e (by simp [he])) h2
theorem mget_miss {ml : Moved} {t : ByteArray} (h : ∀ e ∈ ml, e.1 ≠ t) : mget ml t = none := by
  induction ml with
  | nil => rfl
  | cons a r ih =>
    unfold mget
    rw [if_neg (fun e => h a List.mem_cons_self e.symm)]
    exact ih (fun e he => h e (List.mem_cons_of_mem _ he))
def RoRel (ml : Moved) (t : ByteArray) (i : Value) : Prop := ∃ k : Nat, k ≤ ml.length ∧ i = .int .i64 k ∧ ∀ e ∈ ml.take k, e.1 ≠ t
set_option maxHeartbeats 3200000 in
theorem refTabOf_any (b sh : Nat) (lv : Value) (ml : Moved) (p : ByteArray) (w : World) (h : RTab w b sh lv ml) (h1 : 1 ≤ sh) (h4 : sh ≤ 4) (hp : p.size ≤ maxLen) :
    Calls Tryz.prog 51 #[.pointer (some ⟨b, 0, none⟩), .string p] w fun e w' => e = .returned (.int .i64 (ofT sh ml p)) ∧ Ext w w' := by
  have HT := Lib.hid (refTop_any p w hp)
  have HL := Lib.hid h
  obtain ⟨la, lc, rfl, _, _, _⟩ := h.open
  obtain ⟨t, ht⟩ : ∃ t, topB p = t := ⟨_, rfl⟩
  have htl : t.data.toList = topL p.data.toList := by rw [← ht]; rfl
  have hto : ofT sh ml p = if t.data.toList = [] then -1 else (mget ml t).getD (((sumB t.data.toList % sh : Nat)) : Int) := by unfold ofT; rw [htl, ht]
  rw [show (⟨(topL p.data.toList).toArray⟩ : ByteArray) = t from ht] at HT
  rw [hto]
  have hlen : t.size ≤ 40 := by rw [Lib.size_eq, htl]; exact topL_len _
  have HS : Hid (t.size = t.data.toList.length) := Lib.size_eq t
  clear h ht htl hto
  by_cases h0 : t.data.toList = []
  · rw [if_pos h0]
    have e0 : (t.toList == (⟨#[]⟩ : ByteArray).toList) = true := by rw [str_eq]; exact decide_eq_true (by apply bytes_eq; rw [h0])
    have e1 : t.toList = [] := by rw [Lib.toList_data]; exact h0
    have e2 : t.toList.isEmpty = true := by rw [e1]; rfl
    go_enter Tryz.func51, Tryz.ntmps51
    go_wp2_with (fail)
    refine HT.out.mono ?_
    rintro e w1 ⟨rfl, hx⟩
    go_wp2_with (fail)
    go_ret
    exact ⟨rfl, hx⟩
  · rw [if_neg h0]
    have e1 : ¬ t.toList = [] := by rw [Lib.toList_data]; exact h0
    have e2 : t.toList.isEmpty = false := by cases hh : t.toList with | nil => exact absurd hh e1 | cons _ _ => rfl
    go_enter Tryz.func51, Tryz.ntmps51
    go_wp2_with (fail)
    refine HT.out.mono ?_
    rintro e w1 ⟨rfl, hx⟩
    have HX := Lib.hid hx
    have HL1 := Lib.hid (HL.out.ext hx)
    obtain ⟨ver, hv⟩ := HL1.out.1
    have c0 := hv.cell 0 _ rfl
    have c2 := hv.cell 2 _ rfl
    clear hx hv HT HL
    go_wp2_with (fail)
    go_loop [6] (fun i => RoRel ml t i) (fun i => ml.length - (intOf i).toNat)
    case atStart => exact ⟨0, Nat.zero_le _, rfl, by simp⟩
    case round =>
      obtain ⟨k, hk, rfl, hno⟩ := hrel
      have HNO := Lib.hid hno
      clear hno
      obtain ⟨la', lc', el, _, hlm, hlo⟩ := HL1.out.open
      unfold maxLen at hlm
      simp only [Value.slice.injEq, true_and] at el
      obtain ⟨rfl, rfl⟩ := el
      by_cases hlt : k < ml.length
      · have k1 : (k : Int) < ml.length := by omega
        obtain ⟨g, off, rfl, _, hc⟩ := hlo (by omega)
        obtain ⟨d0, d1⟩ := hc k hlt
        by_cases heq : ml[k].1 = t
        · have HM := Lib.hid (mget_hit k hlt HNO.out heq)
          have e3 : (ml[k].1.toList == t.toList) = true := by rw [str_eq]; exact decide_eq_true heq
          generalize ml[k] = q at d0 d1 HM e3
          clear heq hc hlo
          go_wp2_with (fail)
          go_ret
          exact ⟨by rw [HM.out]; rfl, HX.out⟩
        · have HM : Hid (∀ e ∈ ml.take (k + 1), e.1 ≠ t) := by
            intro e he
            rw [List.take_succ_eq_append_getElem hlt] at he
            rcases List.mem_append.1 he with he | he
            · exact HNO.out e he
            · simp only [List.mem_singleton] at he; rw [he]; exact heq
          have e3 : (ml[k].1.toList == t.toList) = false := by rw [str_eq]; exact decide_eq_false heq
          generalize ml[k] = q at d0 d1 e3
          clear heq hc hlo
          go_wp2_with (fail)
          go_light
          exact ⟨⟨k + 1, by omega, by go_num, HM.out⟩, by simp [intOf]; omega⟩
      · have HM : Hid (mget ml t = none) := mget_miss (by have := HNO.out; rwa [List.take_of_length_le (by omega)] at this)
        have k1 : ¬ (k : Int) < ml.length := by omega
        clear hlo hlt
        go_wp2_with (fail)
        go_loop [7, 8] (fun s8 s27 => OfRel t.data.toList s8 s27) (fun _ s27 => t.size - (intOf s27).toNat)
        case atStart => exact ⟨0, Nat.zero_le _, rfl, rfl⟩
        case round =>
          obtain ⟨k, hk, rfl, rfl⟩ := hrel
          have hsz := HS.out
          have hsb := sumB_le (t.data.toList.take k)
          rw [List.length_take] at hsb
          obtain ⟨n, hn⟩ : ∃ n, sumB (t.data.toList.take k) = n := ⟨_, rfl⟩
          rw [hn] at hsb
          rw [hn]
          have hnb : n ≤ 10200 := by omega
          by_cases hl : k < t.size
          · have hl' : k < t.data.toList.length := by omega
            have hgk : t.data.toList[k] = t[k] := by rw [Array.getElem_toList]; rfl
            have hb : t[k].toNat < 256 := t[k].toNat_lt
            have HN : Hid (sumB (t.data.toList.take (k + 1)) = n + t[k].toNat) := by show _ = _; rw [sumB_take _ hl', hn, hgk]
            have HH := Lib.hid hn
            clear hn hgk hsb hsz
            go_wp2_with (fail)
            go_light
            exact ⟨⟨k + 1, by omega, by go_num, by rw [HN.out]; go_num⟩, by simp [intOf]; omega⟩
          · have hkl : k = t.data.toList.length := by omega
            rw [hkl, List.take_length] at hn
            have HH := Lib.hid hn
            have hs0 : ((sh : Int) == 0) = false := beq_eq_false_iff_ne.2 (by omega)
            have e9 : (n : Int).tmod (sh : Int) = ((n % sh : Nat) : Int) := by rw [Int.tmod_eq_emod_of_nonneg (by omega)]; omega
            clear hn hsb hkl hsz
            go_wp2_with (fail)
            go_ret
            exact ⟨by rw [HM.out]; show _ = Ending.returned (Value.int .i64 ((sumB t.data.toList % sh : Nat) : Int)); rw [HH.out]; first | rfl | (go_light; rfl), HX.out⟩
set_option maxHeartbeats 3200000 in
theorem refSplit_any (b sh : Nat) (lv : Value) (mv : Moved) (v : Value) (xs : List OpV) (w : World) (h : RTab w b sh lv mv) (hok : TabOk sh mv) (ho : OpsAt w v xs) (hsz : OpsSz xs) (hn : xs.length ≤ 1000) :
    Calls Tryz.prog 33 #[.pointer (some ⟨b, 0, none⟩), v] w fun e w' => ∃ vs, e = .returned (.slice (some ⟨w.heap.size, 0, none⟩) sh sh) ∧ RowsR w' (.slice (some ⟨w.heap.size, 0, none⟩) sh sh) vs (splL sh mv xs xs.length) ∧ (∀ x ∈ vs, ∀ i, x.ownBlock = some i → w.heap.size ≤ i) ∧ Ext w w' := by
  have HL := Lib.hid h
  have HSZ := Lib.hid hsz
  have hmk := mk_rows sh hok.sh1 hok.sh4
  have HSH := Lib.hid (And.intro hok.sh1 hok.sh4)
  obtain ⟨a, c, rfl, hcc, hm, hop⟩ := OpsAt.open ho
  have HO := Lib.hid hop
  unfold maxLen at hm
  obtain ⟨ver, hvb⟩ := h.1
  have c0 := hvb.cell 0 _ rfl
  have HOK := Lib.hid hok
  clear h hvb hok hop hsz ho
  go_enter Tryz.func33, Tryz.ntmps33
  go_wp2_with (fail)
  go_loopw [6] (fun i wr => SplRel w sh mv xs i wr) (fun i _ => xs.length - (intOf i).toNat)
  case atStart => exact ⟨0, Nat.zero_le _, rfl, ⟨List.replicate sh (.slice none 0 0), by simp, by
    have e : splL sh mv xs 0 = List.replicate sh [] := by
      apply List.ext_getElem
      · simp [splL]
      · intro j h1 h2; rw [splL_get, splitTo_zero, List.getElem_replicate]
    rw [e]
    exact SplS.start sh (heap_alloc_new w _)⟩, (Kp.refl _ _).alloc _⟩
  case round =>
    obtain ⟨k, hk, rfl, ⟨vs, hvl, hsp⟩, hxr⟩ := hrel
    have HXR := Lib.hid hxr
    have HSP := Lib.hid hsp
    have HVL := Lib.hid hvl
    clear hxr hsp hvl
    by_cases hlt : k < xs.length
    · obtain ⟨ob, off, rfl, hb, hc⟩ := HO.out (by omega)
      obtain ⟨q0, q1, q2, q3, q4⟩ := hc k hlt
      have d0 := HXR.out.cell q0 (fun f => f)
      have d1 := HXR.out.cell q1 (fun f => f)
      have d2 := HXR.out.cell q2 (fun f => f)
      have d3 := HXR.out.cell q3 (fun f => f)
      have d4 := HXR.out.cell q4 (fun f => f)
      have k1 : (k : Int) < xs.length := by omega
      have hps := (HSZ.out _ (List.getElem_mem hlt)).1
      have hfk := fT_at (sh := sh) (mv := mv) hlt
      obtain ⟨⟨kk, p, dd, vv, ff⟩, hx⟩ : ∃ o, xs[k] = o := ⟨_, rfl⟩
      rw [hx] at d0 d1 d2 d3 d4 hps hfk
      simp only at d0 d1 d2 d3 d4 hps hfk
      have HCON := Lib.hid (refTabOf_any b sh lv mv p wr (HL.out.ext HXR.out) HOK.out.sh1 HOK.out.sh4 hps)
      have hin := ofT_in HOK.out p
      rw [← hfk] at HCON hin
      have HFK := Lib.hid hfk
      clear q0 q1 q2 q3 q4 hc hx hps hfk
      go_wp2_with (fail)
      refine HCON.out.mono ?_
      rintro e w1 ⟨rfl, hx1⟩
      have HX1 := Lib.hid hx1
      clear hx1 HCON
      rcases hin with hz | ⟨hz1, hz2⟩
      · have HZ := Lib.hid hz
        rw [hz]
        clear hz
        go_wp2_with (fail)
        go_light
        exact ⟨⟨k + 1, by omega, by go_num, ⟨vs, HVL.out, by rw [splL_none HZ.out]; exact HSP.out.ext HX1.out⟩, HXR.out.ext HX1.out⟩, by simp [intOf]; omega⟩
      · obtain ⟨s, hs⟩ : ∃ s : Nat, fT sh mv xs k = (s : Int) := ⟨_, (Int.toNat_of_nonneg hz1).symm⟩
        have hsv : s < vs.length := by rw [HVL.out]; omega
        have hsl : s < (splL sh mv xs k).length := by rw [splL_len]; omega
        have hss : (s : Int) < sh := by omega
        have HS := Lib.hid hs
        rw [hs]
        have HP1 := Lib.hid (HSP.out.ext HX1.out)
        obtain ⟨a2, c2, ve, f1, f2, f3⟩ := HP1.out.shape hsv hsl
        have HVE := Lib.hid ve
        have hown := HP1.out.inn s hsv hsl
        rw [ve] at hown f3
        have HOW := Lib.hid hown
        have HF3 := Lib.hid f3
        have HLE : Hid (((splL sh mv xs k)[s]).length ≤ 1000) := by
          show _ ≤ _
          rw [splL_get]
          have := splitTo_len (fT sh mv xs) k s
          omega
        have hgl := HP1.out.lt
        have hone := nat_one [k]
        clear hz1 hz2 hs ve hown f3
        generalize hpl : (splL sh mv xs k)[s] = pl at f1 f2 HLE HOW HF3 HVE
        have HPL := Lib.hid hpl
        clear hpl
        go_wp2_with (at_builtin; refine wpList_appAt isT inT 1 (by decide) is_facts rfl _ _ rfl (w.heap.size + 1) _ _ _ rfl (ownsRow.ext HOW.out ((Kp.refl _ w1).alloc _)) w1.heap.size 1 ([k].map natV) rfl (heap_alloc_new w1 _) rfl hone ?c1 ?c2 ?_)
        case c1 => have := HLE.out; omega
        case c2 => simp; omega
        intro v' w' h1 k2 h3
        have hWa : Ext w1 (w1.alloc (.cells ([k].map natV).toArray inT)) := (Kp.refl _ w1).alloc _
        have h1' : w'.ownsRow (w.heap.size + 1) inT 1 v' ((splL sh mv xs k)[s].length + 1) ((splL sh mv xs k)[s].map natV ++ [natV k]) := by rw [HPL.out]; exact h1
        have hst := (HP1.out.ext hWa).step hsv hsl (x := k) (v' := v') h1' (by rw [HVE.out]; exact k2) (by rw [HVE.out, World.size_alloc]; exact h3)
        have f1' := k2.cell (hWa.cell f1 (fun f => f)) (fun e => HF3.out e)
        have f2' : w'.frozen? ⟨w.heap.size, s, none⟩ = false := by
          have e1 := k2.frozen (p := ⟨w.heap.size, s, none⟩) (by rw [World.size_alloc]; show w.heap.size < _; omega) (fun e => HF3.out e)
          have e2 := hWa.frozen (p := ⟨w.heap.size, s, none⟩) (by show w.heap.size < _; omega) (fun f => f)
          exact (e1.trans e2).trans f2
        have hxw : Ext w (w'.setCell ⟨w.heap.size, s, none⟩ v') := by
          have a1 : Ext w (w1.alloc (.cells ([k].map natV).toArray inT)) := (HXR.out.ext HX1.out).ext hWa
          have a2 : Ext w w' := a1.next k2 (fun i hi e => by have := (own_in HOW.out e).1; omega)
          exact a2.setCell _ _ (fun h => absurd h (Nat.lt_irrefl _))
        obtain ⟨va, vc, hv', _⟩ := Sl.open (Sl.of_owns h1)
        subst hv'
        have HST := Lib.hid hst
        have HXW := Lib.hid hxw
        clear h1 h1' k2 h3 hst hWa hxw f1 f2
        go_wp2_with (fail)
        go_light
        exact ⟨⟨k + 1, by omega, by go_num, ⟨vs.set s (.slice va (pl.length + 1) vc), by rw [List.length_set]; exact HVL.out, by rw [splL_some hsl HS.out]; exact HST.out⟩, HXW.out⟩, by simp [intOf]; omega⟩
    · have hke : k = xs.length := by omega
      subst hke
      have hsl := HSH.out
      have hrd := HSP.out.read (by rw [HVL.out]; unfold maxLen; omega) HVL.out
      have HRD := Lib.hid hrd
      have HOB : Hid (∀ x ∈ vs, ∀ i, x.ownBlock = some i → w.heap.size ≤ i) := by
        intro x hx i hi
        obtain ⟨j, hj, rfl⟩ := List.getElem_of_mem hx
        have := (own_in (HSP.out.inn j hj (by rw [← HSP.out.len]; exact hj)) hi).1
        omega
      clear hrd
      go_wp2_with (fail)
      go_ret
      exact ⟨vs, rfl, HRD.out, HOB.out, HXR.out⟩
end Go.Proofs.YtmgnndhhpnedkaaGreatDoor

namespace Go.Proofs.YtmgnndhhpnedkaaGreatDoor
open Go.RowKit Av

abbrev rpT : TypeId := 41
abbrev rqT : TypeId := 39
theorem owns_zero {w : World} {base k n : Nat} {e : TypeId} {v : Value} {xs : List Value} (h : w.ownsRow base e k v n xs) : w.ownsRow 0 e k v n xs := by
  obtain ⟨h1, h2 | ⟨g, c, cur, hv, hb, hr⟩⟩ := h
  · exact ⟨h1, .inl h2⟩
  · exact ⟨h1, .inr ⟨g, c, cur, hv, Nat.zero_le _, hr⟩⟩
theorem owns_up {w : World} {base k n : Nat} {e : TypeId} {v : Value} {xs : List Value} (h : w.ownsRow 0 e k v n xs) (hb : ∀ i, v.ownBlock = some i → base ≤ i) : w.ownsRow base e k v n xs := by
  obtain ⟨h1, h2 | ⟨g, c, cur, rfl, _, hr⟩⟩ := h
  · exact ⟨h1, .inl h2⟩
  · exact ⟨h1, .inr ⟨g, c, cur, rfl, hb g rfl, hr⟩⟩
/-- The memory of Make, in its loop. -/
structure MqSt (w wS W : World) (gr g : Nat) (s n : Int) (ov sv plv : Value) (ss : List Nat) (vs : List Value) : Prop where
  bgr : Blk W gr #[.int .i64 0, .int .i64 0, .slice none 0 0, .slice none 0 0, .slice none 0 0] rpT
  blk : Blk W g #[.int .i64 s, .int .i64 n, ov, sv, plv] rpT
  own1 : W.ownsRow wS.heap.size inT 1 sv ss.length (ss.map natV)
  own2 : W.ownsRow wS.heap.size isT 1 plv vs.length vs
  apart : ∀ i, sv.ownBlock = some i → plv.ownBlock ≠ some i
  ext : Ext w W
  kp : Kp (fun i => i = g) wS W
  h1 : w.heap.size ≤ gr
  h2 : gr < g
  h3 : g < wS.heap.size
section
variable {w wS W W1 w' : World} {gr g : Nat} {s n : Int} {ov sv plv v' : Value} {ss : List Nat} {vs : List Value}
theorem MqSt.exts (h : MqSt w wS W gr g s n ov sv plv ss vs) (k : Ext W W1) : MqSt w wS W1 gr g s n ov sv plv ss vs :=
  ⟨h.bgr.kp k (fun f => f), h.blk.kp k (fun f => f), ownsRow.ext h.own1 k, ownsRow.ext h.own2 k, h.apart, h.ext.ext k, h.kp.ext k, h.h1, h.h2, h.h3⟩
theorem MqSt.stepS (h : MqSt w wS W gr g s n ov sv plv ss vs) {k : Nat} (h1 : w'.ownsRow wS.heap.size inT 1 v' (ss.length + 1) (ss.map natV ++ [natV k])) (k2 : Kp (fun i => sv.ownBlock = some i) W w') (h3 : v'.ownBlock = sv.ownBlock ∨ v'.ownBlock = some W.heap.size) :
    MqSt w wS (w'.setCell ⟨g, 3, none⟩ v') gr g s n ov v' plv (ss ++ [k]) vs := by
  have a1 := h.h1; have a2 := h.h2; have a3 := h.h3
  have hk : Kp (fun i => i = g) w' (w'.setCell ⟨g, 3, none⟩ v') := (Kp.refl _ _).set1 g 3 _ rfl
  have ks : Kp (fun i => wS.heap.size ≤ i) W w' := k2.mono fun i _ e => (own_in h.own1 e).1
  have hb : Blk w' g _ rpT := h.blk.kp ks (fun e => by omega)
  refine ⟨(h.bgr.kp ks (fun e => by omega)).kp hk (fun e => by omega), hb.set 3 v', ?_, ?_, fun i hi e => ?_, ?_, ?_, a1, a2, a3⟩
  · rw [List.map_append, List.length_append]
    exact ownsRow.kp h1 hk (fun i hi e => by have := (own_in h1 hi).1; omega)
  · exact ownsRow.kp (ownsRow.kp h.own2 k2 (fun i hi e => h.apart i e hi)) hk (fun i hi e => by have := (own_in h.own2 hi).1; omega)
  · rcases h3 with h3 | h3
    · exact h.apart i (by rw [← h3]; exact hi) e
    · rw [h3] at hi
      have := (own_in h.own2 e).2
      simp only [Option.some.injEq] at hi
      omega
  · have := h.kp.size
    exact (h.ext.next ks (fun i hi e => by have := h.ext.size; omega)).next hk (fun i hi e => by omega)
  · exact (h.kp.next ks (fun i hi e => by omega)).trans hk
theorem MqSt.stepP (h : MqSt w wS W gr g s n ov sv plv ss vs) {y : Value} (h1 : w'.ownsRow wS.heap.size isT 1 v' (vs.length + 1) (vs ++ [y])) (k2 : Kp (fun i => plv.ownBlock = some i) W w') (h3 : ∀ i, v'.ownBlock = some i → plv.ownBlock = some i ∨ W.heap.size ≤ i) :
    MqSt w wS (w'.setCell ⟨g, 4, none⟩ v') gr g s n ov sv v' ss (vs ++ [y]) := by
  have a1 := h.h1; have a2 := h.h2; have a3 := h.h3
  have hk : Kp (fun i => i = g) w' (w'.setCell ⟨g, 4, none⟩ v') := (Kp.refl _ _).set1 g 4 _ rfl
  have ks : Kp (fun i => wS.heap.size ≤ i) W w' := k2.mono fun i _ e => (own_in h.own2 e).1
  have hb : Blk w' g _ rpT := h.blk.kp ks (fun e => by omega)
  refine ⟨(h.bgr.kp ks (fun e => by omega)).kp hk (fun e => by omega), hb.set 4 v', ?_, ?_, fun i hi e => ?_, ?_, ?_, a1, a2, a3⟩
  · exact ownsRow.kp (ownsRow.kp h.own1 k2 (fun i hi e => h.apart i hi e)) hk (fun i hi e => by have := (own_in h.own1 hi).1; omega)
  · rw [List.length_append]
    exact ownsRow.kp h1 hk (fun i hi e => by have := (own_in h1 hi).1; omega)
  · rcases h3 i e with h3 | h3
    · exact h.apart i hi h3
    · have := (own_in h.own1 hi).2
      omega
  · have := h.kp.size
    exact (h.ext.next ks (fun i hi e => by have := h.ext.size; omega)).next hk (fun i hi e => by omega)
  · exact (h.kp.next ks (fun i hi e => by omega)).trans hk
end
theorem MqSt.fin {w wS W : World} {gr g : Nat} {s n : Int} {ov sv plv : Value} {ss : List Nat} {vs : List Value} {xs : List OpV} {pl : List (List Nat)} (h : MqSt w wS W gr g s n ov sv plv ss vs) (hov : OpsAt wS ov xs) (hob : ∀ i, ov.ownBlock = some i → i ≠ g ∧ i ≠ gr) (hl : vs.length = pl.length)
    (hin : ∀ (j : Nat) (h1 : j < vs.length) (h2 : j < pl.length), NatsR wS vs[j] pl[j]) (hng : ∀ x ∈ vs, ∀ i, x.ownBlock = some i → g < i) (u0 u1 u2 u3 u4 : Value) :
    PlanR (((((W.setCell ⟨gr, 0, none⟩ u0).setCell ⟨gr, 1, none⟩ u1).setCell ⟨gr, 2, none⟩ u2).setCell ⟨gr, 3, none⟩ u3).setCell ⟨gr, 4, none⟩ u4) ov sv plv xs ss pl ∧ Ext w (((((W.setCell ⟨gr, 0, none⟩ u0).setCell ⟨gr, 1, none⟩ u1).setCell ⟨gr, 2, none⟩ u2).setCell ⟨gr, 3, none⟩ u3).setCell ⟨gr, 4, none⟩ u4) := by
  have a1 := h.h1; have a2 := h.h2; have a3 := h.h3
  have kr : Kp (fun i => i = gr) W (((((W.setCell ⟨gr, 0, none⟩ u0).setCell ⟨gr, 1, none⟩ u1).setCell ⟨gr, 2, none⟩ u2).setCell ⟨gr, 3, none⟩ u3).setCell ⟨gr, 4, none⟩ u4) :=
    (((((Kp.refl (fun i => i = gr) W).set1 gr 0 u0 rfl).set1 gr 1 u1 rfl).set1 gr 2 u2 rfl).set1 gr 3 u3 rfl).set1 gr 4 u4 rfl
  refine ⟨⟨?_, ?_, vs, hl, ?_, fun j h1 h2 => ?_⟩, ext_set5 h.ext gr a1 u0 u1 u2 u3 u4⟩
  · exact (hov.kp h.kp (fun i hi _ e => (hob i hi).1 e)).kp kr (fun i hi _ e => (hob i hi).2 e)
  · have := ownsRow.kp h.own1 kr (fun i hi e => by have := (own_in h.own1 hi).1; omega)
    exact ⟨Sl.of_owns this, shp_owns this⟩
  · have := ownsRow.kp h.own2 kr (fun i hi e => by have := (own_in h.own2 hi).1; omega)
    exact ⟨Sl.of_owns this, shp_owns this⟩
  · have hx := hng _ (List.getElem_mem h1)
    exact ((hin j h1 h2).kp h.kp (fun i hi e => by have := hx i hi; omega)).kp kr (fun i hi e => by have := hx i hi; omega)
theorem mq_start (w W1 : World) (s n : Int) (v : Value) (h : (w.alloc (.cells #[.int .i64 s, .int .i64 n, v] rqT)).alloc (.cells #[.int .i64 0, .int .i64 0, .slice none 0 0, .slice none 0 0, .slice none 0 0] rpT) = W1) :
    Ext w W1 ∧ Blk W1 w.heap.size #[.int .i64 s, .int .i64 n, v] rqT ∧ Blk W1 (w.heap.size + 1) #[.int .i64 0, .int .i64 0, .slice none 0 0, .slice none 0 0, .slice none 0 0] rpT := by
  subst h
  refine ⟨((Kp.refl _ w).alloc _).alloc _, ?_, ?_⟩
  · have h1 : Blk (w.alloc (.cells #[.int .i64 s, .int .i64 n, v] rqT)) w.heap.size _ _ := heap_alloc_new w _
    exact h1.kp (((Kp.refl (fun _ => False) _)).alloc _) (fun f => f)
  · have := heap_alloc_new (w.alloc (.cells #[.int .i64 s, .int .i64 n, v] rqT)) (.cells #[.int .i64 0, .int .i64 0, .slice none 0 0, .slice none 0 0, .slice none 0 0] rpT)
    rw [World.size_alloc] at this
    exact this
def MqRel (w wS : World) (gr g : Nat) (s n : Int) (ov : Value) (f : Nat → Int) (N sh : Nat) (i : Value) (W : World) : Prop :=
  ∃ k : Nat, k ≤ sh ∧ i = .int .i64 k ∧ ∃ sv plv vs, MqSt w wS W gr g s n ov sv plv (shardsOf f N k) vs ∧ vs.length = (placesOf f N k).length ∧
    (∀ (j : Nat) (h1 : j < vs.length) (h2 : j < (placesOf f N k).length), NatsR wS vs[j] (placesOf f N k)[j]) ∧ (∀ x ∈ vs, ∀ i, x.ownBlock = some i → g < i)
end Go.Proofs.YtmgnndhhpnedkaaGreatDoor

namespace Go.Proofs.YtmgnndhhpnedkaaGreatDoor
open Go.RowKit Av

set_option maxHeartbeats 1600000 in
theorem refMakeBad_any (b : Nat) (s n : Int) (v : Value) (xs : List OpV) (w : World) (ho : OpsAt w v xs) (hsz : OpsSz xs) (hb : mayR s n xs ≠ 0) :
    Calls Tryz.prog 9 #[.pointer (some ⟨b, 0, none⟩), .agg #[.int .i64 s, .int .i64 n, v]] w fun e w' => e = .returned (.tuple #[.agg #[.int .i64 0, .int .i64 0, .slice none 0 0, .slice none 0 0, .slice none 0 0], .int .i64 (mayR s n xs)]) ∧ Ext w w' := by
  have HM := Lib.hid (fun W (k : Ext w W) => refMay_any s n v xs W (ho.ext k) hsz)
  obtain ⟨a, c, rfl, hcc, hm, hop⟩ := OpsAt.open ho
  have hne := mayR_ne hb
  have hne' : ¬ mayR s n xs = 0 := hb
  generalize mayR s n xs = mr at HM hne hne' ⊢
  clear hop hb ho hsz
  obtain ⟨W1, hW1⟩ : ∃ W1, (w.alloc (.cells #[.int .i64 s, .int .i64 n, .slice a xs.length c] rqT)).alloc (.cells #[.int .i64 0, .int .i64 0, .slice none 0 0, .slice none 0 0, .slice none 0 0] rpT) = W1 := ⟨_, rfl⟩
  obtain ⟨hx1, bq, br⟩ := mq_start w W1 s n _ hW1
  have q0 := bq.cell 0 _ rfl
  have q1 := bq.cell 1 _ rfl
  have q2 := bq.cell 2 _ rfl
  have HX1 := Lib.hid hx1
  have HBR := Lib.hid br
  clear hx1 bq br
  go_enter Tryz.func9, Tryz.ntmps9
  go_wp2_with (fail)
  refine (HM.out W1 HX1.out).mono ?_
  rintro e w2 ⟨rfl, hx2⟩
  have br2 := HBR.out.kp hx2 (fun f => f)
  have g0 := br2.cell 0 _ rfl
  have g1 := br2.cell 1 _ rfl
  have g2 := br2.cell 2 _ rfl
  have g3 := br2.cell 3 _ rfl
  have g4 := br2.cell 4 _ rfl
  have p0 := br2.free 0
  have p1 := br2.free 1
  have p2 := br2.free 2
  have p3 := br2.free 3
  have p4 := br2.free 4
  have HF : Hid (∀ u0 u1 u2 u3 u4, Ext w (((((w2.setCell ⟨w.heap.size + 1, 0, none⟩ u0).setCell ⟨w.heap.size + 1, 1, none⟩ u1).setCell ⟨w.heap.size + 1, 2, none⟩ u2).setCell ⟨w.heap.size + 1, 3, none⟩ u3).setCell ⟨w.heap.size + 1, 4, none⟩ u4)) := by
    intro u0 u1 u2 u3 u4
    exact ext_set5 (HX1.out.ext hx2) _ (by omega) u0 u1 u2 u3 u4
  clear hx2 br2
  go_wp2_with (fail)
  go_light
  refine bodyPost_ret (v := .tuple #[.agg #[.int .i64 0, .int .i64 0, .slice none 0 0, .slice none 0 0, .slice none 0 0], .int .i64 mr]) (by simp [results, Tryz.results9, go_sem, g0, g1, g2, g3, g4]) rfl ⟨rfl, HF.out _ _ _ _ _⟩
set_option maxHeartbeats 6400000 in
theorem refMake_any (b sh : Nat) (lv : Value) (mv : Moved) (s n : Int) (v : Value) (xs : List OpV) (w : World) (h : RTab w b sh lv mv) (hok : TabOk sh mv) (ho : OpsAt w v xs) (hsz : OpsSz xs) (hb : mayR s n xs = 0) :
    Calls Tryz.prog 9 #[.pointer (some ⟨b, 0, none⟩), .agg #[.int .i64 s, .int .i64 n, v]] w fun e w' => MakeOk w w' s n xs (fT sh mv xs) sh e ∧ Ext w w' := by
  have HM := Lib.hid (fun W (k : Ext w W) => refMay_any s n v xs W (ho.ext k) hsz)
  rw [hb] at HM
  obtain ⟨hx0, hx16⟩ := mayR_len hb
  have HSPL := Lib.hid (fun W (k : Ext w W) => refSplit_any b sh lv mv v xs W (h.ext k) hok (ho.ext k) hsz (by omega))
  have HOV := Lib.hid ho
  have HSH := Lib.hid (And.intro hok.sh1 hok.sh4)
  obtain ⟨a, c, rfl, _, _, hopn⟩ := OpsAt.open ho
  have HVB : Hid (∀ i, (Value.slice a xs.length c).ownBlock = some i → i < w.heap.size) := by
    intro i hi
    obtain ⟨ob, off, rfl, hb1, _⟩ := hopn (by omega)
    simp only [Value.ownBlock, Option.some.injEq] at hi
    omega
  clear hb ho hsz h hopn hok
  obtain ⟨W1, hW1⟩ : ∃ W1, (w.alloc (.cells #[.int .i64 s, .int .i64 n, .slice a xs.length c] rqT)).alloc (.cells #[.int .i64 0, .int .i64 0, .slice none 0 0, .slice none 0 0, .slice none 0 0] rpT) = W1 := ⟨_, rfl⟩
  obtain ⟨hx1, bq, br⟩ := mq_start w W1 s n _ hW1
  have q0 := bq.cell 0 _ rfl
  have q1 := bq.cell 1 _ rfl
  have q2 := bq.cell 2 _ rfl
  have HX1 := Lib.hid hx1
  have HBR := Lib.hid br
  have HBQ := Lib.hid bq
  clear hx1 bq br
  go_enter Tryz.func9, Tryz.ntmps9
  go_wp2_with (fail)
  refine (HM.out W1 HX1.out).mono ?_
  rintro e w2 ⟨rfl, hx2⟩
  have bq2 := HBQ.out.kp hx2 (fun f => f)
  have q0 := bq2.cell 0 _ rfl
  have q1 := bq2.cell 1 _ rfl
  have q2 := bq2.cell 2 _ rfl
  obtain ⟨w5, hW5⟩ : ∃ w5, w2.alloc (.cells #[.int .i64 s, .int .i64 n, .slice a xs.length c, .slice none 0 0, .slice none 0 0] rpT) = w5 := ⟨_, rfl⟩
  have hx25 : Ext w2 w5 := by rw [← hW5]; exact (Kp.refl _ _).alloc _
  have z1 : w1sz w W1 := by unfold w1sz; rw [← hW1]; simp
  have z2 := hx2.size
  have z5 : w5.heap.size = w2.heap.size + 1 := by rw [← hW5]; simp
  have bg5 : Blk w5 w2.heap.size #[.int .i64 s, .int .i64 n, .slice a xs.length c, .slice none 0 0, .slice none 0 0] rpT := by rw [← hW5]; exact heap_alloc_new w2 _
  have br5 := (HBR.out.kp hx2 (fun f => f)).kp hx25 (fun f => f)
  have bq5 := bq2.kp hx25 (fun f => f)
  have t2 := bq5.cell 2 _ rfl
  have hx5 : Ext w w5 := (HX1.out.ext hx2).ext hx25
  have HX5 := Lib.hid hx5
  have HOV5 := Lib.hid (HOV.out.ext hx5)
  have HBG5 := Lib.hid bg5
  have HBR5 := Lib.hid br5
  have HZ := Lib.hid (And.intro z1 (And.intro z2 z5))
  have HW5 := Lib.hid hW5
  clear hW5 hx2 hx25 bq2 bq5 z1 z2 z5 bg5 br5 hx5
  go_upto_region 5 with (fail)
  rw [HW5.out]
  go_wp2_with (fail)
  refine (HSPL.out w5 HX5.out).mono ?_
  rintro e wS ⟨rows, rfl, hrows, hrnew, hxS⟩
  have HRO := Lib.hid hrows
  have HRN := Lib.hid hrnew
  have HXS := Lib.hid hxS
  clear hrows hrnew hxS
  have hst : MqSt w wS wS (w.heap.size + 1) w2.heap.size s n (.slice a xs.length c) (.slice none 0 0) (.slice none 0 0) (shardsOf (fT sh mv xs) xs.length 0) [] := by
    obtain ⟨z1, z2, z5⟩ := HZ.out
    unfold w1sz at z1
    have z6 := HXS.out.size
    exact ⟨HBR5.out.kp HXS.out (fun f => f), HBG5.out.kp HXS.out (fun f => f), ⟨rfl, .inl ⟨rfl, rfl⟩⟩, ⟨rfl, .inl ⟨rfl, rfl⟩⟩, fun i hi => by simp [Value.ownBlock] at hi, HX5.out.ext HXS.out, Kp.refl _ _, by omega, by omega, by omega⟩
  have HST := Lib.hid hst
  clear hst
  go_wp2_with (fail)
  clear hW1 q0 q1 q2 t2
  go_loopw [9] (fun i W => MqRel w wS (w.heap.size + 1) w2.heap.size s n (.slice a xs.length c) (fT sh mv xs) xs.length sh i W) (fun i _ => sh - (intOf i).toNat)
  case atStart => exact ⟨0, Nat.zero_le _, rfl, _, _, [], HST.out, rfl, fun j h1 => absurd h1 (Nat.not_lt_zero _), fun x hx => by cases hx⟩
  case round =>
    obtain ⟨k, hk, rfl, sv, plv, vs, hst, hvl, hin, hng⟩ := hrel
    clear HST
    have HST := Lib.hid hst
    have HVL := Lib.hid hvl
    have HIN := Lib.hid hin
    have HNG := Lib.hid hng
    clear hst hvl hin hng
    by_cases hlt : k < sh
    · obtain ⟨hkv, ra, rc, hrow, hcell, hnr, hbS⟩ := HRO.out.at k (by rw [splL_len]; exact hlt)
      rw [splL_get] at hrow hcell hnr
      have hcW := HST.out.kp.cell hcell (fun e => by obtain ⟨z1, z2, z5⟩ := HZ.out; simp only at e; omega)
      have HNR := Lib.hid hnr
      have k1 : (k : Int) < sh := by omega
      have hrg : ∀ i, (Value.slice ra (splitTo (fT sh mv xs) xs.length k).length rc).ownBlock = some i → w2.heap.size < i := by
        intro i hi
        obtain ⟨z1, z2, z5⟩ := HZ.out
        have := HRN.out _ (List.getElem_mem hkv) i (by rw [hrow]; exact hi)
        omega
      have HRG := Lib.hid hrg
      have HCS := Lib.hid hcell
      have HRL := Lib.hid hbS
      clear hrow hcell hnr hbS hrg
      obtain ⟨sl, hsl⟩ : ∃ sl, (splitTo (fT sh mv xs) xs.length k).length = sl := ⟨_, rfl⟩
      have HRW := Lib.hid (rfl : (Value.slice ra (splitTo (fT sh mv xs) xs.length k).length rc) = _)
      rw [hsl] at hcW HRG HNR HCS
      clear HRW
      by_cases h0 : splitTo (fT sh mv xs) xs.length k = []
      · have hs0 : sl = 0 := by rw [← hsl, h0]; rfl
        have h1 : ¬ (0 < (sl : Int)) := by omega
        have HR : Hid (MqRel w wS (w.heap.size + 1) w2.heap.size s n (.slice a xs.length c) (fT sh mv xs) xs.length sh (.int .i64 ((k + 1 : Nat) : Int)) wr) :=
          ⟨k + 1, by omega, rfl, sv, plv, vs, by rw [shardsK_none h0]; exact HST.out, by rw [placesK_none h0]; exact HVL.out, by rw [placesK_none h0]; exact HIN.out, HNG.out⟩
        have hk4 : k < 4 := by have := HSH.out; omega
        clear h0 hsl hs0 HST HVL HIN HNG
        go_wp2_with (fail)
        go_light
        exact ⟨HR.out, by simp [intOf]; omega⟩
      · have hs0 : 1 ≤ sl := by rw [← hsl]; exact List.length_pos_iff.2 h0
        have h1 : (0 < (sl : Int)) := by omega
        obtain ⟨a3, c3, rfl⟩ := owns_slice HST.out.own1
        obtain ⟨a4, c4, rfl⟩ := owns_slice HST.out.own2
        have b3 := HST.out.blk.cell 3 _ rfl
        have b4 := HST.out.blk.cell 4 _ rfl
        have f3 := HST.out.blk.free 3
        have f4 := HST.out.blk.free 4
        have hone1 := nat_one [k]
        have HLS : Hid ((shardsOf (fT sh mv xs) xs.length k).length ≤ 1000) := by
          show _ ≤ _
          have := shardsOf_len (fT sh mv xs) xs.length k
          have := HSH.out
          omega
        have HVS : Hid (vs.length ≤ 1000) := by
          show _ ≤ _
          have h2 : (placesOf (fT sh mv xs) xs.length k).length = (shardsOf (fT sh mv xs) xs.length k).length := by simp [placesOf]
          have := HVL.out
          have := HLS.out
          omega
        have H0 := Lib.hid h0
        have HSL := Lib.hid hsl
        obtain ⟨ss, hss⟩ : ∃ ss, shardsOf (fT sh mv xs) xs.length k = ss := ⟨_, rfl⟩
        rw [hss] at HST HLS b3
        have HSS := Lib.hid hss
        have hsz := HST.out.kp.size
        clear h0 hsl hss
        go_wp2_with (at_builtin; refine wpList_appAt isT inT 1 (by decide) is_facts rfl _ _ rfl wS.heap.size _ _ _ rfl (ownsRow.ext HST.out.own1 ((Kp.refl _ wr).alloc _)) wr.heap.size 1 ([k].map natV) rfl (heap_alloc_new wr _) rfl hone1 ?c1 ?c2 ?_)
        case c1 => have := HLS.out; omega
        case c2 => simp; omega
        intro v1 w6 g1 k2 g3
        have hst6 := (HST.out.exts ((Kp.refl _ wr).alloc (.cells ([k].map natV).toArray inT))).stepS (k := k) g1 k2 (by rw [World.size_alloc]; exact g3)
        obtain ⟨a5, c5, rfl⟩ := owns_slice g1
        have hblk6 := (HST.out.exts ((Kp.refl _ wr).alloc (.cells ([k].map natV).toArray inT))).blk.kp k2 (fun e => by have := (own_in HST.out.own1 e).1; have := HST.out.h3; omega)
        have c3' := hblk6.cell 3 _ rfl
        have f3' := hblk6.free 3
        obtain ⟨W2, hW2⟩ : ∃ W2, w6.setCell ⟨w2.heap.size, 3, none⟩ (.slice a5 (ss.length + 1) c5) = W2 := ⟨_, rfl⟩
        rw [hW2] at hst6
        have HST6 := Lib.hid hst6
        have b4' := hst6.blk.cell 4 _ rfl
        have f4' := hst6.blk.free 4
        have hsz2 := hst6.kp.size
        clear g1 k2 g3 hst6 hblk6 b3 b4 f3 f4 HST hcW hone1
        have hone2 : ∀ y ∈ [Value.slice ra sl rc], y.oneCell' = true := by intro y hy; simp only [List.mem_singleton] at hy; subst hy; rfl
        have hn1 : ¬ (W2.heap.size ≤ w2.heap.size ∨ (Value.slice a4 vs.length c4).ownBlock = some w2.heap.size) := fun f => by
          have h3 := HST6.out.h3
          have h4 := HST6.out.kp.size
          rcases f with f | f
          · omega
          · have := (own_in HST6.out.own2 f).1; omega
        have hn2 : ¬ (W2.heap.size ≤ w5.heap.size ∨ (Value.slice a4 vs.length c4).ownBlock = some w5.heap.size) := fun f => by
          have h3 := HRL.out
          have h4 := HST6.out.kp.size
          rcases f with f | f
          · omega
          · have := (own_in HST6.out.own2 f).1; omega
        have HN1 := Lib.hid hn1
        have HN2 := Lib.hid hn2
        have HB6 := Lib.hid HST6.out.blk
        have HC6 := Lib.hid (HST6.out.kp.cell HCS.out (fun e => by obtain ⟨z1, z2, z5⟩ := HZ.out; simp only at e; omega))
        have HO4 := Lib.hid (owns_zero HST6.out.own2)
        have HONE2 := Lib.hid hone2
        have PK : Hid ((0 : Int) ≤ k ∧ (k : Int) < sh) := ⟨by omega, by omega⟩
        clear hn1 hn2 b4' f4' hone2 hsz hsz2
        go_upto_region 11 with (fail)
        clear c3' f3' hW2
        refine' wp_region_dagQ W2.heap.size isT 1 (.slice a4 vs.length c4) vs.length vs 9 [(47, [46], [])] ((40, .val _) :: (41, .val _) :: (42, .val _) :: (43, .val _) :: (44, .val _) :: (45, .val _) :: (46, ⟨fun _ => True, fun v w => BoxL W2.heap.size isT 1 [.slice ra sl rc] v w⟩) :: (47, ⟨fun v => ∃ a c, v = .slice a (vs.length + 1) c, fun v w => w.ownsRow 0 isT 1 v (vs.length + 1) (vs ++ [.slice ra sl rc]) ∧ ∀ i, v.ownBlock = some i → (Value.slice a4 vs.length c4).ownBlock = some i ∨ W2.heap.size ≤ i⟩) :: (48, .val _) :: []) (by exact ⟨fun _ _ _ _ _ => trivial, ⟨fun _ _ _ _ _ => trivial, ⟨fun _ _ _ _ _ => trivial, ⟨fun _ _ _ _ _ => trivial, ⟨fun _ _ _ _ _ => trivial, ⟨fun _ _ _ _ _ => trivial, ⟨fun _ _ _ hr hv => hv.ext hr, ⟨fun _ _ _ hr hv => ⟨ownsRow.ext hv.1 hr, hv.2⟩, ⟨fun _ _ _ _ _ => trivial, trivial⟩⟩⟩⟩⟩⟩⟩⟩⟩) (by kernel_rfl) (by kernel_rfl) (by kernel_rfl) ?_
        rotate_left 7
        simp only [List.take_succ_cons, List.take_zero]
        repeat (first
          | (refine wpD_skipv ?_ ?_ ?_
             focus rfl
             focus rfl
             simp only [Act.put, List.setIfInBounds_toArray, List.set_cons_succ, List.set_cons_zero])
          | (refine' wpD_val (c := _) ?_ (fun w => Rr.refl w) ?_ (fun wq hwq hfq => ?_) ?_
             rotate_left
             focus rfl
             focus rfl
             focus (have b4 := (HB6.out.kp hwq.1 HN1.out).cell 4 _ rfl; have c6 := hwq.1.cell HC6.out HN2.out; have pk := PK.out; go_simp; first | done | rfl)
             simp only [Act.put, List.setIfInBounds_toArray, List.set_cons_succ, List.set_cons_zero])
          | (refine' wpD_con (c := _) ?_ ?_ (fun wq hwq hfq => ?_) ?_
             rotate_left
             focus rfl
             focus rfl
             focus (have b4 := (HB6.out.kp hwq.1 HN1.out).cell 4 _ rfl; have c6 := hwq.1.cell HC6.out HN2.out; have pk := PK.out; go_simp; (try (rw [dUpon_enter])); fail)
             simp only [Act.put, List.setIfInBounds_toArray, List.set_cons_succ, List.set_cons_zero])
          | (refine wpD_made (A := fun _ => True) (V := fun v w => BoxL W2.heap.size isT 1 [.slice ra sl rc] v w) 46 ?_ ?_ ?_ ?_ (fun wq hwq hfq => ?_) (fun v46 h46 => ?_)
             focus rfl
             focus rfl
             focus (exact ⟨undef, trivial⟩)
             focus rfl
             focus (have b4 := (HB6.out.kp hwq.1 HN1.out).cell 4 _ rfl; have c6 := hwq.1.cell HC6.out HN2.out; have pk := PK.out; go_simp; (try (rw [dUpon_enter])); rw [dUpon_value]; exact mPost trivial (BoxL.new hwq.1.size) ((Kp.refl _ _).alloc _))
             clear h46
             simp only [Act.put, List.setIfInBounds_toArray, List.set_cons_succ, List.set_cons_zero])
          | (refine wpD_used (A := fun v => ∃ a c, v = .slice a (vs.length + 1) c) (V := fun v w => w.ownsRow 0 isT 1 v (vs.length + 1) (vs ++ [.slice ra sl rc]) ∧ ∀ i, v.ownBlock = some i → (Value.slice a4 vs.length c4).ownBlock = some i ∨ W2.heap.size ≤ i) 47 ?_ ?_ ?_ ?_ (fun wq hwq hfq => ?_) (fun v47 h47 => ?_)
             focus rfl
             focus rfl
             focus (exact ⟨.slice none (vs.length + 1) 0, _, _, rfl⟩)
             focus rfl
             focus (have b4 := (HB6.out.kp hwq.1 HN1.out).cell 4 _ rfl; have c6 := hwq.1.cell HC6.out HN2.out; have pk := PK.out; refine dUpon_appR (d := 47) rfl (by kernel_rfl) issT isT 1 (by decide) iss_facts rfl _ _ rfl (.slice a4 vs.length c4) vs.length vs rfl (hwq.2 HO4.out) v46 1 [.slice ra sl rc] rfl W2.heap.size (hfq 46 rfl) rfl HONE2.out (by have := HVS.out; omega) (fun v' w' h1 h2 h3 h4 => ⟨owns_slice h1, ⟨h1, fun i hi => ?_⟩, ⟨(Kp.refl (fun i => W2.heap.size ≤ i ∨ (Value.slice a4 vs.length c4).ownBlock = some i) _).grown h2 (fun q hq _ => .inr hq), fun _ => h3⟩, ?_⟩); (rcases h4 with h4 | h4; (focus exact .inl (by rw [← h4]; exact hi)); (rw [h4] at hi; simp only [Option.some.injEq] at hi; right; have := hwq.1.size; omega)); repeat (first | exact PresL.nil | (with_reducible refine PresL.val ?_) | (refine PresL.out rfl ?_) | (refine PresL.keep (fun u hu => hu) ?_)))
             obtain ⟨a47, c47, rfl⟩ := h47
             simp only [Act.put, List.setIfInBounds_toArray, List.set_cons_succ, List.set_cons_zero])
          | fail)
        refine wpD_nil ?_
        intro w7 hr7 hend
        have h47 : w7.ownsRow 0 isT 1 (.slice a47 (vs.length + 1) c47) (vs.length + 1) (vs ++ [.slice ra sl rc]) ∧ ∀ i, (Value.slice a47 (vs.length + 1) c47).ownBlock = some i → (Value.slice a4 vs.length c4).ownBlock = some i ∨ W2.heap.size ≤ i := hend 47 (by kernel_rfl)
        clear hend
        have hown7 : w7.ownsRow wS.heap.size isT 1 (.slice a47 (vs.length + 1) c47) (vs.length + 1) (vs ++ [.slice ra sl rc]) := owns_up h47.1 (fun i hi => by
          rcases h47.2 i hi with h | h
          · exact (own_in HST6.out.own2 h).1
          · have := HST6.out.kp.size; omega)
        have hk7 : Kp (fun i => (Value.slice a4 vs.length c4).ownBlock = some i) W2 w7 := hr7.1.mono (fun i hi e => by
          rcases e with e | e
          · omega
          · exact e)
        have hst7 := HST6.out.stepP (y := Value.slice ra sl rc) hown7 hk7 h47.2
        have hblk7 := HST6.out.blk.kp hk7 (fun e => by have := (own_in HST6.out.own2 e).1; have := HST6.out.h3; omega)
        have c4' := hblk7.cell 4 _ rfl
        have f4'' := hblk7.free 4
        obtain ⟨W3, hW3⟩ : ∃ W3, w7.setCell ⟨w2.heap.size, 4, none⟩ (.slice a47 (vs.length + 1) c47) = W3 := ⟨_, rfl⟩
        rw [hW3] at hst7
        clear hr7 h47 hown7 hk7
        have HR : Hid (MqRel w wS (w.heap.size + 1) w2.heap.size s n (.slice a xs.length c) (fT sh mv xs) xs.length sh (.int .i64 ((k + 1 : Nat) : Int)) W3) := by
          refine ⟨k + 1, by omega, rfl, _, _, vs ++ [Value.slice ra sl rc], by rw [shardsK_some H0.out, HSS.out]; exact hst7, by rw [placesK_some H0.out, List.length_append, List.length_append, HVL.out]; rfl, ?_, ?_⟩
          · rw [placesK_some H0.out]
            intro j h1 h2
            have hl := HVL.out
            by_cases hj : j < vs.length
            · rw [List.getElem_append_left hj, List.getElem_append_left (by omega)]
              exact HIN.out j hj (by omega)
            · rw [List.length_append, List.length_singleton] at h1
              rw [List.getElem_append_right (by omega), List.getElem_append_right (by omega)]
              simp only [List.getElem_singleton]
              exact HNR.out
          · intro x hx i hi
            rcases List.mem_append.1 hx with hx | hx
            · exact HNG.out x hx i hi
            · simp only [List.mem_singleton] at hx
              subst hx
              exact HRG.out i hi
        have hk4 : k < 4 := by have := HSH.out; omega
        clear hst7 hblk7 HST6
        go_wp2_with (fail)
        go_light
        exact ⟨HR.out, by simp [intOf]; omega⟩
    · have hke : k = sh := by have := HSH.out; omega
      have k1 : ¬ (k : Int) < sh := by omega
      have hst := HST.out
      have hvl := HVL.out
      have hin := HIN.out
      rw [hke] at hst hvl hin
      clear HST HVL HIN
      have HST := Lib.hid hst
      have HVL := Lib.hid hvl
      have HIN := Lib.hid hin
      clear hst hvl hin
      clear hke hk hlt HSPL HRO HRN
      obtain ⟨a3, c3, rfl⟩ := owns_slice HST.out.own1
      obtain ⟨a4, c4, rfl⟩ := owns_slice HST.out.own2
      have b0 := HST.out.blk.cell 0 _ rfl
      have b1 := HST.out.blk.cell 1 _ rfl
      have b2 := HST.out.blk.cell 2 _ rfl
      have b3 := HST.out.blk.cell 3 _ rfl
      have b4 := HST.out.blk.cell 4 _ rfl
      have g0 := HST.out.bgr.cell 0 _ rfl
      have g1 := HST.out.bgr.cell 1 _ rfl
      have g2 := HST.out.bgr.cell 2 _ rfl
      have g3 := HST.out.bgr.cell 3 _ rfl
      have g4 := HST.out.bgr.cell 4 _ rfl
      have p0 := HST.out.bgr.free 0
      have p1 := HST.out.bgr.free 1
      have p2 := HST.out.bgr.free 2
      have p3 := HST.out.bgr.free 3
      have p4 := HST.out.bgr.free 4
      have HF := Lib.hid (HST.out.fin (HOV5.out.ext HXS.out) (fun i hi => by
        obtain ⟨z1, z2, z5⟩ := HZ.out
        unfold w1sz at z1
        have := HVB.out i hi
        omega) HVL.out HIN.out HNG.out (.int .i64 s) (.int .i64 n) (.slice a xs.length c) (.slice a3 (shardsOf (fT sh mv xs) xs.length sh).length c3) (.slice a4 vs.length c4))
      clear HST HVL HIN HNG HBG5 HBR5 HOV5 HX5 HXS
      go_wp2_with (fail)
      go_light
      exact bodyPost_ret (v := .tuple #[.agg #[.int .i64 s, .int .i64 n, .slice a xs.length c, .slice a3 (shardsOf (fT sh mv xs) xs.length sh).length c3, .slice a4 vs.length c4], .int .i64 0]) (by simp [results, Tryz.results9, go_sem, g0, g1, g2, g3, g4]) rfl ⟨⟨_, _, _, rfl, HF.out.1⟩, HF.out.2⟩
end Go.Proofs.YtmgnndhhpnedkaaGreatDoor

namespace Go.Proofs.YtmgnndhhpnedkaaGreatDoor
open Go.RowKit Av

/-- What stands before row k: nothing, or row i0's. -/
def selK {α : Type} (i0 k : Nat) (l : List α) : List α := if i0 < k then l else []
theorem selK_no {α : Type} {i0 k : Nat} {l : List α} (h : k ≤ i0) : selK i0 k l = [] := if_neg (by omega)
theorem selK_yes {α : Type} {i0 k : Nat} {l : List α} (h : i0 < k) : selK i0 k l = l := if_pos h
theorem selK_same {α : Type} {i0 k : Nat} {l : List α} (h : k ≠ i0) : selK i0 (k + 1) l = selK i0 k l := by
  unfold selK
  by_cases h1 : i0 < k
  · rw [if_pos h1, if_pos (by omega)]
  · rw [if_neg h1, if_neg (by omega)]
def RoRelO (w1 : World) (os : List OpV) (i0 N : Nat) (v i : Value) (W : World) : Prop :=
  ∃ k : Nat, k ≤ N ∧ i = .int .i64 k ∧ W.ownsRow w1.heap.size opT 5 v (selK i0 k os).length ((selK i0 k os).flatMap OpV.cells) ∧ Ext w1 W
def RoRelI (w1 : World) (xs : List OpV) (l : List Nat) (v j : Value) (W : World) : Prop :=
  ∃ k : Nat, k ≤ l.length ∧ j = .int .i64 k ∧ W.ownsRow w1.heap.size opT 5 v (opsSel xs (l.take k)).length ((opsSel xs (l.take k)).flatMap OpV.cells) ∧ Ext w1 W
set_option maxHeartbeats 6400000 in
theorem refPlanOps_any (s n : Int) (ov sv plv : Value) (xs : List OpV) (ss : List Nat) (pl : List (List Nat)) (i0 : Nat) (w : World) (h : PlanR w ov sv plv xs ss pl) (hl : ss.length = pl.length) (hr : ss.Pairwise (· < ·)) (hin : ∀ l ∈ pl, ∀ k ∈ l, k < xs.length) (h20 : ∀ l ∈ pl, l.length ≤ 20) (h4 : pl.length ≤ 4) (hi : i0 < pl.length) (his : i0 < ss.length) :
    Calls Tryz.prog 17 #[planV s n ov sv plv, .int .i64 (ss[i0] : Int)] w fun e w' => ∃ v, e = .returned v ∧ OpsAt w' v (opsSel xs pl[i0]) ∧ Ext w w' := by
  have HP := Lib.hid h
  have HIN := Lib.hid hin
  have H20 := Lib.hid h20
  have HI := Lib.hid hi
  have HEQ : Hid (∀ k (hk : k < ss.length), (ss[k] : Int) = (ss[i0] : Int) → k = i0) := by
    intro k hk e
    rcases Nat.lt_trichotomy k i0 with h1 | h1 | h1
    · have := List.pairwise_iff_getElem.1 hr k i0 hk his h1; omega
    · exact h1
    · have := List.pairwise_iff_getElem.1 hr i0 k his hk h1; omega
  obtain ⟨⟨a1, c1, rfl⟩, ⟨a2, c2, rfl⟩, a3, c3, rfl⟩ := h.open
  have HLEN := Lib.hid hl
  have HSEL : Hid (pl[i0]? = some pl[i0]) := List.getElem?_eq_getElem hi
  have HX0 : Hid (ss[i0]? = some ss[i0]) := List.getElem?_eq_getElem his
  generalize pl[i0] = l0 at HSEL ⊢
  generalize ss[i0] = x0 at HX0 HEQ ⊢
  clear h hr hin h20
  unfold planV
  rw [hl] at HP ⊢
  clear hl hi his
  obtain ⟨wB, hWB⟩ : ∃ wB, w.alloc (.cells #[.int .i64 s, .int .i64 n, .slice a1 xs.length c1, .slice a2 pl.length c2, .slice a3 pl.length c3] rpT) = wB := ⟨_, rfl⟩
  have hxB : Ext w wB := by rw [← hWB]; exact (Kp.refl _ _).alloc _
  have hbB : Blk wB w.heap.size #[.int .i64 s, .int .i64 n, .slice a1 xs.length c1, .slice a2 pl.length c2, .slice a3 pl.length c3] rpT := by rw [← hWB]; exact heap_alloc_new w _
  have HB := Lib.hid hbB
  have HXB := Lib.hid hxB
  have HPB := Lib.hid (HP.out.ext hxB)
  clear hxB hbB HP
  go_enter Tryz.func17, Tryz.ntmps17
  go_wp2_with (fail)
  clear hWB
  go_loopw [5, 6] (fun v i W => RoRelO wB (opsSel xs l0) i0 pl.length v i W) (fun _ i _ => pl.length - (intOf i).toNat)
  case atStart => exact ⟨0, Nat.zero_le _, rfl, by rw [selK_no (Nat.zero_le _)]; exact ⟨rfl, .inl ⟨rfl, rfl⟩⟩, Kp.refl _ _⟩
  case round =>
    obtain ⟨k, hk, rfl, hown, hxr⟩ := hrel
    obtain ⟨va, vc, rfl⟩ := owns_slice hown
    have HOWN := Lib.hid hown
    have HXR := Lib.hid hxr
    have q3 := (HB.out.kp hxr (fun f => f)).cell 3 _ rfl
    clear hown hxr
    by_cases hlt : k < pl.length
    · have k1 : (k : Int) < pl.length := by omega
      have hlts : k < ss.length := by have := HLEN.out; omega
      obtain ⟨pb, poff, a', c', rfl, hrow, hnr⟩ := HPB.out.row k hlt
      obtain ⟨sa, sc, es, _, _, hso⟩ := HPB.out.shs.open
      simp only [Value.slice.injEq] at es
      obtain ⟨rfl, es2, rfl⟩ := es
      obtain ⟨sb, soff, rfl, _, hsc⟩ := hso (by omega)
      have HSC := Lib.hid (hsc k hlts)
      have hl20 : pl[k].length ≤ 20 := H20.out _ (List.getElem_mem hlt)
      have HROW := Lib.hid hrow
      have HNR := Lib.hid hnr
      have HINL := Lib.hid (HIN.out _ (List.getElem_mem hlt))
      have HEK := Lib.hid (HEQ.out k hlts)
      have HPK : Hid (pl[k]? = some pl[k]) := List.getElem?_eq_getElem hlt
      generalize pl[k] = l at HROW HNR HINL hl20 HPK hrow
      have HXK : Hid (ss[k]? = some ss[k]) := List.getElem?_eq_getElem hlts
      generalize ss[k] = xk' at HSC HEK HXK
      obtain ⟨xk, hxk⟩ : ∃ x : Int, (xk' : Int) = x := ⟨_, rfl⟩
      rw [hxk] at HSC HEK
      have HXKE := Lib.hid hxk
      clear hxk
      have hs4 : (selK i0 k (opsSel xs l0)).length ≤ 1000 ∨ True := .inr trivial
      clear hso hsc es2 hnr hs4
      by_cases hx : xk = (x0 : Int)
      · obtain rfl := HEK.out hx
        have hl0 : l = l0 := by
          have h1 := HPK.out
          have h2 := HSEL.out
          rw [h1] at h2
          exact Option.some.inj h2
        subst hl0
        have e1 : (xk == (x0 : Int)) = true := by rw [beq_iff_eq]; exact hx
        have HO0 : Hid (wr.ownsRow wB.heap.size opT 5 (.slice va (selK k k (opsSel xs l)).length vc) 0 []) := by
          have := HOWN.out
          rw [selK_no (Nat.le_refl _)] at this ⊢
          exact this
        have HZ : Hid ((selK k k (opsSel xs l)).length = 0) := by show _ = _; rw [selK_no (Nat.le_refl _)]; rfl
        rw [HZ.out] at HO0 ⊢
        have HE1 := Lib.hid e1
        clear hx hrow e1
        go_wp2_with (fail)
        clear q3
        go_loopw [5, 7] (fun v j W => RoRelI wB xs l v j W) (fun _ j _ => l.length - (intOf j).toNat)
        case atStart => exact ⟨0, Nat.zero_le _, rfl, HO0.out, HXR.out⟩
        case round =>
          obtain ⟨j, hj, rfl, hown, hxj⟩ := hrel
          obtain ⟨ja, jc, rfl⟩ := owns_slice hown
          have hlen : (opsSel xs (l.take j)).length ≤ j := Nat.le_trans (opsSel_len _ _) (by rw [List.length_take]; omega)
          have HOJ := Lib.hid hown
          have HXJ := Lib.hid hxj
          have hbj := HB.out.kp hxj (fun f => f)
          have b3 := hbj.cell 3 _ rfl
          have b4 := hbj.cell 4 _ rfl
          have HBJ := Lib.hid hbj
          have hrj := hxj.cell HROW.out (fun f => f)
          have sj := hxj.cell HSC.out (fun f => f)
          have hj20 : j ≤ 20 := by omega
          have p1 : (k : Int) < pl.length := by omega
          clear hown hxj hbj
          by_cases hjl : j < l.length
          · have k2 : (j : Int) < l.length := by omega
            have e1 := HE1.out
            obtain ⟨la, lc, e4, _, _, hlo⟩ := HNR.out.open
            simp only [Value.slice.injEq, true_and] at e4
            obtain ⟨rfl, rfl⟩ := e4
            obtain ⟨lb, loff, rfl, hlb, hlcell⟩ := hlo (by omega)
            have HNC := Lib.hid (HXJ.out.cell (hlcell j hjl) (fun f => f))
            have hin := HINL.out l[j] (List.getElem_mem hjl)
            have HN : Hid (opsSel xs (l.take (j + 1)) = opsSel xs (l.take j) ++ [xs[l[j]]]) := opsSel_in hjl hin
            obtain ⟨oa, oc, e5, _, _, hoo⟩ := OpsAt.open HPB.out.ops
            simp only [Value.slice.injEq, true_and] at e5
            obtain ⟨rfl, rfl⟩ := e5
            obtain ⟨ob, ooff, rfl, hob, hoc⟩ := hoo (by omega)
            obtain ⟨o0', o1', o2', o3', o4'⟩ := hoc l[j] hin
            have o0 := HXJ.out.cell o0' (fun f => f)
            have o1 := HXJ.out.cell o1' (fun f => f)
            have o2 := HXJ.out.cell o2' (fun f => f)
            have o3 := HXJ.out.cell o3' (fun f => f)
            have o4 := HXJ.out.cell o4' (fun f => f)
            clear o0' o1' o2' o3' o4'
            have HO1 : Hid (∀ y ∈ xs[l[j]].cells, y.oneCell' = true) := by
              show ∀ _, _
              have := op_one [xs[l[j]]]
              simpa using this
            generalize xs[l[j]] = o at o0 o1 o2 o3 o4 HN HO1
            obtain ⟨kk, p, dd, vv, ff⟩ := o
            simp only at o0 o1 o2 o3 o4
            have HO := Lib.hid (And.intro o0 (And.intro o1 (And.intro o2 (And.intro o3 o4))))
            have P1 : Hid ((0 : Int) ≤ k ∧ (k : Int) < pl.length) := ⟨by omega, by omega⟩
            have P2 : Hid ((0 : Int) ≤ j ∧ (j : Int) < l.length) := ⟨by omega, by omega⟩
            have P3 : Hid ((0 : Int) ≤ (l[j] : Int) ∧ (l[j] : Int) < xs.length) := ⟨by omega, by omega⟩
            generalize l[j] = nv at HNC P3 o0 o1 o2 o3 o4 HO
            have HOZ := Lib.hid (owns_zero HOJ.out)
            have HRJ := Lib.hid hrj
            have HNB : Hid (∀ q, q < wr.heap.size → (q < wB.heap.size) → ¬ (wr.heap.size ≤ q ∨ (Value.slice ja (opsSel xs (l.take j)).length jc).ownBlock = some q)) := fun q h1 h2 f => by
              rcases f with f | f
              · omega
              · have := (own_in HOJ.out f).1; omega
            have HLJ := Lib.hid hlen
            generalize opsSel xs (l.take j) = sel at HN HOJ HOZ HNB HLJ hlen ⊢
            clear hlo hlcell hoo hoc o0 o1 o2 o3 o4 hin
            go_upto_region 8 with (fail)
            have hpb : pb < wB.heap.size := World.block_lt_of_cell? wB _ HROW.out
            have hwB : w.heap.size < wB.heap.size := HB.out.lt
            have hBr := HXJ.out.size
            have N1 := Lib.hid (HNB.out w.heap.size (by omega) hwB)
            have N2 := Lib.hid (HNB.out pb (by omega) hpb)
            have N3 := Lib.hid (HNB.out lb (by omega) hlb)
            have N4 := Lib.hid (HNB.out ob (by omega) hob)
            have hown5 : ∀ y ∈ [Value.int .i64 kk, .string p, .string dd, .int .i64 vv, .int .i64 ff], y.oneCell' = true := HO1.out
            have HONE := Lib.hid hown5
            clear hpb hwB hBr hlb hob HNB hown5 b3 b4 hrj sj p1 k2 e1
            refine' wp_region_dagQ wr.heap.size opT 5 (.slice ja sel.length jc) sel.length (sel.flatMap OpV.cells) 17 [(49, [48], [5])] ((34, .val _) :: (35, .val _) :: (36, .val _) :: (37, .val _) :: (38, .val _) :: (39, .val _) :: (40, .val _) :: (41, .val _) :: (42, .val _) :: (43, .val _) :: (44, .val _) :: (45, .val _) :: (46, .val _) :: (47, .val _) :: (48, ⟨fun _ => True, fun v w => BoxL wr.heap.size opT 1 [.int .i64 kk, .string p, .string dd, .int .i64 vv, .int .i64 ff] v w⟩) :: (49, ⟨fun v => ∃ a c, v = .slice a (sel.length + 1) c, fun v w => w.ownsRow 0 opT 5 v (sel.length + 1) (sel.flatMap OpV.cells ++ [.int .i64 kk, .string p, .string dd, .int .i64 vv, .int .i64 ff]) ∧ ∀ i, v.ownBlock = some i → (Value.slice ja sel.length jc).ownBlock = some i ∨ wr.heap.size ≤ i⟩) :: (5, ⟨fun v => ∃ a c, v = .slice a (sel.length + 1) c, fun v w => w.ownsRow 0 opT 5 v (sel.length + 1) (sel.flatMap OpV.cells ++ [.int .i64 kk, .string p, .string dd, .int .i64 vv, .int .i64 ff]) ∧ ∀ i, v.ownBlock = some i → (Value.slice ja sel.length jc).ownBlock = some i ∨ wr.heap.size ≤ i⟩) :: []) (by exact ⟨fun _ _ _ _ _ => trivial, ⟨fun _ _ _ _ _ => trivial, ⟨fun _ _ _ _ _ => trivial, ⟨fun _ _ _ _ _ => trivial, ⟨fun _ _ _ _ _ => trivial, ⟨fun _ _ _ _ _ => trivial, ⟨fun _ _ _ _ _ => trivial, ⟨fun _ _ _ _ _ => trivial, ⟨fun _ _ _ _ _ => trivial, ⟨fun _ _ _ _ _ => trivial, ⟨fun _ _ _ _ _ => trivial, ⟨fun _ _ _ _ _ => trivial, ⟨fun _ _ _ _ _ => trivial, ⟨fun _ _ _ _ _ => trivial, ⟨fun _ _ _ hr hv => hv.ext hr, ⟨fun _ _ _ hr hv => ⟨ownsRow.ext hv.1 hr, hv.2⟩, ⟨fun _ _ _ hr hv => ⟨ownsRow.ext hv.1 hr, hv.2⟩, trivial⟩⟩⟩⟩⟩⟩⟩⟩⟩⟩⟩⟩⟩⟩⟩⟩⟩) (by kernel_rfl) (by kernel_rfl) (by kernel_rfl) ?_
            rotate_left 14
            simp only [List.take_succ_cons, List.take_zero]
            repeat (first
              | (refine wpD_skipv ?_ ?_ ?_
                 focus rfl
                 focus rfl
                 simp only [Act.put, List.setIfInBounds_toArray, List.set_cons_succ, List.set_cons_zero])
              | (refine' wpD_val (c := _) ?_ (fun w => Rr.refl w) ?_ (fun wq hwq hfq => ?_) ?_
                 rotate_left
                 focus rfl
                 focus rfl
                 focus (have b2 := (HBJ.out.kp hwq.1 N1.out).cell 2 _ rfl; have b4 := (HBJ.out.kp hwq.1 N1.out).cell 4 _ rfl; have hr := hwq.1.cell HRJ.out N2.out; have nc := hwq.1.cell HNC.out N3.out; have o0 := hwq.1.cell HO.out.1 N4.out; have o1 := hwq.1.cell HO.out.2.1 N4.out; have o2 := hwq.1.cell HO.out.2.2.1 N4.out; have o3 := hwq.1.cell HO.out.2.2.2.1 N4.out; have o4 := hwq.1.cell HO.out.2.2.2.2 N4.out; have p1 := P1.out; have p2 := P2.out; have p3 := P3.out; go_simp; first | done | rfl)
                 simp only [Act.put, List.setIfInBounds_toArray, List.set_cons_succ, List.set_cons_zero])
              | (refine' wpD_con (c := _) ?_ ?_ (fun wq hwq hfq => ?_) ?_
                 rotate_left
                 focus rfl
                 focus rfl
                 focus (have b2 := (HBJ.out.kp hwq.1 N1.out).cell 2 _ rfl; have b4 := (HBJ.out.kp hwq.1 N1.out).cell 4 _ rfl; have hr := hwq.1.cell HRJ.out N2.out; have nc := hwq.1.cell HNC.out N3.out; have o0 := hwq.1.cell HO.out.1 N4.out; have o1 := hwq.1.cell HO.out.2.1 N4.out; have o2 := hwq.1.cell HO.out.2.2.1 N4.out; have o3 := hwq.1.cell HO.out.2.2.2.1 N4.out; have o4 := hwq.1.cell HO.out.2.2.2.2 N4.out; have p1 := P1.out; have p2 := P2.out; have p3 := P3.out; go_simp; (try (rw [dUpon_enter])); fail)
                 simp only [Act.put, List.setIfInBounds_toArray, List.set_cons_succ, List.set_cons_zero])
              | (refine wpD_made (A := fun _ => True) (V := fun v w => BoxL wr.heap.size opT 1 [.int .i64 kk, .string p, .string dd, .int .i64 vv, .int .i64 ff] v w) 48 ?_ ?_ ?_ ?_ (fun wq hwq hfq => ?_) (fun v48 h48 => ?_)
                 focus rfl
                 focus rfl
                 focus (exact ⟨undef, trivial⟩)
                 focus rfl
                 focus (have b2 := (HBJ.out.kp hwq.1 N1.out).cell 2 _ rfl; have b4 := (HBJ.out.kp hwq.1 N1.out).cell 4 _ rfl; have hr := hwq.1.cell HRJ.out N2.out; have nc := hwq.1.cell HNC.out N3.out; have o0 := hwq.1.cell HO.out.1 N4.out; have o1 := hwq.1.cell HO.out.2.1 N4.out; have o2 := hwq.1.cell HO.out.2.2.1 N4.out; have o3 := hwq.1.cell HO.out.2.2.2.1 N4.out; have o4 := hwq.1.cell HO.out.2.2.2.2 N4.out; have p1 := P1.out; have p2 := P2.out; have p3 := P3.out; go_simp; (try (rw [dUpon_enter])); rw [dUpon_value]; exact mPost trivial (BoxL.new hwq.1.size) ((Kp.refl _ _).alloc _))
                 clear h48
                 simp only [Act.put, List.setIfInBounds_toArray, List.set_cons_succ, List.set_cons_zero])
              | (refine wpD_used (A := fun v => ∃ a c, v = .slice a (sel.length + 1) c) (V := fun v w => w.ownsRow 0 opT 5 v (sel.length + 1) (sel.flatMap OpV.cells ++ [.int .i64 kk, .string p, .string dd, .int .i64 vv, .int .i64 ff]) ∧ ∀ i, v.ownBlock = some i → (Value.slice ja sel.length jc).ownBlock = some i ∨ wr.heap.size ≤ i) 49 ?_ ?_ ?_ ?_ (fun wq hwq hfq => ?_) (fun v49 h49 => ?_)
                 focus rfl
                 focus rfl
                 focus (exact ⟨.slice none (sel.length + 1) 0, _, _, rfl⟩)
                 focus rfl
                 focus (have b2 := (HBJ.out.kp hwq.1 N1.out).cell 2 _ rfl; have b4 := (HBJ.out.kp hwq.1 N1.out).cell 4 _ rfl; have hr := hwq.1.cell HRJ.out N2.out; have nc := hwq.1.cell HNC.out N3.out; have o0 := hwq.1.cell HO.out.1 N4.out; have o1 := hwq.1.cell HO.out.2.1 N4.out; have o2 := hwq.1.cell HO.out.2.2.1 N4.out; have o3 := hwq.1.cell HO.out.2.2.2.1 N4.out; have o4 := hwq.1.cell HO.out.2.2.2.2 N4.out; have p1 := P1.out; have p2 := P2.out; have p3 := P3.out; refine dUpon_appR (d := 49) rfl (by kernel_rfl) opsT opT 5 (by decide) op_facts rfl _ _ rfl (.slice ja sel.length jc) sel.length (sel.flatMap OpV.cells) rfl (hwq.2 HOZ.out) v48 1 [.int .i64 kk, .string p, .string dd, .int .i64 vv, .int .i64 ff] rfl wr.heap.size (hfq 48 rfl) rfl HONE.out (by have := HLJ.out; omega) (fun v' w' h1 h2 h3 h4 => ⟨owns_slice h1, ⟨h1, fun i hi => ?_⟩, ⟨(Kp.refl (fun i => wr.heap.size ≤ i ∨ (Value.slice ja sel.length jc).ownBlock = some i) _).grown h2 (fun q hq _ => .inr hq), fun _ => h3⟩, ?_⟩); (rcases h4 with h4 | h4; (focus exact .inl (by rw [← h4]; exact hi)); (rw [h4] at hi; simp only [Option.some.injEq] at hi; right; have := hwq.1.size; omega)); repeat (first | exact PresL.nil | (with_reducible refine PresL.val ?_) | (refine PresL.out rfl ?_) | (refine PresL.keep (fun u hu => hu) ?_)))
                 obtain ⟨a49, c49, rfl⟩ := h49
                 simp only [Act.put, List.setIfInBounds_toArray, List.set_cons_succ, List.set_cons_zero])
              | (refine wpD_made (A := fun v => ∃ a c, v = .slice a (sel.length + 1) c) (V := fun v w => w.ownsRow 0 opT 5 v (sel.length + 1) (sel.flatMap OpV.cells ++ [.int .i64 kk, .string p, .string dd, .int .i64 vv, .int .i64 ff]) ∧ ∀ i, v.ownBlock = some i → (Value.slice ja sel.length jc).ownBlock = some i ∨ wr.heap.size ≤ i) 5 ?_ ?_ ?_ ?_ (fun wq hwq hfq => ?_) (fun v5 h5 => ?_)
                 focus rfl
                 focus rfl
                 focus (exact ⟨.slice none (sel.length + 1) 0, _, _, rfl⟩)
                 focus rfl
                 focus (have b2 := (HBJ.out.kp hwq.1 N1.out).cell 2 _ rfl; have b4 := (HBJ.out.kp hwq.1 N1.out).cell 4 _ rfl; have hr := hwq.1.cell HRJ.out N2.out; have nc := hwq.1.cell HNC.out N3.out; have o0 := hwq.1.cell HO.out.1 N4.out; have o1 := hwq.1.cell HO.out.2.1 N4.out; have o2 := hwq.1.cell HO.out.2.2.1 N4.out; have o3 := hwq.1.cell HO.out.2.2.2.1 N4.out; have o4 := hwq.1.cell HO.out.2.2.2.2 N4.out; have p1 := P1.out; have p2 := P2.out; have p3 := P3.out; go_simp; (try (rw [dUpon_enter])); rw [dUpon_value]; exact mPost ⟨_, _, rfl⟩ (hfq 49 rfl) (Kp.refl _ _))
                 obtain ⟨a5, c5, rfl⟩ := h5
                 simp only [Act.put, List.setIfInBounds_toArray, List.set_cons_succ, List.set_cons_zero])
              | fail)
            refine wpD_nil ?_
            intro w7 hr7 hend
            have h49 : w7.ownsRow 0 opT 5 (.slice a5 (sel.length + 1) c5) (sel.length + 1) (sel.flatMap OpV.cells ++ [.int .i64 kk, .string p, .string dd, .int .i64 vv, .int .i64 ff]) ∧ ∀ i, (Value.slice a5 (sel.length + 1) c5).ownBlock = some i → (Value.slice ja sel.length jc).ownBlock = some i ∨ wr.heap.size ≤ i := hend 5 (by kernel_rfl)
            clear hend
            have hown7 : w7.ownsRow wB.heap.size opT 5 (.slice a5 (sel.length + 1) c5) (sel.length + 1) (sel.flatMap OpV.cells ++ [.int .i64 kk, .string p, .string dd, .int .i64 vv, .int .i64 ff]) := owns_up h49.1 (fun i hi => by
              rcases h49.2 i hi with h | h
              · exact (own_in HOJ.out h).1
              · have := HXJ.out.size; omega)
            have hx7 : Ext wB w7 := HXJ.out.next hr7.1 (fun i hi e => by
              rcases e with e | e
              · have := HXJ.out.size; omega
              · have := (own_in HOJ.out e).1; omega)
            have HOW7 := Lib.hid hown7
            have HX7 := Lib.hid hx7
            clear hown7 hx7 hr7 h49 hlen
            rename_i hK
            go_wp2_with (fail)
            refine hK _ _ ?_
            go_wp2_with (fail)
            go_light
            exact ⟨⟨j + 1, by omega, by go_num, by rw [HN.out, flatMap_snoc, List.length_append]; exact HOW7.out, HX7.out⟩, by simp [intOf]; omega⟩
          · have hje : j = l.length := by omega
            have k2 : ¬ (j : Int) < l.length := by omega
            have HF2 : Hid (wr.ownsRow wB.heap.size opT 5 (.slice ja (opsSel xs (l.take j)).length jc) (selK k (k + 1) (opsSel xs l)).length ((selK k (k + 1) (opsSel xs l)).flatMap OpV.cells)) := by
              have ho := HOJ.out
              rw [selK_yes (by omega)]
              rw [hje, List.take_of_length_le (Nat.le_refl _)] at ho ⊢
              exact ho
            generalize (opsSel xs (l.take j)).length = z at HF2 ⊢
            clear hje hjl HOJ hlen
            go_wp2_with (fail)
            go_light
            exact ⟨⟨k + 1, by omega, by go_num, HF2.out, HXJ.out⟩, by simp [intOf]; omega⟩
      · have e1 : (xk == (x0 : Int)) = false := beq_eq_false_iff_ne.2 hx
        have HE1 := Lib.hid e1
        have hki : k ≠ i0 := fun e => hx (by
          subst e
          have h1 := HX0.out
          have h2 := HXK.out
          rw [h1] at h2
          rw [← HXKE.out, ← Option.some.inj h2])
        have HSN : Hid (selK i0 (k + 1) (opsSel xs l0) = selK i0 k (opsSel xs l0)) := selK_same hki
        generalize selK i0 k (opsSel xs l0) = sel at HSN HOWN ⊢
        have q4 := (HB.out.kp HXR.out (fun f => f)).cell 4 _ rfl
        have sj := HXR.out.cell HSC.out (fun f => f)
        have hrj := HXR.out.cell HROW.out (fun f => f)
        have k0 : (0 : Int) < l.length ∨ ¬ (0 : Int) < l.length := by omega
        clear hx hki hrow
        go_wp2_with (fail)
        go_loopw [5, 7] (fun v j W => j = .int .i64 0 ∧ v = .slice va sel.length vc ∧ W = wr) (fun _ j _ => 0)
        case atStart => exact ⟨rfl, rfl, rfl⟩
        case round =>
          obtain ⟨rfl, rfl, rfl⟩ := hrel
          rcases k0 with k0 | k0
          all_goals
            go_wp2_with (fail)
            go_light
            exact ⟨⟨k + 1, by omega, by go_num, by rw [HSN.out]; exact HOWN.out, HXR.out⟩, by simp [intOf]; omega⟩
    · have hke : k = pl.length := by omega
      have k1 : ¬ (k : Int) < pl.length := by omega
      have HF : Hid (OpsAt wr (.slice va (selK i0 k (opsSel xs l0)).length vc) (opsSel xs l0)) := by
        have ho := HOWN.out
        rw [selK_yes (by have := HI.out; omega)] at ho ⊢
        exact ⟨Sl.of_owns ho, shp_owns ho⟩
      generalize (selK i0 k (opsSel xs l0)).length = z at HF
      clear hke hlt HOWN
      go_wp2_with (fail)
      go_ret
      exact ⟨_, rfl, HF.out, HXB.out.ext HXR.out⟩
end Go.Proofs.YtmgnndhhpnedkaaGreatDoor

namespace Go.Proofs.YtmgnndhhpnedkaaGreatDoor
open Go.RowKit Av

abbrev rvT : TypeId := 49
def RvA (vs : List VoteV) (b c i : Value) : Prop :=
  ∃ k : Nat, k ≤ vs.length ∧ i = .int .i64 k ∧ b = .bool ((vs.take k).any fun v => decide (v.err = 12)) ∧ c = .bool ((vs.take k).any fun v => decide (v.err ≠ 0))
def RvB (wB : World) (pl : List (List Nat)) (bz : Bool) (vs : List VoteV) (e a i : Value) (W : World) : Prop :=
  ∃ k : Nat, k ≤ vs.length ∧ i = .int .i64 k ∧ a = .int .i64 (rvTo pl bz vs k).1 ∧ e = .int .i64 (rvTo pl bz vs k).2 ∧ Ext wB W
theorem busy_all (vs : List VoteV) : (vs.any fun v => decide (v.err = 12)) = busyV vs := rfl
set_option maxRecDepth 8000 in
set_option maxHeartbeats 6400000 in
theorem refVerdict_any (s n : Int) (ov sv plv v : Value) (xs : List OpV) (ss : List Nat) (pl : List (List Nat)) (vs : List VoteV) (w : World) (h : PlanR w ov sv plv xs ss pl) (hl : ss.length = pl.length) (hv : VotesAt w v vs) (hlt1 : ∀ l ∈ pl, ∀ k ∈ l, k < 1000) :
    Calls Tryz.prog 14 #[planV s n ov sv plv, v] w fun r w' => r = .returned (.tuple #[.int .i64 (verdict pl vs).1, .int .i64 (verdict pl vs).2]) ∧ Ext w w' := by
  obtain ⟨⟨a1, c1, rfl⟩, ⟨a2, c2, rfl⟩, a3, c3, rfl⟩ := h.open
  obtain ⟨va, vc, rfl, hcc, hm, hop⟩ := VotesAt.open hv
  unfold maxLen at hm
  have HLT := Lib.hid hlt1
  have HP := Lib.hid h
  have HO := Lib.hid hop
  unfold planV
  rw [hl] at HP ⊢
  clear h hv hop hlt1
  obtain ⟨wB, hWB⟩ : ∃ wB, w.alloc (.cells #[.int .i64 s, .int .i64 n, .slice a1 xs.length c1, .slice a2 pl.length c2, .slice a3 pl.length c3] rpT) = wB := ⟨_, rfl⟩
  have hxB : Ext w wB := by rw [← hWB]; exact (Kp.refl _ _).alloc _
  have hbB : Blk wB w.heap.size #[.int .i64 s, .int .i64 n, .slice a1 xs.length c1, .slice a2 pl.length c2, .slice a3 pl.length c3] rpT := by rw [← hWB]; exact heap_alloc_new w _
  have HB := Lib.hid hbB
  have HXB := Lib.hid hxB
  have HPB := Lib.hid (HP.out.ext hxB)
  have q3 := hbB.cell 3 _ rfl
  clear hxB hbB hl
  by_cases hne : vs.length = pl.length
  · have HV : Hid (verdict pl vs = verdTo pl (busyV vs) vs vs.length) := by show _ = _; unfold verdict; rw [if_neg (by omega)]
    have e1 : ((vs.length : Int) = (pl.length : Int)) := by omega
    have HNE := Lib.hid hne
    clear hne
    go_enter Tryz.func14, Tryz.ntmps14
    go_wp2_with (fail)
    clear e1 hWB q3
    go_loop [6, 7, 8] (fun b c i => RvA vs b c i) (fun _ _ i => vs.length - (intOf i).toNat)
    case atStart => exact ⟨0, Nat.zero_le _, rfl, rfl, rfl⟩
    case round =>
      obtain ⟨k, hk, rfl, rfl, rfl⟩ := hrel
      by_cases hlt : k < vs.length
      · have k1 : (k : Int) < vs.length := by omega
        obtain ⟨b, off, rfl, _, hc⟩ := HO.out (by omega)
        obtain ⟨c0', _⟩ := hc k hlt
        have c0 := HXB.out.cell c0' (fun f => f)
        have HA1 := Lib.hid (any_snoc hlt (fun v : VoteV => decide (v.err = 12)))
        have HA2 := Lib.hid (any_snoc hlt (fun v : VoteV => decide (v.err ≠ 0)))
        generalize ((vs.take k).any fun v : VoteV => decide (v.err = 12)) = b1 at HA1 ⊢
        generalize ((vs.take k).any fun v : VoteV => decide (v.err ≠ 0)) = b2 at HA2 ⊢
        generalize vs[k].err = er at c0 HA1 HA2
        clear hc c0'
        have t1 : ((er : Int) == 12) = decide (er = 12) := by rw [Bool.eq_iff_iff]; simp
        have t2 : (er != 0) = !decide (er = 0) := by rw [Bool.eq_iff_iff]; simp
        cases b1 <;> cases b2
        all_goals
          go_wp2_with (fail)
          go_light
          refine ⟨⟨k + 1, by omega, by go_num, ?_, ?_⟩, by simp [intOf]; omega⟩
          · rw [HA1.out]; first | rfl | (simp; done)
          · rw [HA2.out]; first | rfl | (simp; done) | (simp; exact t2)
      · have hke : k = vs.length := by omega
        rw [hke, List.take_length, busy_all]
        rw [show (vs.any fun v => decide (v.err ≠ 0)) = badV vs from rfl]
        have k1 : ¬ (k : Int) < vs.length := by omega
        have HHI := Lib.hid hke
        cases hbv : badV vs with
        | false =>
          have HG := Lib.hid (rv_good HLT.out vs hbv)
          have HV2 : Hid (verdict pl vs = (0, -1)) := by show _ = _; rw [HV.out, HG.out]
          clear hbv hke hlt
          go_wp2_with (fail)
          go_ret2
          go_light
          rw [HV2.out]
          exact ⟨rfl, HXB.out⟩
        | true =>
          have HG := Lib.hid (rv_bad HLT.out vs hbv)
          have HV2 : Hid (verdict pl vs = rvTo pl (busyV vs) vs vs.length) := by show _ = _; rw [HV.out, HG.out]
          generalize busyV vs = bz at HV2 ⊢
          clear hbv hke hlt HG HV
          go_wp2_with (fail)
          clear k1 HHI
          go_loopw [9, 10, 11] (fun e a i W => RvB wB pl bz vs e a i W) (fun _ _ i _ => vs.length - (intOf i).toNat)
          case atStart => exact ⟨0, Nat.zero_le _, rfl, rfl, rfl, Kp.refl _ _⟩
          case round =>
            obtain ⟨j, hj, rfl, rfl, rfl, hxr⟩ := hrel
            have HXR := Lib.hid hxr
            by_cases hlt : j < vs.length
            · have k1 : (j : Int) < vs.length := by omega
              have hjp : j < pl.length := by have := HNE.out; omega
              obtain ⟨b, off, rfl, _, hc⟩ := HO.out (by omega)
              obtain ⟨c0', c1'⟩ := hc j hlt
              have c0 := (HXB.out.ext hxr).cell c0' (fun f => f)
              have c1 := (HXB.out.ext hxr).cell c1' (fun f => f)
              have HST := Lib.hid (rvTo_step (pl := pl) (bz := bz) hlt)
              obtain ⟨⟨er, at_⟩, hvk⟩ : ∃ x, vs[j] = x := ⟨_, rfl⟩
              rw [hvk] at HST c0 c1
              simp only at c0 c1
              obtain ⟨⟨ve, va'⟩, hve⟩ : ∃ x, rvTo pl bz vs j = x := ⟨_, rfl⟩
              rw [hve] at HST
              rw [hve]
              simp only
              obtain ⟨pb, poff, a', c', rfl, hrow, hnr⟩ := HPB.out.row j hjp
              have HROW := Lib.hid (hxr.cell hrow (fun f => f))
              have HNR := Lib.hid (hnr.ext hxr)
              have HB4 := Lib.hid ((HB.out.kp hxr (fun f => f)).cell 4 _ rfl)
              have HPL : Hid (placeOf pl j ⟨er, at_⟩ = if at_ < 0 ∨ (pl[j].length : Int) ≤ at_ then -1 else ((pl[j].getD at_.toNat 0 : Nat) : Int)) := by
                show _ = _
                unfold placeOf
                have e : pl.getD j [] = pl[j] := by simp [List.getD, List.getElem?_eq_getElem hjp]
                simp only [e]
              have P1 : Hid ((0 : Int) ≤ j ∧ (j : Int) < vs.length ∧ (j : Int) < pl.length) := ⟨by omega, by omega, by omega⟩
              generalize pl[j] = l at HROW HNR HPL
              have HC0 := Lib.hid c0
              have HC1 := Lib.hid c1
              clear hc c0' c1' hvk hve hrow hnr hxr
              by_cases hs : skipV bz ⟨er, at_⟩
              · have HE : Hid (rvTo pl bz vs (j + 1) = (ve, va')) := by show _ = _; rw [HST.out]; unfold rvStep; exact if_pos hs
                clear HST
                unfold skipV at hs
                simp only at hs
                by_cases h0 : er = 0
                · have e0 : (er == 0) = true := by rw [beq_iff_eq]; exact h0
                  clear hs
                  go_wp2_with (fail)
                  go_light
                  exact ⟨⟨j + 1, by omega, by go_num, by rw [HE.out], by rw [HE.out], HXR.out⟩, by simp [intOf]; omega⟩
                · have e0 : (er == 0) = false := beq_eq_false_iff_ne.2 h0
                  obtain ⟨rfl, h12⟩ := hs.resolve_left h0
                  have e12 : ¬ er = 12 := h12
                  clear hs
                  go_wp2_with (fail)
                  go_light
                  exact ⟨⟨j + 1, by omega, by go_num, by rw [HE.out], by rw [HE.out], HXR.out⟩, by simp [intOf]; omega⟩
              · have HE : Hid (rvTo pl bz vs (j + 1) = if placeOf pl j ⟨er, at_⟩ < va' then (er, placeOf pl j ⟨er, at_⟩) else (ve, va')) := by show _ = _; rw [HST.out]; unfold rvStep; exact if_neg hs
                have h0 : ¬ er = 0 := fun e => hs (.inl e)
                have e0 : (er == 0) = false := beq_eq_false_iff_ne.2 h0
                have hbc : bz = false ∨ (bz = true ∧ er = 12) := by
                  cases hb : bz
                  · exact .inl rfl
                  · refine .inr ⟨rfl, ?_⟩
                    by_cases h : er = 12
                    · exact h
                    · exact absurd (.inr ⟨hb, h⟩) hs
                clear hs e0 c1 HST
                have e0 : (er == 0) = false := beq_eq_false_iff_ne.2 h0
                by_cases ha : at_ < 0
                · have HP0 : Hid (placeOf pl j ⟨er, at_⟩ = -1) := by show _ = _; rw [HPL.out]; exact if_pos (.inl ha)
                  rw [HP0.out] at HE
                  have G1 : Hid (¬ (0 : Int) ≤ at_ ∧ decide ((0 : Int) ≤ at_) = false) := ⟨by omega, decide_eq_false (by omega)⟩
                  by_cases hp : (-1 : Int) < va'
                  · have HE2 : Hid (rvTo pl bz vs (j + 1) = (er, (-1 : Int))) := by show _ = _; rw [HE.out]; exact if_pos hp
                    clear HE
                    rcases hbc with rfl | ⟨rfl, rfl⟩
                    all_goals
                      go_upto_region 17 with (fail)
                      refine' wp_region_dag0 ((68, .val _) :: (69, .val _) :: (70, .val _) :: (71, .val _) :: (72, .val _) :: (73, .val _) :: (74, .val _) :: (75, .val _) :: (76, .val _) :: (77, .val _) :: (78, .val _) :: (79, .val _) :: (80, .val _) :: (81, .val _) :: (82, .val _) :: (83, .val _) :: (84, .val _) :: (85, .val _) :: (86, .val _) :: (87, .val _) :: []) (by exact ⟨fun _ _ _ _ _ => trivial, ⟨fun _ _ _ _ _ => trivial, ⟨fun _ _ _ _ _ => trivial, ⟨fun _ _ _ _ _ => trivial, ⟨fun _ _ _ _ _ => trivial, ⟨fun _ _ _ _ _ => trivial, ⟨fun _ _ _ _ _ => trivial, ⟨fun _ _ _ _ _ => trivial, ⟨fun _ _ _ _ _ => trivial, ⟨fun _ _ _ _ _ => trivial, ⟨fun _ _ _ _ _ => trivial, ⟨fun _ _ _ _ _ => trivial, ⟨fun _ _ _ _ _ => trivial, ⟨fun _ _ _ _ _ => trivial, ⟨fun _ _ _ _ _ => trivial, ⟨fun _ _ _ _ _ => trivial, ⟨fun _ _ _ _ _ => trivial, ⟨fun _ _ _ _ _ => trivial, ⟨fun _ _ _ _ _ => trivial, ⟨fun _ _ _ _ _ => trivial, trivial⟩⟩⟩⟩⟩⟩⟩⟩⟩⟩⟩⟩⟩⟩⟩⟩⟩⟩⟩⟩) (by kernel_rfl) (by kernel_rfl) (by kernel_rfl) ?_
                      rotate_left 20
                      repeat (first
                        | (refine wpD_skipv ?_ ?_ ?_
                           focus rfl
                           focus rfl
                           simp only [Act.put, List.setIfInBounds_toArray, List.set_cons_succ, List.set_cons_zero])
                        | (refine' wpD_val (c := _) ?_ (fun w => Kp.refl _ w) ?_ (fun wq hwq hfq => ?_) ?_
                           rotate_left
                           focus rfl
                           focus rfl
                           focus ((have d0 := hwq.cell HC0.out (fun f => f); have d1 := hwq.cell HC1.out (fun f => f); have b4 := hwq.cell HB4.out (fun f => f); have hr := hwq.cell HROW.out (fun f => f); obtain ⟨p1, p2, p3⟩ := P1.out; obtain ⟨g1, g2⟩ := G1.out); go_simp; first | done | rfl)
                           simp only [Act.put, List.setIfInBounds_toArray, List.set_cons_succ, List.set_cons_zero])
                        | (refine' wpD_con (c := _) ?_ ?_ (fun wq hwq hfq => ?_) ?_
                           rotate_left
                           focus rfl
                           focus rfl
                           focus ((have d0 := hwq.cell HC0.out (fun f => f); have d1 := hwq.cell HC1.out (fun f => f); have b4 := hwq.cell HB4.out (fun f => f); have hr := hwq.cell HROW.out (fun f => f); obtain ⟨p1, p2, p3⟩ := P1.out; obtain ⟨g1, g2⟩ := G1.out); go_simp; (try (rw [dUpon_enter])); fail)
                           simp only [Act.put, List.setIfInBounds_toArray, List.set_cons_succ, List.set_cons_zero])
                        | fail)
                      refine wpD_nil ?_
                      intro w5 hx5 hend
                      clear hend
                      have HX5 := Lib.hid hx5
                      clear hx5
                      have HC0' := Lib.hid (HX5.out.cell HC0.out (fun f => f))
                      go_upto_region 20 with (fail)
                      refine' wp_region_dag0 ((103, .val _) :: (104, .val _) :: (105, .val _) :: (106, .val _) :: (107, .val _) :: (108, .val _) :: (9, .val _) :: (10, .val _) :: []) (by exact ⟨fun _ _ _ _ _ => trivial, ⟨fun _ _ _ _ _ => trivial, ⟨fun _ _ _ _ _ => trivial, ⟨fun _ _ _ _ _ => trivial, ⟨fun _ _ _ _ _ => trivial, ⟨fun _ _ _ _ _ => trivial, ⟨fun _ _ _ _ _ => trivial, ⟨fun _ _ _ _ _ => trivial, trivial⟩⟩⟩⟩⟩⟩⟩⟩) (by kernel_rfl) (by kernel_rfl) (by kernel_rfl) ?_
                      rotate_left 8
                      repeat (first
                        | (refine wpD_skipv ?_ ?_ ?_
                           focus rfl
                           focus rfl
                           simp only [Act.put, List.setIfInBounds_toArray, List.set_cons_succ, List.set_cons_zero])
                        | (refine' wpD_val (c := _) ?_ (fun w => Kp.refl _ w) ?_ (fun wq hwq hfq => ?_) ?_
                           rotate_left
                           focus rfl
                           focus rfl
                           focus ((have d0 := hwq.cell HC0'.out (fun f => f); obtain ⟨p1, p2, p3⟩ := P1.out); go_simp; first | done | rfl)
                           simp only [Act.put, List.setIfInBounds_toArray, List.set_cons_succ, List.set_cons_zero])
                        | (refine' wpD_con (c := _) ?_ ?_ (fun wq hwq hfq => ?_) ?_
                           rotate_left
                           focus rfl
                           focus rfl
                           focus ((have d0 := hwq.cell HC0'.out (fun f => f); obtain ⟨p1, p2, p3⟩ := P1.out); go_simp; (try (rw [dUpon_enter])); fail)
                           simp only [Act.put, List.setIfInBounds_toArray, List.set_cons_succ, List.set_cons_zero])
                        | fail)
                      refine wpD_nil ?_
                      intro w6 hx6 hend
                      clear hend
                      have HX6 := Lib.hid hx6
                      clear hx6
                      go_wp2_with (fail)
                      go_light
                      exact ⟨⟨j + 1, by omega, by go_num, by rw [HE2.out], by rw [HE2.out], (HXR.out.ext HX5.out).ext HX6.out⟩, by simp [intOf]; omega⟩
                  · have HE2 : Hid (rvTo pl bz vs (j + 1) = (ve, va')) := by show _ = _; rw [HE.out]; exact if_neg hp
                    clear HE
                    rcases hbc with rfl | ⟨rfl, rfl⟩
                    all_goals
                      go_upto_region 17 with (fail)
                      refine' wp_region_dag0 ((68, .val _) :: (69, .val _) :: (70, .val _) :: (71, .val _) :: (72, .val _) :: (73, .val _) :: (74, .val _) :: (75, .val _) :: (76, .val _) :: (77, .val _) :: (78, .val _) :: (79, .val _) :: (80, .val _) :: (81, .val _) :: (82, .val _) :: (83, .val _) :: (84, .val _) :: (85, .val _) :: (86, .val _) :: (87, .val _) :: []) (by exact ⟨fun _ _ _ _ _ => trivial, ⟨fun _ _ _ _ _ => trivial, ⟨fun _ _ _ _ _ => trivial, ⟨fun _ _ _ _ _ => trivial, ⟨fun _ _ _ _ _ => trivial, ⟨fun _ _ _ _ _ => trivial, ⟨fun _ _ _ _ _ => trivial, ⟨fun _ _ _ _ _ => trivial, ⟨fun _ _ _ _ _ => trivial, ⟨fun _ _ _ _ _ => trivial, ⟨fun _ _ _ _ _ => trivial, ⟨fun _ _ _ _ _ => trivial, ⟨fun _ _ _ _ _ => trivial, ⟨fun _ _ _ _ _ => trivial, ⟨fun _ _ _ _ _ => trivial, ⟨fun _ _ _ _ _ => trivial, ⟨fun _ _ _ _ _ => trivial, ⟨fun _ _ _ _ _ => trivial, ⟨fun _ _ _ _ _ => trivial, ⟨fun _ _ _ _ _ => trivial, trivial⟩⟩⟩⟩⟩⟩⟩⟩⟩⟩⟩⟩⟩⟩⟩⟩⟩⟩⟩⟩) (by kernel_rfl) (by kernel_rfl) (by kernel_rfl) ?_
                      rotate_left 20
                      repeat (first
                        | (refine wpD_skipv ?_ ?_ ?_
                           focus rfl
                           focus rfl
                           simp only [Act.put, List.setIfInBounds_toArray, List.set_cons_succ, List.set_cons_zero])
                        | (refine' wpD_val (c := _) ?_ (fun w => Kp.refl _ w) ?_ (fun wq hwq hfq => ?_) ?_
                           rotate_left
                           focus rfl
                           focus rfl
                           focus ((have d0 := hwq.cell HC0.out (fun f => f); have d1 := hwq.cell HC1.out (fun f => f); have b4 := hwq.cell HB4.out (fun f => f); have hr := hwq.cell HROW.out (fun f => f); obtain ⟨p1, p2, p3⟩ := P1.out; obtain ⟨g1, g2⟩ := G1.out); go_simp; first | done | rfl)
                           simp only [Act.put, List.setIfInBounds_toArray, List.set_cons_succ, List.set_cons_zero])
                        | (refine' wpD_con (c := _) ?_ ?_ (fun wq hwq hfq => ?_) ?_
                           rotate_left
                           focus rfl
                           focus rfl
                           focus ((have d0 := hwq.cell HC0.out (fun f => f); have d1 := hwq.cell HC1.out (fun f => f); have b4 := hwq.cell HB4.out (fun f => f); have hr := hwq.cell HROW.out (fun f => f); obtain ⟨p1, p2, p3⟩ := P1.out; obtain ⟨g1, g2⟩ := G1.out); go_simp; (try (rw [dUpon_enter])); fail)
                           simp only [Act.put, List.setIfInBounds_toArray, List.set_cons_succ, List.set_cons_zero])
                        | fail)
                      refine wpD_nil ?_
                      intro w5 hx5 hend
                      clear hend
                      have HX5 := Lib.hid hx5
                      clear hx5
                      have HC0' := Lib.hid (HX5.out.cell HC0.out (fun f => f))
                      go_wp2_with (fail)
                      go_light
                      exact ⟨⟨j + 1, by omega, by go_num, by rw [HE2.out], by rw [HE2.out], HXR.out.ext HX5.out⟩, by simp [intOf]; omega⟩
                · by_cases hb : (l.length : Int) ≤ at_
                  · have HP0 : Hid (placeOf pl j ⟨er, at_⟩ = -1) := by show _ = _; rw [HPL.out]; exact if_pos (.inr hb)
                    rw [HP0.out] at HE
                    have G1 : Hid ((0 : Int) ≤ at_ ∧ ¬ at_ < (l.length : Int)) := ⟨by omega, by omega⟩
                    by_cases hp : (-1 : Int) < va'
                    · have HE2 : Hid (rvTo pl bz vs (j + 1) = (er, (-1 : Int))) := by show _ = _; rw [HE.out]; exact if_pos hp
                      clear HE
                      rcases hbc with rfl | ⟨rfl, rfl⟩
                      all_goals
                        go_upto_region 17 with (fail)
                        refine' wp_region_dag0 ((68, .val _) :: (69, .val _) :: (70, .val _) :: (71, .val _) :: (72, .val _) :: (73, .val _) :: (74, .val _) :: (75, .val _) :: (76, .val _) :: (77, .val _) :: (78, .val _) :: (79, .val _) :: (80, .val _) :: (81, .val _) :: (82, .val _) :: (83, .val _) :: (84, .val _) :: (85, .val _) :: (86, .val _) :: (87, .val _) :: []) (by exact ⟨fun _ _ _ _ _ => trivial, ⟨fun _ _ _ _ _ => trivial, ⟨fun _ _ _ _ _ => trivial, ⟨fun _ _ _ _ _ => trivial, ⟨fun _ _ _ _ _ => trivial, ⟨fun _ _ _ _ _ => trivial, ⟨fun _ _ _ _ _ => trivial, ⟨fun _ _ _ _ _ => trivial, ⟨fun _ _ _ _ _ => trivial, ⟨fun _ _ _ _ _ => trivial, ⟨fun _ _ _ _ _ => trivial, ⟨fun _ _ _ _ _ => trivial, ⟨fun _ _ _ _ _ => trivial, ⟨fun _ _ _ _ _ => trivial, ⟨fun _ _ _ _ _ => trivial, ⟨fun _ _ _ _ _ => trivial, ⟨fun _ _ _ _ _ => trivial, ⟨fun _ _ _ _ _ => trivial, ⟨fun _ _ _ _ _ => trivial, ⟨fun _ _ _ _ _ => trivial, trivial⟩⟩⟩⟩⟩⟩⟩⟩⟩⟩⟩⟩⟩⟩⟩⟩⟩⟩⟩⟩) (by kernel_rfl) (by kernel_rfl) (by kernel_rfl) ?_
                        rotate_left 20
                        repeat (first
                          | (refine wpD_skipv ?_ ?_ ?_
                             focus rfl
                             focus rfl
                             simp only [Act.put, List.setIfInBounds_toArray, List.set_cons_succ, List.set_cons_zero])
                          | (refine' wpD_val (c := _) ?_ (fun w => Kp.refl _ w) ?_ (fun wq hwq hfq => ?_) ?_
                             rotate_left
                             focus rfl
                             focus rfl
                             focus ((have d0 := hwq.cell HC0.out (fun f => f); have d1 := hwq.cell HC1.out (fun f => f); have b4 := hwq.cell HB4.out (fun f => f); have hr := hwq.cell HROW.out (fun f => f); obtain ⟨p1, p2, p3⟩ := P1.out; obtain ⟨g1, g2⟩ := G1.out); go_simp; first | done | rfl)
                             simp only [Act.put, List.setIfInBounds_toArray, List.set_cons_succ, List.set_cons_zero])
                          | (refine' wpD_con (c := _) ?_ ?_ (fun wq hwq hfq => ?_) ?_
                             rotate_left
                             focus rfl
                             focus rfl
                             focus ((have d0 := hwq.cell HC0.out (fun f => f); have d1 := hwq.cell HC1.out (fun f => f); have b4 := hwq.cell HB4.out (fun f => f); have hr := hwq.cell HROW.out (fun f => f); obtain ⟨p1, p2, p3⟩ := P1.out; obtain ⟨g1, g2⟩ := G1.out); go_simp; (try (rw [dUpon_enter])); fail)
                             simp only [Act.put, List.setIfInBounds_toArray, List.set_cons_succ, List.set_cons_zero])
                          | fail)
                        refine wpD_nil ?_
                        intro w5 hx5 hend
                        clear hend
                        have HX5 := Lib.hid hx5
                        clear hx5
                        have HC0' := Lib.hid (HX5.out.cell HC0.out (fun f => f))
                        go_upto_region 20 with (fail)
                        refine' wp_region_dag0 ((103, .val _) :: (104, .val _) :: (105, .val _) :: (106, .val _) :: (107, .val _) :: (108, .val _) :: (9, .val _) :: (10, .val _) :: []) (by exact ⟨fun _ _ _ _ _ => trivial, ⟨fun _ _ _ _ _ => trivial, ⟨fun _ _ _ _ _ => trivial, ⟨fun _ _ _ _ _ => trivial, ⟨fun _ _ _ _ _ => trivial, ⟨fun _ _ _ _ _ => trivial, ⟨fun _ _ _ _ _ => trivial, ⟨fun _ _ _ _ _ => trivial, trivial⟩⟩⟩⟩⟩⟩⟩⟩) (by kernel_rfl) (by kernel_rfl) (by kernel_rfl) ?_
                        rotate_left 8
                        repeat (first
                          | (refine wpD_skipv ?_ ?_ ?_
                             focus rfl
                             focus rfl
                             simp only [Act.put, List.setIfInBounds_toArray, List.set_cons_succ, List.set_cons_zero])
                          | (refine' wpD_val (c := _) ?_ (fun w => Kp.refl _ w) ?_ (fun wq hwq hfq => ?_) ?_
                             rotate_left
                             focus rfl
                             focus rfl
                             focus ((have d0 := hwq.cell HC0'.out (fun f => f); obtain ⟨p1, p2, p3⟩ := P1.out); go_simp; first | done | rfl)
                             simp only [Act.put, List.setIfInBounds_toArray, List.set_cons_succ, List.set_cons_zero])
                          | (refine' wpD_con (c := _) ?_ ?_ (fun wq hwq hfq => ?_) ?_
                             rotate_left
                             focus rfl
                             focus rfl
                             focus ((have d0 := hwq.cell HC0'.out (fun f => f); obtain ⟨p1, p2, p3⟩ := P1.out); go_simp; (try (rw [dUpon_enter])); fail)
                             simp only [Act.put, List.setIfInBounds_toArray, List.set_cons_succ, List.set_cons_zero])
                          | fail)
                        refine wpD_nil ?_
                        intro w6 hx6 hend
                        clear hend
                        have HX6 := Lib.hid hx6
                        clear hx6
                        go_wp2_with (fail)
                        go_light
                        exact ⟨⟨j + 1, by omega, by go_num, by rw [HE2.out], by rw [HE2.out], (HXR.out.ext HX5.out).ext HX6.out⟩, by simp [intOf]; omega⟩
                    · have HE2 : Hid (rvTo pl bz vs (j + 1) = (ve, va')) := by show _ = _; rw [HE.out]; exact if_neg hp
                      clear HE
                      rcases hbc with rfl | ⟨rfl, rfl⟩
                      all_goals
                        go_upto_region 17 with (fail)
                        refine' wp_region_dag0 ((68, .val _) :: (69, .val _) :: (70, .val _) :: (71, .val _) :: (72, .val _) :: (73, .val _) :: (74, .val _) :: (75, .val _) :: (76, .val _) :: (77, .val _) :: (78, .val _) :: (79, .val _) :: (80, .val _) :: (81, .val _) :: (82, .val _) :: (83, .val _) :: (84, .val _) :: (85, .val _) :: (86, .val _) :: (87, .val _) :: []) (by exact ⟨fun _ _ _ _ _ => trivial, ⟨fun _ _ _ _ _ => trivial, ⟨fun _ _ _ _ _ => trivial, ⟨fun _ _ _ _ _ => trivial, ⟨fun _ _ _ _ _ => trivial, ⟨fun _ _ _ _ _ => trivial, ⟨fun _ _ _ _ _ => trivial, ⟨fun _ _ _ _ _ => trivial, ⟨fun _ _ _ _ _ => trivial, ⟨fun _ _ _ _ _ => trivial, ⟨fun _ _ _ _ _ => trivial, ⟨fun _ _ _ _ _ => trivial, ⟨fun _ _ _ _ _ => trivial, ⟨fun _ _ _ _ _ => trivial, ⟨fun _ _ _ _ _ => trivial, ⟨fun _ _ _ _ _ => trivial, ⟨fun _ _ _ _ _ => trivial, ⟨fun _ _ _ _ _ => trivial, ⟨fun _ _ _ _ _ => trivial, ⟨fun _ _ _ _ _ => trivial, trivial⟩⟩⟩⟩⟩⟩⟩⟩⟩⟩⟩⟩⟩⟩⟩⟩⟩⟩⟩⟩) (by kernel_rfl) (by kernel_rfl) (by kernel_rfl) ?_
                        rotate_left 20
                        repeat (first
                          | (refine wpD_skipv ?_ ?_ ?_
                             focus rfl
                             focus rfl
                             simp only [Act.put, List.setIfInBounds_toArray, List.set_cons_succ, List.set_cons_zero])
                          | (refine' wpD_val (c := _) ?_ (fun w => Kp.refl _ w) ?_ (fun wq hwq hfq => ?_) ?_
                             rotate_left
                             focus rfl
                             focus rfl
                             focus ((have d0 := hwq.cell HC0.out (fun f => f); have d1 := hwq.cell HC1.out (fun f => f); have b4 := hwq.cell HB4.out (fun f => f); have hr := hwq.cell HROW.out (fun f => f); obtain ⟨p1, p2, p3⟩ := P1.out; obtain ⟨g1, g2⟩ := G1.out); go_simp; first | done | rfl)
                             simp only [Act.put, List.setIfInBounds_toArray, List.set_cons_succ, List.set_cons_zero])
                          | (refine' wpD_con (c := _) ?_ ?_ (fun wq hwq hfq => ?_) ?_
                             rotate_left
                             focus rfl
                             focus rfl
                             focus ((have d0 := hwq.cell HC0.out (fun f => f); have d1 := hwq.cell HC1.out (fun f => f); have b4 := hwq.cell HB4.out (fun f => f); have hr := hwq.cell HROW.out (fun f => f); obtain ⟨p1, p2, p3⟩ := P1.out; obtain ⟨g1, g2⟩ := G1.out); go_simp; (try (rw [dUpon_enter])); fail)
                             simp only [Act.put, List.setIfInBounds_toArray, List.set_cons_succ, List.set_cons_zero])
                          | fail)
                        refine wpD_nil ?_
                        intro w5 hx5 hend
                        clear hend
                        have HX5 := Lib.hid hx5
                        clear hx5
                        have HC0' := Lib.hid (HX5.out.cell HC0.out (fun f => f))
                        go_wp2_with (fail)
                        go_light
                        exact ⟨⟨j + 1, by omega, by go_num, by rw [HE2.out], by rw [HE2.out], HXR.out.ext HX5.out⟩, by simp [intOf]; omega⟩
                  · obtain ⟨q, rfl⟩ := Int.eq_ofNat_of_zero_le (show 0 ≤ at_ by omega)
                    have hq : q < l.length := by omega
                    have HP0 : Hid (placeOf pl j ⟨er, (q : Int)⟩ = (l[q] : Int)) := by
                      show _ = _
                      rw [HPL.out, if_neg (by omega), Int.toNat_natCast]
                      simp [List.getD, List.getElem?_eq_getElem hq]
                    rw [HP0.out] at HE
                    have G1 : Hid ((0 : Int) ≤ (q : Int) ∧ (q : Int) < (l.length : Int)) := ⟨by omega, by omega⟩
                    obtain ⟨la, lc, e4, _, _, hlo⟩ := HNR.out.open
                    simp only [Value.slice.injEq, true_and] at e4
                    obtain ⟨rfl, rfl⟩ := e4
                    obtain ⟨lb, loff, rfl, _, hlcell⟩ := hlo (by omega)
                    have HNC := Lib.hid (hlcell q hq)
                    have P2 : Hid ((0 : Int) ≤ (q : Int) ∧ (q : Int) < l.length) := ⟨by omega, by omega⟩
                    have q1 : (q : Int) < l.length := by omega
                    generalize l[q] = y at HNC HE HP0
                    clear hlo hlcell
                    by_cases hp : (y : Int) < va'
                    · have HE2 : Hid (rvTo pl bz vs (j + 1) = (er, (y : Int))) := by show _ = _; rw [HE.out]; exact if_pos hp
                      clear HE
                      rcases hbc with rfl | ⟨rfl, rfl⟩
                      all_goals
                        go_upto_region 17 with (fail)
                        refine' wp_region_dag0 ((68, .val _) :: (69, .val _) :: (70, .val _) :: (71, .val _) :: (72, .val _) :: (73, .val _) :: (74, .val _) :: (75, .val _) :: (76, .val _) :: (77, .val _) :: (78, .val _) :: (79, .val _) :: (80, .val _) :: (81, .val _) :: (82, .val _) :: (83, .val _) :: (84, .val _) :: (85, .val _) :: (86, .val _) :: (87, .val _) :: []) (by exact ⟨fun _ _ _ _ _ => trivial, ⟨fun _ _ _ _ _ => trivial, ⟨fun _ _ _ _ _ => trivial, ⟨fun _ _ _ _ _ => trivial, ⟨fun _ _ _ _ _ => trivial, ⟨fun _ _ _ _ _ => trivial, ⟨fun _ _ _ _ _ => trivial, ⟨fun _ _ _ _ _ => trivial, ⟨fun _ _ _ _ _ => trivial, ⟨fun _ _ _ _ _ => trivial, ⟨fun _ _ _ _ _ => trivial, ⟨fun _ _ _ _ _ => trivial, ⟨fun _ _ _ _ _ => trivial, ⟨fun _ _ _ _ _ => trivial, ⟨fun _ _ _ _ _ => trivial, ⟨fun _ _ _ _ _ => trivial, ⟨fun _ _ _ _ _ => trivial, ⟨fun _ _ _ _ _ => trivial, ⟨fun _ _ _ _ _ => trivial, ⟨fun _ _ _ _ _ => trivial, trivial⟩⟩⟩⟩⟩⟩⟩⟩⟩⟩⟩⟩⟩⟩⟩⟩⟩⟩⟩⟩) (by kernel_rfl) (by kernel_rfl) (by kernel_rfl) ?_
                        rotate_left 20
                        repeat (first
                          | (refine wpD_skipv ?_ ?_ ?_
                             focus rfl
                             focus rfl
                             simp only [Act.put, List.setIfInBounds_toArray, List.set_cons_succ, List.set_cons_zero])
                          | (refine' wpD_val (c := _) ?_ (fun w => Kp.refl _ w) ?_ (fun wq hwq hfq => ?_) ?_
                             rotate_left
                             focus rfl
                             focus rfl
                             focus ((have d0 := hwq.cell HC0.out (fun f => f); have d1 := hwq.cell HC1.out (fun f => f); have b4 := hwq.cell HB4.out (fun f => f); have hr := hwq.cell HROW.out (fun f => f); obtain ⟨p1, p2, p3⟩ := P1.out; obtain ⟨g1, g2⟩ := G1.out); go_simp; first | done | rfl)
                             simp only [Act.put, List.setIfInBounds_toArray, List.set_cons_succ, List.set_cons_zero])
                          | (refine' wpD_con (c := _) ?_ ?_ (fun wq hwq hfq => ?_) ?_
                             rotate_left
                             focus rfl
                             focus rfl
                             focus ((have d0 := hwq.cell HC0.out (fun f => f); have d1 := hwq.cell HC1.out (fun f => f); have b4 := hwq.cell HB4.out (fun f => f); have hr := hwq.cell HROW.out (fun f => f); obtain ⟨p1, p2, p3⟩ := P1.out; obtain ⟨g1, g2⟩ := G1.out); go_simp; (try (rw [dUpon_enter])); fail)
                             simp only [Act.put, List.setIfInBounds_toArray, List.set_cons_succ, List.set_cons_zero])
                          | fail)
                        refine wpD_nil ?_
                        intro w5 hx5 hend
                        clear hend
                        have HX5 := Lib.hid hx5
                        clear hx5
                        have HB4' := Lib.hid (HX5.out.cell HB4.out (fun f => f))
                        have HR' := Lib.hid (HX5.out.cell HROW.out (fun f => f))
                        have HC1' := Lib.hid (HX5.out.cell HC1.out (fun f => f))
                        have HN' := Lib.hid (HX5.out.cell HNC.out (fun f => f))
                        go_upto_region 18 with (fail)
                        refine' wp_region_dag0 ((88, .val _) :: (89, .val _) :: (90, .val _) :: (91, .val _) :: (92, .val _) :: (93, .val _) :: (94, .val _) :: (95, .val _) :: (96, .val _) :: (97, .val _) :: (98, .val _) :: (99, .val _) :: (12, .val _) :: []) (by exact ⟨fun _ _ _ _ _ => trivial, ⟨fun _ _ _ _ _ => trivial, ⟨fun _ _ _ _ _ => trivial, ⟨fun _ _ _ _ _ => trivial, ⟨fun _ _ _ _ _ => trivial, ⟨fun _ _ _ _ _ => trivial, ⟨fun _ _ _ _ _ => trivial, ⟨fun _ _ _ _ _ => trivial, ⟨fun _ _ _ _ _ => trivial, ⟨fun _ _ _ _ _ => trivial, ⟨fun _ _ _ _ _ => trivial, ⟨fun _ _ _ _ _ => trivial, ⟨fun _ _ _ _ _ => trivial, trivial⟩⟩⟩⟩⟩⟩⟩⟩⟩⟩⟩⟩⟩) (by kernel_rfl) (by kernel_rfl) (by kernel_rfl) ?_
                        rotate_left 13
                        repeat (first
                          | (refine wpD_skipv ?_ ?_ ?_
                             focus rfl
                             focus rfl
                             simp only [Act.put, List.setIfInBounds_toArray, List.set_cons_succ, List.set_cons_zero])
                          | (refine' wpD_val (c := _) ?_ (fun w => Kp.refl _ w) ?_ (fun wq hwq hfq => ?_) ?_
                             rotate_left
                             focus rfl
                             focus rfl
                             focus ((have d1 := hwq.cell HC1'.out (fun f => f); have b4 := hwq.cell HB4'.out (fun f => f); have hr := hwq.cell HR'.out (fun f => f); have hn := hwq.cell HN'.out (fun f => f); obtain ⟨p1, p2, p3⟩ := P1.out; obtain ⟨p4, p5⟩ := P2.out); go_simp; first | done | rfl)
                             simp only [Act.put, List.setIfInBounds_toArray, List.set_cons_succ, List.set_cons_zero])
                          | (refine' wpD_con (c := _) ?_ ?_ (fun wq hwq hfq => ?_) ?_
                             rotate_left
                             focus rfl
                             focus rfl
                             focus ((have d1 := hwq.cell HC1'.out (fun f => f); have b4 := hwq.cell HB4'.out (fun f => f); have hr := hwq.cell HR'.out (fun f => f); have hn := hwq.cell HN'.out (fun f => f); obtain ⟨p1, p2, p3⟩ := P1.out; obtain ⟨p4, p5⟩ := P2.out); go_simp; (try (rw [dUpon_enter])); fail)
                             simp only [Act.put, List.setIfInBounds_toArray, List.set_cons_succ, List.set_cons_zero])
                          | fail)
                        refine wpD_nil ?_
                        intro w5' hx5' hend
                        clear hend
                        have HX5 := Lib.hid (HX5.out.ext hx5')
                        have HC0' := Lib.hid (HX5.out.cell HC0.out (fun f => f))
                        clear hx5'
                        go_upto_region 20 with (fail)
                        refine' wp_region_dag0 ((103, .val _) :: (104, .val _) :: (105, .val _) :: (106, .val _) :: (107, .val _) :: (108, .val _) :: (9, .val _) :: (10, .val _) :: []) (by exact ⟨fun _ _ _ _ _ => trivial, ⟨fun _ _ _ _ _ => trivial, ⟨fun _ _ _ _ _ => trivial, ⟨fun _ _ _ _ _ => trivial, ⟨fun _ _ _ _ _ => trivial, ⟨fun _ _ _ _ _ => trivial, ⟨fun _ _ _ _ _ => trivial, ⟨fun _ _ _ _ _ => trivial, trivial⟩⟩⟩⟩⟩⟩⟩⟩) (by kernel_rfl) (by kernel_rfl) (by kernel_rfl) ?_
                        rotate_left 8
                        repeat (first
                          | (refine wpD_skipv ?_ ?_ ?_
                             focus rfl
                             focus rfl
                             simp only [Act.put, List.setIfInBounds_toArray, List.set_cons_succ, List.set_cons_zero])
                          | (refine' wpD_val (c := _) ?_ (fun w => Kp.refl _ w) ?_ (fun wq hwq hfq => ?_) ?_
                             rotate_left
                             focus rfl
                             focus rfl
                             focus ((have d0 := hwq.cell HC0'.out (fun f => f); obtain ⟨p1, p2, p3⟩ := P1.out); go_simp; first | done | rfl)
                             simp only [Act.put, List.setIfInBounds_toArray, List.set_cons_succ, List.set_cons_zero])
                          | (refine' wpD_con (c := _) ?_ ?_ (fun wq hwq hfq => ?_) ?_
                             rotate_left
                             focus rfl
                             focus rfl
                             focus ((have d0 := hwq.cell HC0'.out (fun f => f); obtain ⟨p1, p2, p3⟩ := P1.out); go_simp; (try (rw [dUpon_enter])); fail)
                             simp only [Act.put, List.setIfInBounds_toArray, List.set_cons_succ, List.set_cons_zero])
                          | fail)
                        refine wpD_nil ?_
                        intro w6 hx6 hend
                        clear hend
                        have HX6 := Lib.hid hx6
                        clear hx6
                        go_wp2_with (fail)
                        go_light
                        exact ⟨⟨j + 1, by omega, by go_num, by rw [HE2.out], by rw [HE2.out], (HXR.out.ext HX5.out).ext HX6.out⟩, by simp [intOf]; omega⟩
                    · have HE2 : Hid (rvTo pl bz vs (j + 1) = (ve, va')) := by show _ = _; rw [HE.out]; exact if_neg hp
                      clear HE
                      rcases hbc with rfl | ⟨rfl, rfl⟩
                      all_goals
                        go_upto_region 17 with (fail)
                        refine' wp_region_dag0 ((68, .val _) :: (69, .val _) :: (70, .val _) :: (71, .val _) :: (72, .val _) :: (73, .val _) :: (74, .val _) :: (75, .val _) :: (76, .val _) :: (77, .val _) :: (78, .val _) :: (79, .val _) :: (80, .val _) :: (81, .val _) :: (82, .val _) :: (83, .val _) :: (84, .val _) :: (85, .val _) :: (86, .val _) :: (87, .val _) :: []) (by exact ⟨fun _ _ _ _ _ => trivial, ⟨fun _ _ _ _ _ => trivial, ⟨fun _ _ _ _ _ => trivial, ⟨fun _ _ _ _ _ => trivial, ⟨fun _ _ _ _ _ => trivial, ⟨fun _ _ _ _ _ => trivial, ⟨fun _ _ _ _ _ => trivial, ⟨fun _ _ _ _ _ => trivial, ⟨fun _ _ _ _ _ => trivial, ⟨fun _ _ _ _ _ => trivial, ⟨fun _ _ _ _ _ => trivial, ⟨fun _ _ _ _ _ => trivial, ⟨fun _ _ _ _ _ => trivial, ⟨fun _ _ _ _ _ => trivial, ⟨fun _ _ _ _ _ => trivial, ⟨fun _ _ _ _ _ => trivial, ⟨fun _ _ _ _ _ => trivial, ⟨fun _ _ _ _ _ => trivial, ⟨fun _ _ _ _ _ => trivial, ⟨fun _ _ _ _ _ => trivial, trivial⟩⟩⟩⟩⟩⟩⟩⟩⟩⟩⟩⟩⟩⟩⟩⟩⟩⟩⟩⟩) (by kernel_rfl) (by kernel_rfl) (by kernel_rfl) ?_
                        rotate_left 20
                        repeat (first
                          | (refine wpD_skipv ?_ ?_ ?_
                             focus rfl
                             focus rfl
                             simp only [Act.put, List.setIfInBounds_toArray, List.set_cons_succ, List.set_cons_zero])
                          | (refine' wpD_val (c := _) ?_ (fun w => Kp.refl _ w) ?_ (fun wq hwq hfq => ?_) ?_
                             rotate_left
                             focus rfl
                             focus rfl
                             focus ((have d0 := hwq.cell HC0.out (fun f => f); have d1 := hwq.cell HC1.out (fun f => f); have b4 := hwq.cell HB4.out (fun f => f); have hr := hwq.cell HROW.out (fun f => f); obtain ⟨p1, p2, p3⟩ := P1.out; obtain ⟨g1, g2⟩ := G1.out); go_simp; first | done | rfl)
                             simp only [Act.put, List.setIfInBounds_toArray, List.set_cons_succ, List.set_cons_zero])
                          | (refine' wpD_con (c := _) ?_ ?_ (fun wq hwq hfq => ?_) ?_
                             rotate_left
                             focus rfl
                             focus rfl
                             focus ((have d0 := hwq.cell HC0.out (fun f => f); have d1 := hwq.cell HC1.out (fun f => f); have b4 := hwq.cell HB4.out (fun f => f); have hr := hwq.cell HROW.out (fun f => f); obtain ⟨p1, p2, p3⟩ := P1.out; obtain ⟨g1, g2⟩ := G1.out); go_simp; (try (rw [dUpon_enter])); fail)
                             simp only [Act.put, List.setIfInBounds_toArray, List.set_cons_succ, List.set_cons_zero])
                          | fail)
                        refine wpD_nil ?_
                        intro w5 hx5 hend
                        clear hend
                        have HX5 := Lib.hid hx5
                        clear hx5
                        have HB4' := Lib.hid (HX5.out.cell HB4.out (fun f => f))
                        have HR' := Lib.hid (HX5.out.cell HROW.out (fun f => f))
                        have HC1' := Lib.hid (HX5.out.cell HC1.out (fun f => f))
                        have HN' := Lib.hid (HX5.out.cell HNC.out (fun f => f))
                        go_upto_region 18 with (fail)
                        refine' wp_region_dag0 ((88, .val _) :: (89, .val _) :: (90, .val _) :: (91, .val _) :: (92, .val _) :: (93, .val _) :: (94, .val _) :: (95, .val _) :: (96, .val _) :: (97, .val _) :: (98, .val _) :: (99, .val _) :: (12, .val _) :: []) (by exact ⟨fun _ _ _ _ _ => trivial, ⟨fun _ _ _ _ _ => trivial, ⟨fun _ _ _ _ _ => trivial, ⟨fun _ _ _ _ _ => trivial, ⟨fun _ _ _ _ _ => trivial, ⟨fun _ _ _ _ _ => trivial, ⟨fun _ _ _ _ _ => trivial, ⟨fun _ _ _ _ _ => trivial, ⟨fun _ _ _ _ _ => trivial, ⟨fun _ _ _ _ _ => trivial, ⟨fun _ _ _ _ _ => trivial, ⟨fun _ _ _ _ _ => trivial, ⟨fun _ _ _ _ _ => trivial, trivial⟩⟩⟩⟩⟩⟩⟩⟩⟩⟩⟩⟩⟩) (by kernel_rfl) (by kernel_rfl) (by kernel_rfl) ?_
                        rotate_left 13
                        repeat (first
                          | (refine wpD_skipv ?_ ?_ ?_
                             focus rfl
                             focus rfl
                             simp only [Act.put, List.setIfInBounds_toArray, List.set_cons_succ, List.set_cons_zero])
                          | (refine' wpD_val (c := _) ?_ (fun w => Kp.refl _ w) ?_ (fun wq hwq hfq => ?_) ?_
                             rotate_left
                             focus rfl
                             focus rfl
                             focus ((have d1 := hwq.cell HC1'.out (fun f => f); have b4 := hwq.cell HB4'.out (fun f => f); have hr := hwq.cell HR'.out (fun f => f); have hn := hwq.cell HN'.out (fun f => f); obtain ⟨p1, p2, p3⟩ := P1.out; obtain ⟨p4, p5⟩ := P2.out); go_simp; first | done | rfl)
                             simp only [Act.put, List.setIfInBounds_toArray, List.set_cons_succ, List.set_cons_zero])
                          | (refine' wpD_con (c := _) ?_ ?_ (fun wq hwq hfq => ?_) ?_
                             rotate_left
                             focus rfl
                             focus rfl
                             focus ((have d1 := hwq.cell HC1'.out (fun f => f); have b4 := hwq.cell HB4'.out (fun f => f); have hr := hwq.cell HR'.out (fun f => f); have hn := hwq.cell HN'.out (fun f => f); obtain ⟨p1, p2, p3⟩ := P1.out; obtain ⟨p4, p5⟩ := P2.out); go_simp; (try (rw [dUpon_enter])); fail)
                             simp only [Act.put, List.setIfInBounds_toArray, List.set_cons_succ, List.set_cons_zero])
                          | fail)
                        refine wpD_nil ?_
                        intro w5' hx5' hend
                        clear hend
                        have HX5 := Lib.hid (HX5.out.ext hx5')
                        have HC0' := Lib.hid (HX5.out.cell HC0.out (fun f => f))
                        clear hx5'
                        go_wp2_with (fail)
                        go_light
                        exact ⟨⟨j + 1, by omega, by go_num, by rw [HE2.out], by rw [HE2.out], HXR.out.ext HX5.out⟩, by simp [intOf]; omega⟩
            · have hje : j = vs.length := by omega
              have k1 : ¬ (j : Int) < vs.length := by omega
              have HV3 := HV2.out
              rw [← hje] at HV3
              have HV3 := Lib.hid HV3
              have HXR := Lib.hid hxr
              clear hje hlt hxr
              go_wp2_with (fail)
              go_ret2
              go_light
              exact ⟨by first | rfl | (rw [HV3.out]; rfl), HXB.out.ext HXR.out⟩
  · have HV : Hid (verdict pl vs = (1, -1)) := by show _ = _; unfold verdict; rw [if_pos hne]
    have e1 : ¬ ((vs.length : Int) = (pl.length : Int)) := by omega
    go_enter Tryz.func14, Tryz.ntmps14
    go_wp2_with (fail)
    go_ret2
    go_light
    rw [HV.out]
    exact ⟨rfl, HXB.out⟩
end Go.Proofs.YtmgnndhhpnedkaaGreatDoor

namespace Go.Proofs.YtmgnndhhpnedkaaGreatDoor
open Go.RowKit Av

theorem row_put2 {W : World} {o N : Nat} {out : List ResV} (h : RowB W o reT 11 N (out.flatMap rsC)) {a : Nat} (ha : a < out.length) (x : ResV) :
    RowB (W.setCells o (a * 11) (rsC x)) o reT 11 N ((out.set a x).flatMap rsC) := by
  have h1 := RowB.setCells (rsC x) (a * 11) h
  rwa [setMs_flat rsC 11 (fun _ => rfl) out a ha x] at h1
def RqRel (wO : World) (o N : Nat) (pl : List (List Nat)) (rs : List (List ResV)) (i : Value) (W : World) : Prop :=
  ∃ k : Nat, k ≤ pl.length ∧ i = .int .i64 k ∧ RowB W o reT 11 N ((putTo N pl rs k).flatMap rsC) ∧ Kp (fun i => i = o) wO W
set_option maxHeartbeats 6400000 in
theorem refResults_any (s n : Int) (ov sv plv lv : Value) (xs : List OpV) (ss : List Nat) (pl : List (List Nat)) (rs : List (List ResV)) (vs : List Value) (w : World) (h : PlanR w ov sv plv xs ss pl) (hl : ss.length = pl.length) (h1 : 1 ≤ xs.length) (h16 : xs.length ≤ 16) (hr : RowsS w lv vs rs) (hfit : fitsR pl rs) (hin : ∀ l ∈ pl, ∀ k ∈ l, k < xs.length) (h20 : ∀ l ∈ pl, l.length ≤ 16) (h4 : pl.length ≤ 4) :
    Calls Tryz.prog 20 #[planV s n ov sv plv, lv] w fun e w' => ∃ v, e = .returned (.tuple #[v, .bool true]) ∧ ResAt w' v (putTo xs.length pl rs pl.length) ∧ Ext w w' := by
  have HMK := Lib.hid (mk_res xs.length h1 h16)
  have HR := Lib.hid hr
  have HP := Lib.hid h
  have HFIT := Lib.hid hfit
  have HIN := Lib.hid hin
  have H20 := Lib.hid h20
  obtain ⟨⟨a1, c1, rfl⟩, ⟨a2, c2, rfl⟩, a3, c3, rfl⟩ := h.open
  obtain ⟨ra, rc, rfl, hrcc, hrm, hro⟩ := hr.open
  unfold maxLen at hrm
  clear h hr hrcc hro hfit hin h20
  unfold planV
  rw [hl] at HP ⊢
  obtain ⟨wB, hWB⟩ : ∃ wB, w.alloc (.cells #[.int .i64 s, .int .i64 n, .slice a1 xs.length c1, .slice a2 pl.length c2, .slice a3 pl.length c3] rpT) = wB := ⟨_, rfl⟩
  have hxB : Ext w wB := by rw [← hWB]; exact (Kp.refl _ _).alloc _
  have hbB : Blk wB w.heap.size #[.int .i64 s, .int .i64 n, .slice a1 xs.length c1, .slice a2 pl.length c2, .slice a3 pl.length c3] rpT := by rw [← hWB]; exact heap_alloc_new w _
  have q2 := hbB.cell 2 _ rfl
  have q3 := hbB.cell 3 _ rfl
  have HB := Lib.hid hbB
  have HXB := Lib.hid hxB
  have HWB := Lib.hid hWB
  clear hWB hxB hbB hl
  have e1 : (rs.length : Int) = (pl.length : Int) := by have := HFIT.out.1; omega
  have hmk := HMK.out
  obtain ⟨wO, hWO⟩ : ∃ wO, wB.alloc (.cells ((List.replicate xs.length resZ).flatMap rsC).toArray reT) = wO := ⟨_, rfl⟩
  have hxO : Ext wB wO := by rw [← hWO]; exact (Kp.refl _ _).alloc _
  have hrb : RowB wO wB.heap.size reT 11 xs.length ((List.replicate xs.length resZ).flatMap rsC) := by
    rw [← hWO]
    have hz : ((List.replicate xs.length resZ).flatMap rsC).length = xs.length * 11 := by rw [rowK_len rsC 11 (fun _ => rfl), List.length_replicate]
    exact ⟨_, heap_alloc_new wB _, by simpa using hz, List.take_of_length_le (Nat.le_refl _)⟩
  have hzB : w.heap.size < wB.heap.size := HB.out.lt
  have HBO := Lib.hid (HB.out.kp hxO (fun f => f))
  have HRB := Lib.hid hrb
  have HXO := Lib.hid (HXB.out.ext hxO)
  have HZB := Lib.hid hzB
  have HWO := Lib.hid hWO
  clear hxO hrb hzB hWO HMK HB HXB
  go_enter Tryz.func20, Tryz.ntmps20
  go_upto_region 3 with (fail)
  rw [HWB.out]
  go_upto_region 4 with (fail)
  rw [HWO.out]
  go_wp2_with (fail)
  clear hmk q2 q3 e1
  go_loopw [7] (fun i W => RqRel wO wB.heap.size xs.length pl rs i W) (fun i _ => pl.length - (intOf i).toNat)
  case atStart => exact ⟨0, Nat.zero_le _, rfl, HRB.out, Kp.refl _ _⟩
  case round =>
    obtain ⟨k, hk, rfl, hrb, hkp⟩ := hrel
    have hxr : Ext w wr := HXO.out.next hkp (fun i hi e => by have := HZB.out; omega)
    have hbr := HBO.out.kp hkp (fun e => by have := HZB.out; omega)
    have HRBR := Lib.hid hrb
    have HKP := Lib.hid hkp
    have HXR := Lib.hid hxr
    have HBR := Lib.hid hbr
    clear hrb hkp hxr hbr
    by_cases hlt : k < pl.length
    · have hltr : k < rs.length := by have := HFIT.out.1; omega
      have k1 : (k : Int) < rs.length := by omega
      obtain ⟨rra, rrc, er, _, _, hro⟩ := HR.out.open
      simp only [Value.slice.injEq, true_and] at er
      obtain ⟨rfl, rfl⟩ := er
      obtain ⟨rb, roff, rfl, hrblt, hrc⟩ := hro (by omega)
      obtain ⟨xa, xc, hcell0, hres⟩ := hrc k hltr
      have HCL := Lib.hid hcell0
      obtain ⟨pb, poff, la, lc, rfl, hrow, hnr⟩ := HP.out.row k hlt
      have HROW := Lib.hid hrow
      have HN := Lib.hid hnr
      have hgp : pl.getD k [] = pl[k] := by simp [List.getD, List.getElem?_eq_getElem hlt]
      have hgr : rs.getD k [] = rs[k] := by simp [List.getD, List.getElem?_eq_getElem hltr]
      have hrl : rs[k].length = pl[k].length := by have := HFIT.out.2 k hlt; rw [hgp, hgr] at this; exact this
      have HRL := Lib.hid hrl
      have HRES := Lib.hid hres
      have HINL := Lib.hid (HIN.out _ (List.getElem_mem hlt))
      have hl16 : pl[k].length ≤ 16 := H20.out _ (List.getElem_mem hlt)
      have HNX : Hid (putTo xs.length pl rs (k + 1) = putRow (putTo xs.length pl rs k) pl[k] rs[k] pl[k].length) := putTo_in hlt hltr
      have P1 : Hid ((0 : Int) ≤ k ∧ (k : Int) < pl.length ∧ (k : Int) < rs.length) := ⟨by omega, by omega, by omega⟩
      obtain ⟨r, hrk⟩ : ∃ r, rs[k] = r := ⟨_, rfl⟩
      obtain ⟨l, hlk⟩ : ∃ l, pl[k] = l := ⟨_, rfl⟩
      rw [hrk] at HCL HRES HNX HRL
      rw [hlk] at HROW HN HNX HRL HINL hl16
      have hol := putTo_len xs.length pl rs k
      have HOL := Lib.hid hol
      generalize putTo xs.length pl rs k = out at HNX HRBR HOL
      have E2 : Hid ((r.length : Int) = (l.length : Int)) := by show _ = _; have := HRL.out; omega
      clear hro hrc hres hgp hgr hrk hlk hol hrl hcell0 hrow hnr hrblt
      go_upto_region 7 with (fail)
      refine' wp_region_dag0 ((26, .val _) :: (27, .val _) :: (28, .val _) :: (29, .val _) :: (30, .val _) :: (31, .val _) :: (32, .val _) :: (33, .val _) :: (34, .val _) :: (35, .val _) :: (36, .val _) :: (37, .val _) :: []) (by exact ⟨fun _ _ _ _ _ => trivial, ⟨fun _ _ _ _ _ => trivial, ⟨fun _ _ _ _ _ => trivial, ⟨fun _ _ _ _ _ => trivial, ⟨fun _ _ _ _ _ => trivial, ⟨fun _ _ _ _ _ => trivial, ⟨fun _ _ _ _ _ => trivial, ⟨fun _ _ _ _ _ => trivial, ⟨fun _ _ _ _ _ => trivial, ⟨fun _ _ _ _ _ => trivial, ⟨fun _ _ _ _ _ => trivial, ⟨fun _ _ _ _ _ => trivial, trivial⟩⟩⟩⟩⟩⟩⟩⟩⟩⟩⟩⟩) (by kernel_rfl) (by kernel_rfl) (by kernel_rfl) ?_
      rotate_left 12
      repeat (first
        | (refine wpD_skipv ?_ ?_ ?_
           focus rfl
           focus rfl
           simp only [Act.put, List.setIfInBounds_toArray, List.set_cons_succ, List.set_cons_zero])
        | (refine' wpD_val (c := _) ?_ (fun w => Kp.refl _ w) ?_ (fun wq hwq hfq => ?_) ?_
           rotate_left
           focus rfl
           focus rfl
           focus ((have cl := (HXR.out.ext hwq).cell HCL.out (fun f => f); have q4 := (HBR.out.kp hwq (fun f => f)).cell 4 _ rfl; have hr := (HXR.out.ext hwq).cell HROW.out (fun f => f); obtain ⟨p1, p2, p3⟩ := P1.out; have e2 := E2.out); go_simp; first | done | rfl)
           simp only [Act.put, List.setIfInBounds_toArray, List.set_cons_succ, List.set_cons_zero])
        | (refine' wpD_con (c := _) ?_ ?_ (fun wq hwq hfq => ?_) ?_
           rotate_left
           focus rfl
           focus rfl
           focus ((have cl := (HXR.out.ext hwq).cell HCL.out (fun f => f); have q4 := (HBR.out.kp hwq (fun f => f)).cell 4 _ rfl; have hr := (HXR.out.ext hwq).cell HROW.out (fun f => f); obtain ⟨p1, p2, p3⟩ := P1.out; have e2 := E2.out); go_simp; (try (rw [dUpon_enter])); fail)
           simp only [Act.put, List.setIfInBounds_toArray, List.set_cons_succ, List.set_cons_zero])
        | fail)
      refine wpD_nil ?_
      intro w1 hx1 hend
      clear hend
      have HX1 := Lib.hid hx1
      clear hx1
      go_wp2_with (fail)
      obtain ⟨wo, HWo⟩ : ∃ wo : World, wo = wr := ⟨_, rfl⟩
      rw [← HWo] at HX1 HKP HXR HBR HRBR
      clear HWo
      go_loopw [8] (fun i W => RsIn w1 wB.heap.size xs.length out l r i W) (fun i _ => l.length - (intOf i).toNat)
      case atStart => exact ⟨0, Nat.zero_le _, rfl, HRBR.out.kp HX1.out (fun f => f), Kp.refl _ _⟩
      case round =>
        obtain ⟨j, hj, rfl, hrb, hkp⟩ := hrel
        have hxi : Ext w wr := (HXR.out.ext HX1.out).next hkp (fun i hi e => by have := HZB.out; omega)
        have HRBI := Lib.hid hrb
        have HKPI := Lib.hid hkp
        have HXI := Lib.hid hxi
        have cl := hxi.cell HCL.out (fun f => f)
        obtain ⟨p1, p2, p3⟩ := P1.out
        have HBI := Lib.hid ((HBR.out.kp HX1.out (fun f => f)).kp hkp (fun e => by have := HZB.out; omega))
        clear hrb hkp hxi
        by_cases hjl : j < l.length
        · have hjr : j < r.length := by have := HRL.out; omega
          have k2 : (j : Int) < r.length := by omega
          obtain ⟨la', lc', e4, _, _, hlo⟩ := HN.out.open
          simp only [Value.slice.injEq, true_and] at e4
          obtain ⟨rfl, rfl⟩ := e4
          obtain ⟨lb, loff, rfl, _, hlcell⟩ := hlo (by omega)
          have HNC := Lib.hid (hlcell j hjl)
          obtain ⟨xa', xc', ex, _, _, hxo⟩ := HRES.out.open
          simp only [Value.slice.injEq, true_and] at ex
          obtain ⟨rfl, rfl⟩ := ex
          obtain ⟨xb, xoff, rfl, hxb, hxc⟩ := hxo (by omega)
          have HNI : Hid (putRow out l r (j + 1) = (putRow out l r j).set l[j] r[j]) := putRow_in hjl hjr
          have hpl := putRow_len out l r j
          rw [HOL.out] at hpl
          have HXC := Lib.hid (fun W (hx : Ext w W) i x (h11 : i < 11) (hx' : (rsC r[j])[i]? = some x) => hx.cell (hxc j hjr i x h11 hx') (fun f => f))
          have hin := HINL.out l[j] (List.getElem_mem hjl)
          have P2 : Hid ((0 : Int) ≤ j ∧ (j : Int) < l.length ∧ (j : Int) < r.length) := ⟨by omega, by omega, by omega⟩
          have P3 : Hid ((0 : Int) ≤ (l[j] : Int) ∧ (l[j] : Int) < xs.length) := ⟨by omega, by omega⟩
          generalize l[j] = nv at HNC HNI P3 hin
          generalize r[j] = rj at HNI HXC
          generalize putRow out l r j = oj at HNI HRBI hpl
          have hnl : nv < oj.length := by omega
          clear hlcell hxo hxc hlo
          have CLR := Lib.hid (HXI.out.cell HCL.out (fun f => f))
          have Q4R := Lib.hid (HBI.out.cell 4 _ rfl)
          have ROWR := Lib.hid (HXI.out.cell HROW.out (fun f => f))
          have NCR := Lib.hid (HXI.out.cell HNC.out (fun f => f))
          have X0 := Lib.hid (HXC.out wr HXI.out 0 _ (by decide) rfl)
          have X1 := Lib.hid (HXC.out wr HXI.out 1 _ (by decide) rfl)
          have X2 := Lib.hid (HXC.out wr HXI.out 2 _ (by decide) rfl)
          have X3 := Lib.hid (HXC.out wr HXI.out 3 _ (by decide) rfl)
          have X4 := Lib.hid (HXC.out wr HXI.out 4 _ (by decide) rfl)
          have X5 := Lib.hid (HXC.out wr HXI.out 5 _ (by decide) rfl)
          have X6 := Lib.hid (HXC.out wr HXI.out 6 _ (by decide) rfl)
          have X7 := Lib.hid (HXC.out wr HXI.out 7 _ (by decide) rfl)
          have X8 := Lib.hid (HXC.out wr HXI.out 8 _ (by decide) rfl)
          have X9 := Lib.hid (HXC.out wr HXI.out 9 _ (by decide) rfl)
          have X10 := Lib.hid (HXC.out wr HXI.out 10 _ (by decide) rfl)
          go_upto_region 12 with (fail)
          refine' wp_region_dagK 17 [] ((47, .val _) :: (48, .val _) :: (49, .val _) :: (50, .val _) :: (51, .val _) :: (52, .val _) :: (53, .val _) :: (54, .val _) :: (55, .val _) :: (56, .val _) :: (57, .val _) :: (58, .val _) :: (59, .val _) :: (60, .val _) :: (61, .val _) :: (62, .val _) :: (63, .val _) :: []) (by exact ⟨fun _ _ _ _ _ => trivial, ⟨fun _ _ _ _ _ => trivial, ⟨fun _ _ _ _ _ => trivial, ⟨fun _ _ _ _ _ => trivial, ⟨fun _ _ _ _ _ => trivial, ⟨fun _ _ _ _ _ => trivial, ⟨fun _ _ _ _ _ => trivial, ⟨fun _ _ _ _ _ => trivial, ⟨fun _ _ _ _ _ => trivial, ⟨fun _ _ _ _ _ => trivial, ⟨fun _ _ _ _ _ => trivial, ⟨fun _ _ _ _ _ => trivial, ⟨fun _ _ _ _ _ => trivial, ⟨fun _ _ _ _ _ => trivial, ⟨fun _ _ _ _ _ => trivial, ⟨fun _ _ _ _ _ => trivial, ⟨fun _ _ _ _ _ => trivial, trivial⟩⟩⟩⟩⟩⟩⟩⟩⟩⟩⟩⟩⟩⟩⟩⟩⟩) (by kernel_rfl) (by kernel_rfl) (by kernel_rfl) ?_
          rotate_left 17
          simp only [List.take_succ_cons, List.take_zero]
          repeat (first
            | (refine wpD_skipv ?_ ?_ ?_
               focus rfl
               focus rfl
               simp only [Act.put, List.setIfInBounds_toArray, List.set_cons_succ, List.set_cons_zero])
            | (refine' wpD_val (c := _) ?_ (fun w => Kp.refl _ w) ?_ (fun wq hwq hfq => ?_) ?_
               rotate_left
               focus rfl
               focus rfl
               focus ((have cl := hwq.cell CLR.out (by have := World.block_lt_of_cell? wr _ CLR.out; simpa using this); have q4 := hwq.cell Q4R.out (by have := World.block_lt_of_cell? wr _ Q4R.out; simpa using this); have hr := hwq.cell ROWR.out (by have := World.block_lt_of_cell? wr _ ROWR.out; simpa using this); have nc := hwq.cell NCR.out (by have := World.block_lt_of_cell? wr _ NCR.out; simpa using this); obtain ⟨p1, p2, p3⟩ := P1.out; obtain ⟨p4, p5, p6⟩ := P2.out; obtain ⟨p7, p8⟩ := P3.out; have x0 := hwq.cell X0.out (by have := World.block_lt_of_cell? wr _ X0.out; simpa using this); have x1 := hwq.cell X1.out (by have := World.block_lt_of_cell? wr _ X1.out; simpa using this); have x2 := hwq.cell X2.out (by have := World.block_lt_of_cell? wr _ X2.out; simpa using this); have x3 := hwq.cell X3.out (by have := World.block_lt_of_cell? wr _ X3.out; simpa using this); have x4 := hwq.cell X4.out (by have := World.block_lt_of_cell? wr _ X4.out; simpa using this); have x5 := hwq.cell X5.out (by have := World.block_lt_of_cell? wr _ X5.out; simpa using this); have x6 := hwq.cell X6.out (by have := World.block_lt_of_cell? wr _ X6.out; simpa using this); have x7 := hwq.cell X7.out (by have := World.block_lt_of_cell? wr _ X7.out; simpa using this); have x8 := hwq.cell X8.out (by have := World.block_lt_of_cell? wr _ X8.out; simpa using this); have x9 := hwq.cell X9.out (by have := World.block_lt_of_cell? wr _ X9.out; simpa using this); have x10 := hwq.cell X10.out (by have := World.block_lt_of_cell? wr _ X10.out; simpa using this); simp only [Nat.add_zero] at x0); go_simp; first | done | rfl)
               simp only [Act.put, List.setIfInBounds_toArray, List.set_cons_succ, List.set_cons_zero])
            | (refine' wpD_con (c := _) ?_ ?_ (fun wq hwq hfq => ?_) ?_
               rotate_left
               focus rfl
               focus rfl
               focus ((have cl := hwq.cell CLR.out (by have := World.block_lt_of_cell? wr _ CLR.out; simpa using this); have q4 := hwq.cell Q4R.out (by have := World.block_lt_of_cell? wr _ Q4R.out; simpa using this); have hr := hwq.cell ROWR.out (by have := World.block_lt_of_cell? wr _ ROWR.out; simpa using this); have nc := hwq.cell NCR.out (by have := World.block_lt_of_cell? wr _ NCR.out; simpa using this); obtain ⟨p1, p2, p3⟩ := P1.out; obtain ⟨p4, p5, p6⟩ := P2.out; obtain ⟨p7, p8⟩ := P3.out; have x0 := hwq.cell X0.out (by have := World.block_lt_of_cell? wr _ X0.out; simpa using this); have x1 := hwq.cell X1.out (by have := World.block_lt_of_cell? wr _ X1.out; simpa using this); have x2 := hwq.cell X2.out (by have := World.block_lt_of_cell? wr _ X2.out; simpa using this); have x3 := hwq.cell X3.out (by have := World.block_lt_of_cell? wr _ X3.out; simpa using this); have x4 := hwq.cell X4.out (by have := World.block_lt_of_cell? wr _ X4.out; simpa using this); have x5 := hwq.cell X5.out (by have := World.block_lt_of_cell? wr _ X5.out; simpa using this); have x6 := hwq.cell X6.out (by have := World.block_lt_of_cell? wr _ X6.out; simpa using this); have x7 := hwq.cell X7.out (by have := World.block_lt_of_cell? wr _ X7.out; simpa using this); have x8 := hwq.cell X8.out (by have := World.block_lt_of_cell? wr _ X8.out; simpa using this); have x9 := hwq.cell X9.out (by have := World.block_lt_of_cell? wr _ X9.out; simpa using this); have x10 := hwq.cell X10.out (by have := World.block_lt_of_cell? wr _ X10.out; simpa using this); simp only [Nat.add_zero] at x0); go_simp; (try (rw [dUpon_enter])); fail)
               simp only [Act.put, List.setIfInBounds_toArray, List.set_cons_succ, List.set_cons_zero])
            | fail)
          refine wpD_nil ?_
          intro w5 hx5 hend
          clear hend
          have HRB5 := Lib.hid (HRBI.out.kp hx5 (by have := HRBI.out.lt; omega))
          have HKP5 := Lib.hid (HKPI.out.next hx5 (fun i hi e => by have := HKPI.out.size; omega))
          clear hx5
          have y0 := row_cell HRB5.out hnl 0 (by decide) rfl
          have y1 := row_cell HRB5.out hnl 1 (by decide) rfl
          have y2 := row_cell HRB5.out hnl 2 (by decide) rfl
          have y3 := row_cell HRB5.out hnl 3 (by decide) rfl
          have y4 := row_cell HRB5.out hnl 4 (by decide) rfl
          have y5 := row_cell HRB5.out hnl 5 (by decide) rfl
          have y6 := row_cell HRB5.out hnl 6 (by decide) rfl
          have y7 := row_cell HRB5.out hnl 7 (by decide) rfl
          have y8 := row_cell HRB5.out hnl 8 (by decide) rfl
          have y9 := row_cell HRB5.out hnl 9 (by decide) rfl
          have y10 := row_cell HRB5.out hnl 10 (by decide) rfl
          have f0 := HRB5.out.free (nv * 11 + 0)
          have f1 := HRB5.out.free (nv * 11 + 1)
          have f2 := HRB5.out.free (nv * 11 + 2)
          have f3 := HRB5.out.free (nv * 11 + 3)
          have f4 := HRB5.out.free (nv * 11 + 4)
          have f5 := HRB5.out.free (nv * 11 + 5)
          have f6 := HRB5.out.free (nv * 11 + 6)
          have f7 := HRB5.out.free (nv * 11 + 7)
          have f8 := HRB5.out.free (nv * 11 + 8)
          have f9 := HRB5.out.free (nv * 11 + 9)
          have f10 := HRB5.out.free (nv * 11 + 10)
          simp only [Nat.add_zero] at y0 f0
          go_upto_region 11 with (fail)
          obtain ⟨W2, hW2⟩ : ∃ W2, w5.setCells wB.heap.size (nv * 11) (rsC rj) = W2 := ⟨_, rfl⟩
          have hW3 : (((((((((((w5.setCell ⟨wB.heap.size, nv * 11, none⟩ (.int .i64 rj.err)).setCell ⟨wB.heap.size, nv * 11 + 1, none⟩ (.string rj.path)).setCell ⟨wB.heap.size, nv * 11 + 2, none⟩ (.string rj.data)).setCell ⟨wB.heap.size, nv * 11 + 3, none⟩ (.slice none 0 0)).setCell ⟨wB.heap.size, nv * 11 + 4, none⟩ (.int .i64 rj.s0)).setCell ⟨wB.heap.size, nv * 11 + 5, none⟩ (.int .i64 rj.s1)).setCell ⟨wB.heap.size, nv * 11 + 6, none⟩ (.int .i64 rj.s2)).setCell ⟨wB.heap.size, nv * 11 + 7, none⟩ (.int .i64 rj.s3)).setCell ⟨wB.heap.size, nv * 11 + 8, none⟩ (.int .i64 rj.s4)).setCell ⟨wB.heap.size, nv * 11 + 9, none⟩ (.int .i64 rj.s5)).setCell ⟨wB.heap.size, nv * 11 + 10, none⟩ (.int .i64 rj.s6)) = W2 := hW2
          rw [hW3]
          have hk2 : Kp (fun i => i = wB.heap.size) w5 W2 := by rw [← hW2]; exact kp_setCells _ _ _
          have hrp := row_put2 HRB5.out hnl rj
          rw [hW2] at hrp
          have HRP := Lib.hid hrp
          have HK2 := Lib.hid (HKP5.out.trans hk2)
          clear y0 y1 y2 y3 y4 y5 y6 y7 y8 y9 y10 f0 f1 f2 f3 f4 f5 f6 f7 f8 f9 f10 hW2 hW3 hk2 hrp
          go_wp2_with (fail)
          go_light
          exact ⟨⟨j + 1, by omega, by go_num, by rw [HNI.out]; exact HRP.out, HK2.out⟩, by simp [intOf]; omega⟩
        · have hje : j = l.length := by omega
          have k2 : ¬ (j : Int) < r.length := by have := HRL.out; omega
          have HR2 : Hid (RowB wr wB.heap.size reT 11 xs.length ((putTo xs.length pl rs (k + 1)).flatMap rsC)) := by
            have := HRBI.out
            rw [hje] at this
            show RowB _ _ _ _ _ _
            rw [HNX.out]
            exact this
          have HK2 := Lib.hid ((HKP.out.ext HX1.out).trans HKPI.out)
          clear hje hjl HNX
          go_wp2_with (fail)
          go_light
          exact ⟨⟨k + 1, by omega, by go_num, HR2.out, HK2.out⟩, by simp [intOf]; omega⟩
    · have hke : k = pl.length := by omega
      have k1 : ¬ (k : Int) < rs.length := by have := HFIT.out.1; omega
      have HF : Hid (ResAt wr (.slice (some ⟨wB.heap.size, 0, none⟩) xs.length xs.length) (putTo xs.length pl rs pl.length)) := by
        have hr := HRBR.out
        rw [hke] at hr
        have hn := putTo_len xs.length pl rs pl.length
        have hz : ((putTo xs.length pl rs pl.length).flatMap rsC).length = xs.length * 11 := by rw [rowK_len rsC 11 (fun _ => rfl), hn]
        have ho := hr.owns (m := xs.length) (by omega) (Nat.le_refl _) (by unfold maxLen; omega) (Nat.le_refl _)
        rw [List.take_of_length_le (by omega)] at ho
        exact ⟨by rw [hn]; exact Sl.of_owns ho, shp_owns ho⟩
      clear hke hlt HRBR
      go_wp2_with (fail)
      go_ret2
      go_light
      exact ⟨_, rfl, HF.out, HXR.out⟩
end Go.Proofs.YtmgnndhhpnedkaaGreatDoor

namespace Go.Proofs.YtmgnndhhpnedkaaGreatDoor
open Go.RowKit Av

abbrev rsV (r : ResV) : Value := .agg #[.int .i64 r.err, .string r.path, .string r.data, .slice none 0 0, .int .i64 r.s0, .int .i64 r.s1, .int .i64 r.s2, .int .i64 r.s3, .int .i64 r.s4, .int .i64 r.s5, .int .i64 r.s6]
set_option maxHeartbeats 3200000 in
theorem refOne_any (r : ResV) (w : World) : Calls Tryz.prog 40 #[rsV r, rsV r] w fun e w' => e = .returned (.bool true) ∧ Ext w w' := by
  obtain ⟨er, p, d, s0, s1, s2, s3, s4, s5, s6⟩ := r
  have HS := Lib.hid (fun W => refSame_any (.slice none 0 0) (.slice none 0 0) [] [] W (Sl.nil W 1) (Sl.nil W 1))
  obtain ⟨wA, hWA⟩ : ∃ wA, (w.alloc (.cells #[.int .i64 er, .string p, .string d, .slice none 0 0, .int .i64 s0, .int .i64 s1, .int .i64 s2, .int .i64 s3, .int .i64 s4, .int .i64 s5, .int .i64 s6] reT)).alloc (.cells #[.int .i64 er, .string p, .string d, .slice none 0 0, .int .i64 s0, .int .i64 s1, .int .i64 s2, .int .i64 s3, .int .i64 s4, .int .i64 s5, .int .i64 s6] reT) = wA := ⟨_, rfl⟩
  have hxA : Ext w wA := by rw [← hWA]; exact ((Kp.refl _ _).alloc _).alloc _
  have hA : Blk wA w.heap.size #[.int .i64 er, .string p, .string d, .slice none 0 0, .int .i64 s0, .int .i64 s1, .int .i64 s2, .int .i64 s3, .int .i64 s4, .int .i64 s5, .int .i64 s6] reT := by
    rw [← hWA]
    exact Blk.kp (heap_alloc_new w _) ((Kp.refl (fun _ => False) _).alloc _) (fun f => f)
  have hB : Blk wA (w.heap.size + 1) #[.int .i64 er, .string p, .string d, .slice none 0 0, .int .i64 s0, .int .i64 s1, .int .i64 s2, .int .i64 s3, .int .i64 s4, .int .i64 s5, .int .i64 s6] reT := by
    rw [← hWA]
    have := heap_alloc_new (w.alloc (.cells #[.int .i64 er, .string p, .string d, .slice none 0 0, .int .i64 s0, .int .i64 s1, .int .i64 s2, .int .i64 s3, .int .i64 s4, .int .i64 s5, .int .i64 s6] reT)) (.cells #[.int .i64 er, .string p, .string d, .slice none 0 0, .int .i64 s0, .int .i64 s1, .int .i64 s2, .int .i64 s3, .int .i64 s4, .int .i64 s5, .int .i64 s6] reT)
    rw [World.size_alloc] at this
    exact this
  have HA := Lib.hid hA
  have HB := Lib.hid hB
  have HX := Lib.hid hxA
  have HWA := Lib.hid hWA
  have a0 := hA.cell 0 _ rfl
  have a1 := hA.cell 1 _ rfl
  have a2 := hA.cell 2 _ rfl
  have a3 := hA.cell 3 _ rfl
  have b0 := hB.cell 0 _ rfl
  have b1 := hB.cell 1 _ rfl
  have b2 := hB.cell 2 _ rfl
  have b3 := hB.cell 3 _ rfl
  clear hA hB hxA hWA
  go_enter Tryz.func40, Tryz.ntmps40
  go_upto_region 1 with (fail)
  rw [HWA.out]
  go_wp2_with (fail)
  refine (HS.out wA).mono ?_
  rintro e w1 ⟨rfl, hx1⟩
  have hA1 := HA.out.kp hx1 (fun f => f)
  have hB1 := HB.out.kp hx1 (fun f => f)
  have a4 := hA1.cell 4 _ rfl
  have a5 := hA1.cell 5 _ rfl
  have a6 := hA1.cell 6 _ rfl
  have a7 := hA1.cell 7 _ rfl
  have a8 := hA1.cell 8 _ rfl
  have a9 := hA1.cell 9 _ rfl
  have a10 := hA1.cell 10 _ rfl
  have b4 := hB1.cell 4 _ rfl
  have b5 := hB1.cell 5 _ rfl
  have b6 := hB1.cell 6 _ rfl
  have b7 := hB1.cell 7 _ rfl
  have b8 := hB1.cell 8 _ rfl
  have b9 := hB1.cell 9 _ rfl
  have b10 := hB1.cell 10 _ rfl
  have HX1 := Lib.hid (HX.out.ext hx1)
  clear hx1 hA1 hB1 a0 a1 a2 a3 b0 b1 b2 b3
  go_wp2_with (fail)
  go_ret
  go_light
  refine ⟨ret_bool ?_, HX1.out⟩
  first | rfl | simp
def AlRel (w : World) (rs : List ResV) (i : Value) (W : World) : Prop := ∃ k : Nat, k ≤ rs.length ∧ i = .int .i64 k ∧ Ext w W
set_option maxRecDepth 8000 in
set_option maxHeartbeats 3200000 in
theorem refAll_any (v u : Value) (rs : List ResV) (w : World) (hv : ResAt w v rs) (hu : ResAt w u rs) : Calls Tryz.prog 21 #[v, u] w fun e w' => e = .returned (.bool true) ∧ Ext w w' := by
  obtain ⟨va, vc, rfl, _, hm, hvo⟩ := hv.open
  obtain ⟨ua, uc, rfl, _, _, huo⟩ := hu.open
  unfold maxLen at hm
  have HV := Lib.hid hvo
  have HU := Lib.hid huo
  clear hv hu hvo huo
  go_enter Tryz.func21, Tryz.ntmps21
  go_wp2_with (fail)
  go_loopw [5] (fun i W => AlRel w rs i W) (fun i _ => rs.length - (intOf i).toNat)
  case atStart => exact ⟨0, Nat.zero_le _, rfl, Kp.refl _ _⟩
  case round =>
    obtain ⟨k, hk, rfl, hx⟩ := hrel
    have HX := Lib.hid hx
    clear hx
    by_cases hlt : k < rs.length
    · have k1 : (k : Int) < rs.length := by omega
      obtain ⟨vb, voff, rfl, _, hvc⟩ := HV.out (by omega)
      obtain ⟨ub, uoff, rfl, _, huc⟩ := HU.out (by omega)
      have HVC := Lib.hid (fun W (h : Ext w W) i x (h11 : i < 11) (hx' : (rsC rs[k])[i]? = some x) => h.cell (hvc k hlt i x h11 hx') (fun f => f))
      have HUC := Lib.hid (fun W (h : Ext w W) i x (h11 : i < 11) (hx' : (rsC rs[k])[i]? = some x) => h.cell (huc k hlt i x h11 hx') (fun f => f))
      have P1 : Hid ((0 : Int) ≤ k ∧ (k : Int) < rs.length) := ⟨by omega, by omega⟩
      generalize rs[k] = r at HVC HUC
      obtain ⟨er, p, d, s0, s1, s2, s3, s4, s5, s6⟩ := r
      have HONE : Hid (∀ W, Calls Tryz.prog 40 #[.agg #[.int .i64 er, .string p, .string d, .slice none 0 0, .int .i64 s0, .int .i64 s1, .int .i64 s2, .int .i64 s3, .int .i64 s4, .int .i64 s5, .int .i64 s6], .agg #[.int .i64 er, .string p, .string d, .slice none 0 0, .int .i64 s0, .int .i64 s1, .int .i64 s2, .int .i64 s3, .int .i64 s4, .int .i64 s5, .int .i64 s6]] W fun e w' => e = .returned (.bool true) ∧ Ext W w') := fun W => refOne_any ⟨er, p, d, s0, s1, s2, s3, s4, s5, s6⟩ W
      clear hvc huc
      go_upto_region 6 with (fail)
      refine' wp_region_dag0 ((17, .val _) :: (18, .val _) :: (19, .val _) :: (20, .val _) :: (21, .val _) :: (22, .val _) :: (23, .val _) :: (24, .val _) :: (25, .val _) :: (26, .val _) :: []) (by exact ⟨fun _ _ _ _ _ => trivial, ⟨fun _ _ _ _ _ => trivial, ⟨fun _ _ _ _ _ => trivial, ⟨fun _ _ _ _ _ => trivial, ⟨fun _ _ _ _ _ => trivial, ⟨fun _ _ _ _ _ => trivial, ⟨fun _ _ _ _ _ => trivial, ⟨fun _ _ _ _ _ => trivial, ⟨fun _ _ _ _ _ => trivial, ⟨fun _ _ _ _ _ => trivial, trivial⟩⟩⟩⟩⟩⟩⟩⟩⟩⟩) (by kernel_rfl) (by kernel_rfl) (by kernel_rfl) ?_
      rotate_left 10
      repeat (first
        | (refine wpD_skipv ?_ ?_ ?_
           focus rfl
           focus rfl
           simp only [Act.put, List.setIfInBounds_toArray, List.set_cons_succ, List.set_cons_zero])
        | (refine' wpD_val (c := _) ?_ (fun w => Kp.refl _ w) ?_ (fun wq hwq hfq => ?_) ?_
           rotate_left
           focus rfl
           focus rfl
           focus ((have x0 := HVC.out wq (HX.out.ext hwq) 0 _ (by decide) rfl; have x1 := HVC.out wq (HX.out.ext hwq) 1 _ (by decide) rfl; have x2 := HVC.out wq (HX.out.ext hwq) 2 _ (by decide) rfl; have x3 := HVC.out wq (HX.out.ext hwq) 3 _ (by decide) rfl; have x4 := HVC.out wq (HX.out.ext hwq) 4 _ (by decide) rfl; have x5 := HVC.out wq (HX.out.ext hwq) 5 _ (by decide) rfl; have x6 := HVC.out wq (HX.out.ext hwq) 6 _ (by decide) rfl; have x7 := HVC.out wq (HX.out.ext hwq) 7 _ (by decide) rfl; have x8 := HVC.out wq (HX.out.ext hwq) 8 _ (by decide) rfl; have x9 := HVC.out wq (HX.out.ext hwq) 9 _ (by decide) rfl; have x10 := HVC.out wq (HX.out.ext hwq) 10 _ (by decide) rfl; have y0 := HUC.out wq (HX.out.ext hwq) 0 _ (by decide) rfl; have y1 := HUC.out wq (HX.out.ext hwq) 1 _ (by decide) rfl; have y2 := HUC.out wq (HX.out.ext hwq) 2 _ (by decide) rfl; have y3 := HUC.out wq (HX.out.ext hwq) 3 _ (by decide) rfl; have y4 := HUC.out wq (HX.out.ext hwq) 4 _ (by decide) rfl; have y5 := HUC.out wq (HX.out.ext hwq) 5 _ (by decide) rfl; have y6 := HUC.out wq (HX.out.ext hwq) 6 _ (by decide) rfl; have y7 := HUC.out wq (HX.out.ext hwq) 7 _ (by decide) rfl; have y8 := HUC.out wq (HX.out.ext hwq) 8 _ (by decide) rfl; have y9 := HUC.out wq (HX.out.ext hwq) 9 _ (by decide) rfl; have y10 := HUC.out wq (HX.out.ext hwq) 10 _ (by decide) rfl; simp only [Nat.add_zero] at x0 y0; obtain ⟨p1, p2⟩ := P1.out); go_simp; first | done | rfl)
           simp only [Act.put, List.setIfInBounds_toArray, List.set_cons_succ, List.set_cons_zero])
        | (refine' wpD_con (c := _) ?_ ?_ (fun wq hwq hfq => ?_) ?_
           rotate_left
           focus rfl
           focus rfl
           focus ((have x0 := HVC.out wq (HX.out.ext hwq) 0 _ (by decide) rfl; have x1 := HVC.out wq (HX.out.ext hwq) 1 _ (by decide) rfl; have x2 := HVC.out wq (HX.out.ext hwq) 2 _ (by decide) rfl; have x3 := HVC.out wq (HX.out.ext hwq) 3 _ (by decide) rfl; have x4 := HVC.out wq (HX.out.ext hwq) 4 _ (by decide) rfl; have x5 := HVC.out wq (HX.out.ext hwq) 5 _ (by decide) rfl; have x6 := HVC.out wq (HX.out.ext hwq) 6 _ (by decide) rfl; have x7 := HVC.out wq (HX.out.ext hwq) 7 _ (by decide) rfl; have x8 := HVC.out wq (HX.out.ext hwq) 8 _ (by decide) rfl; have x9 := HVC.out wq (HX.out.ext hwq) 9 _ (by decide) rfl; have x10 := HVC.out wq (HX.out.ext hwq) 10 _ (by decide) rfl; have y0 := HUC.out wq (HX.out.ext hwq) 0 _ (by decide) rfl; have y1 := HUC.out wq (HX.out.ext hwq) 1 _ (by decide) rfl; have y2 := HUC.out wq (HX.out.ext hwq) 2 _ (by decide) rfl; have y3 := HUC.out wq (HX.out.ext hwq) 3 _ (by decide) rfl; have y4 := HUC.out wq (HX.out.ext hwq) 4 _ (by decide) rfl; have y5 := HUC.out wq (HX.out.ext hwq) 5 _ (by decide) rfl; have y6 := HUC.out wq (HX.out.ext hwq) 6 _ (by decide) rfl; have y7 := HUC.out wq (HX.out.ext hwq) 7 _ (by decide) rfl; have y8 := HUC.out wq (HX.out.ext hwq) 8 _ (by decide) rfl; have y9 := HUC.out wq (HX.out.ext hwq) 9 _ (by decide) rfl; have y10 := HUC.out wq (HX.out.ext hwq) 10 _ (by decide) rfl; simp only [Nat.add_zero] at x0 y0; obtain ⟨p1, p2⟩ := P1.out); go_simp; (try (rw [dUpon_enter])); ((with_reducible refine (HONE.out _).mono ?_); rintro e w' ⟨rfl, hx⟩; exact DEnd.con hx))
           simp only [Act.put, List.setIfInBounds_toArray, List.set_cons_succ, List.set_cons_zero])
        | fail)
      refine wpD_nil ?_
      intro w5 hx5 hend
      clear hend
      have HX5 := Lib.hid (HX.out.ext hx5)
      clear hx5
      go_wp2_with (fail)
      go_light
      exact ⟨⟨k + 1, by omega, by go_num, HX5.out⟩, by simp [intOf]; omega⟩
    · have k1 : ¬ (k : Int) < rs.length := by omega
      go_wp2_with (fail)
      go_ret
      exact ⟨ret_bool rfl, HX.out⟩
end Go.Proofs.YtmgnndhhpnedkaaGreatDoor
