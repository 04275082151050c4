/- Walks of package plan: places, place, Verdict, First, Local. -/
import Derived.Test.YtmgnndhhpnedkaaGreatDoorAvWPlan
namespace Go.Proofs.YtmgnndhhpnedkaaGreatDoor
set_option maxRecDepth 100000
open Go.RowKit Av

abbrev voT : TypeId := 47
abbrev vosT : TypeId := 26
def voC (v : VoteV) : List Value := [.int .i64 v.err, .int .i64 v.at_]
theorem vo_facts : ElemOk Tryz.prog vosT voT 2 := ⟨by kernel_rfl, by kernel_rfl⟩
theorem vo_one (xs : List VoteV) : ∀ y ∈ xs.flatMap voC, y.oneCell' = true := by
  intro y hy
  obtain ⟨o, _, h⟩ := List.mem_flatMap.1 hy
  simp only [voC, List.mem_cons, List.not_mem_nil, or_false] at h
  rcases h with rfl | rfl <;> rfl
/-- Votes that can be read. -/
def VotesAt (w : World) (v : Value) (vs : List VoteV) : Prop := Sl w 2 v vs.length (vs.flatMap voC) ∧ Shp v
theorem VotesAt.ext {w w' : World} {v : Value} {vs : List VoteV} (h : VotesAt w v vs) (k : Ext w w') : VotesAt w' v vs := ⟨h.1.ext k, h.2⟩
theorem VotesAt.open {w : World} {v : Value} {vs : List VoteV} (h : VotesAt w v vs) : ∃ a c, v = .slice a vs.length c ∧ vs.length ≤ c ∧ vs.length ≤ maxLen ∧ (0 < vs.length → ∃ b off, a = some ⟨b, off, none⟩ ∧ b < w.heap.size ∧ ∀ k (hk : k < vs.length),
    w.cell? ⟨b, off + k * 2, none⟩ = some (.int .i64 vs[k].err) ∧ w.cell? ⟨b, off + k * 2 + 1, none⟩ = some (.int .i64 vs[k].at_)) := by
  obtain ⟨a, c, rfl, h1, h2, h3⟩ := Sl.rows (f := voC) (fun _ => rfl) h.1
  refine ⟨a, c, rfl, h1, h2, fun hn => ?_⟩
  obtain ⟨b, off, rfl, hb, hc⟩ := h3 hn
  exact ⟨b, off, rfl, hb, fun k hk => ⟨hc k hk 0 _ (by decide) rfl, hc k hk 1 _ (by decide) rfl⟩⟩
/-- Where the first one is, or -1. -/
def idxP {α : Type} (p : α → Bool) (xs : List α) : Int := match xs.findIdx? p with
  | some i => i
  | none => -1
theorem idxP_at {α : Type} {p : α → Bool} {xs : List α} {k : Nat} (hk : k < xs.length) (h : ∀ x ∈ xs.take k, p x = false) (hp : p xs[k] = true) : idxP p xs = k := by
  unfold idxP
  have : xs.findIdx? p = some k := by
    rw [List.findIdx?_eq_some_iff_getElem]
    refine ⟨hk, hp, fun j hj => ?_⟩
    have := h (xs[j]) (by rw [List.mem_take_iff_getElem]; exact ⟨j, by omega, rfl⟩)
    simp [this]
  rw [this]
theorem idxP_none {α : Type} {p : α → Bool} {xs : List α} (h : ∀ x ∈ xs, p x = false) : idxP p xs = -1 := by
  unfold idxP
  have : xs.findIdx? p = none := by rw [List.findIdx?_eq_none_iff]; exact h
  rw [this]
theorem idxP_any {α : Type} (p : α → Bool) (xs : List α) : decide (0 ≤ idxP p xs) = xs.any p := by
  unfold idxP
  cases h : xs.findIdx? p with
  | none =>
    have : xs.any p = false := by rw [List.any_eq_false]; intro x hx; simp [List.findIdx?_eq_none_iff.1 h x hx]
    rw [this]
    rfl
  | some i =>
    obtain ⟨hi, hp, _⟩ := List.findIdx?_eq_some_iff_getElem.1 h
    have : xs.any p = true := List.any_eq_true.2 ⟨_, List.getElem_mem hi, hp⟩
    rw [this]
    simp
set_option maxHeartbeats 400000 in
theorem busyF_any (e a : Int) (w : World) : Calls Tryz.prog 35 #[.agg #[.int .i64 e, .int .i64 a]] w fun r w' => r = .returned (.bool (decide (e = 12))) ∧ Ext w w' := by
  have he : (e == 12) = decide (e = 12) := by rw [Bool.eq_iff_iff]; simp
  go_enter Tryz.func35, Tryz.ntmps35
  go_wp2_with (fail)
  go_ret
  go_light
  exact ⟨ret_bool (by first | exact he | rfl), (Kp.refl _ _).alloc _⟩
def BIdx (w : World) (vs : List VoteV) (i : Value) (wr : World) : Prop :=
  ∃ k : Nat, k ≤ vs.length ∧ i = .int .i64 k ∧ (∀ x ∈ vs.take k, (fun v : VoteV => decide (v.err = 12)) x = false) ∧ Ext w wr
set_option maxHeartbeats 800000 in
theorem busyIdx_any (v : Value) (vs : List VoteV) (w : World) (h : VotesAt w v vs) :
    Calls Tryz.prog 52 #[v, .func (.func 35) #[] #[]] w fun e w' => e = .returned (.int .i64 (idxP (fun v : VoteV => decide (v.err = 12)) vs)) ∧ Ext w w' := by
  obtain ⟨a, c, rfl, hcc, hm, hop⟩ := VotesAt.open h
  have HO := Lib.hid hop
  unfold maxLen at hm
  clear h hop
  go_enter Tryz.func52, Tryz.ntmps52
  go_wp2_with (fail)
  go_loopw [8] (BIdx w vs) (fun i _ => vs.length - (intOf i).toNat)
  case atStart => exact ⟨0, Nat.zero_le _, rfl, by simp, Kp.refl _ _⟩
  case round =>
    obtain ⟨k, hk, rfl, hnone, hx⟩ := hrel
    have HN := Lib.hid hnone
    clear hnone
    by_cases hlt : k < vs.length
    · obtain ⟨b, off, rfl, _, hc⟩ := HO.out (by omega)
      obtain ⟨c0, c1⟩ := hc k hlt
      have d0 := hx.cell c0 (fun f => f)
      have d1 := hx.cell c1 (fun f => f)
      have k1 : (k : Int) < vs.length := by omega
      have HC := Lib.hid (busyF_any vs[k].err vs[k].at_)
      clear hc c0 c1
      go_wp2_with (fail)
      refine (HC.out _).mono ?_
      rintro e w1 ⟨rfl, hx1⟩
      cases hb : decide (vs[k].err = 12) with
      | false =>
        have HB := Lib.hid hb
        clear hb
        go_wp2_with (fail)
        go_light
        exact ⟨⟨k + 1, by omega, by go_num, take_allP hlt HN.out HB.out, hx.ext hx1⟩, by simp [intOf]; omega⟩
      | true =>
        have HB := Lib.hid hb
        clear hb
        go_wp2_with (fail)
        go_ret
        go_light
        exact ⟨ret_val (by rw [idxP_at hlt HN.out HB.out]; rfl), hx.ext hx1⟩
    · have hall : ∀ x ∈ vs, (fun v : VoteV => decide (v.err = 12)) x = false := by
        have := HN.out
        rwa [List.take_of_length_le (by omega)] at this
      have HI := Lib.hid (idxP_none hall)
      clear hall HN
      go_wp2_with (fail)
      go_ret
      go_light
      exact ⟨ret_val (by rw [HI.out]; rfl), hx⟩
set_option maxHeartbeats 400000 in
theorem busyAny_any (v : Value) (vs : List VoteV) (w : World) (h : VotesAt w v vs) :
    Calls Tryz.prog 34 #[v, .func (.func 35) #[] #[]] w fun e w' => e = .returned (.bool (busyV vs)) ∧ Ext w w' := by
  have HC := Lib.hid (busyIdx_any v vs w h)
  have HI := Lib.hid (idxP_any (fun v : VoteV => decide (v.err = 12)) vs)
  obtain ⟨z, hz⟩ : ∃ z, idxP (fun v : VoteV => decide (v.err = 12)) vs = z := ⟨_, rfl⟩
  rw [hz] at HC HI
  clear hz
  go_enter Tryz.func34, Tryz.ntmps34
  go_wp2_with (fail)
  refine (HC.out).mono ?_
  rintro e w1 ⟨rfl, hx1⟩
  go_wp2_with (fail)
  go_ret
  go_light
  exact ⟨ret_bool HI.out, hx1⟩
/-! A plan's places. -/
def plAt (pl : List (List Nat)) (i : Int) : List Nat := if i < 0 ∨ (pl.length : Int) ≤ i then [] else pl.getD i.toNat []
theorem plAt_nat (pl : List (List Nat)) (i : Nat) : plAt pl i = pl.getD i [] := by
  unfold plAt
  by_cases h : (pl.length : Int) ≤ i
  · rw [if_pos (.inr h)]; simp [List.getD, List.getElem?_eq_none (show pl.length ≤ i by omega)]
  · rw [if_neg (by omega), Int.toNat_natCast]
abbrev planV (s n : Int) (ov sv plv : Value) : Value := .agg #[.int .i64 s, .int .i64 n, ov, sv, plv]
theorem PlanR.open {w : World} {ov sv plv : Value} {xs : List OpV} {ss : List Nat} {pl : List (List Nat)} (h : PlanR w ov sv plv xs ss pl) : (∃ a c, ov = .slice a xs.length c) ∧ (∃ a c, sv = .slice a ss.length c) ∧ ∃ a c, plv = .slice a pl.length c := by
  obtain ⟨vs, hv⟩ := h.pls
  obtain ⟨a1, c1, e1, _⟩ := h.ops.open
  obtain ⟨a2, c2, e2, _⟩ := h.shs.open
  obtain ⟨a3, c3, e3, _⟩ := hv.open
  exact ⟨⟨a1, c1, e1⟩, ⟨a2, c2, e2⟩, a3, c3, e3⟩
theorem PlanR.row {w : World} {ov sv : Value} {a : Option Addr} {c l : Nat} {xs : List OpV} {ss : List Nat} {pl : List (List Nat)} (h : PlanR w ov sv (.slice a l c) xs ss pl) (k : Nat) (hk : k < pl.length) :
    ∃ b off a' c', a = some ⟨b, off, none⟩ ∧ w.cell? ⟨b, off + k, none⟩ = some (.slice a' pl[k].length c') ∧ NatsR w (.slice a' pl[k].length c') pl[k] := by
  obtain ⟨vs, hv⟩ := h.pls
  obtain ⟨a3, c3, e3, _, _, hop⟩ := hv.open
  simp only [Value.slice.injEq] at e3
  obtain ⟨rfl, _, _⟩ := e3
  obtain ⟨b, off, rfl, _, hc⟩ := hop (by omega)
  obtain ⟨a', c', h1, h2⟩ := hc k hk
  exact ⟨b, off, a', c', rfl, h1, h2⟩
set_option maxHeartbeats 800000 in
theorem places_any (s n i : Int) (ov sv plv : Value) (xs : List OpV) (ss : List Nat) (pl : List (List Nat)) (w : World) (h : PlanR w ov sv plv xs ss pl) :
    Calls Tryz.prog 37 #[planV s n ov sv plv, .int .i64 i] w fun e w' => ∃ v, e = .returned v ∧ NatsR w' v (plAt pl i) ∧ Ext w w' := by
  have HP := Lib.hid h
  obtain ⟨⟨a1, c1, rfl⟩, ⟨a2, c2, rfl⟩, a3, c3, rfl⟩ := h.open
  clear h
  unfold planV
  by_cases hi : i < 0
  · have HE : Hid (plAt pl i = []) := by show _ = _; unfold plAt; rw [if_pos (.inl hi)]
    go_enter Tryz.func37, Tryz.ntmps37
    go_wp2_with (fail)
    go_ret
    exact ⟨_, rfl, by rw [HE.out]; exact NatsR.nil _, (Kp.refl _ _).alloc _⟩
  · by_cases hj : (pl.length : Int) ≤ i
    · have HE : Hid (plAt pl i = []) := by show _ = _; unfold plAt; rw [if_pos (.inr hj)]
      go_enter Tryz.func37, Tryz.ntmps37
      go_wp2_with (fail)
      go_ret
      exact ⟨_, rfl, by rw [HE.out]; exact NatsR.nil _, (Kp.refl _ _).alloc _⟩
    · obtain ⟨k, rfl⟩ := Int.eq_ofNat_of_zero_le (show 0 ≤ i by omega)
      have hk : k < pl.length := by omega
      have HE : Hid (plAt pl k = pl[k]) := by show _ = _; rw [plAt_nat]; simp [List.getD, List.getElem?_eq_getElem hk]
      obtain ⟨b, off, a', c', rfl, hc, hn⟩ := HP.out.row k hk
      obtain ⟨wB, hWB⟩ : ∃ wB, w.alloc (.cells #[.int .i64 s, .int .i64 n, .slice a1 xs.length c1, .slice a2 ss.length c2, .slice (some ⟨b, off, none⟩) pl.length c3] plT) = wB := ⟨_, rfl⟩
      have hxB : Ext w wB := by rw [← hWB]; exact (Kp.refl _ _).alloc _
      have hbB : Blk wB w.heap.size #[.int .i64 s, .int .i64 n, .slice a1 xs.length c1, .slice a2 ss.length c2, .slice (some ⟨b, off, none⟩) pl.length c3] plT := by rw [← hWB]; exact heap_alloc_new w _
      have hc' := hxB.cell hc (fun f => f)
      have c4 := hbB.cell 4 _ rfl
      have k1 : (k : Int) < pl.length := by omega
      have HN := Lib.hid (hn.ext hxB)
      have HX := Lib.hid hxB
      clear hn hxB hbB hc HP
      go_enter Tryz.func37, Tryz.ntmps37
      go_wp2_with (fail)
      go_ret
      exact ⟨_, rfl, by rw [HE.out]; exact HN.out, HX.out⟩
set_option maxHeartbeats 800000 in
theorem place_any (s n : Int) (i : Nat) (e a : Int) (ov sv plv : Value) (xs : List OpV) (ss : List Nat) (pl : List (List Nat)) (w : World) (h : PlanR w ov sv plv xs ss pl) :
    Calls Tryz.prog 36 #[planV s n ov sv plv, .int .i64 i, .agg #[.int .i64 e, .int .i64 a]] w fun r w' => r = .returned (.int .i64 (placeOf pl i ⟨e, a⟩)) ∧ Ext w w' := by
  have HP := Lib.hid (fun W (k : Ext w W) => places_any s n i ov sv plv xs ss pl W (h.ext k))
  obtain ⟨⟨a1, c1, rfl⟩, ⟨a2, c2, rfl⟩, a3, c3, rfl⟩ := h.open
  rw [plAt_nat] at HP
  have HD : Hid (placeOf pl i ⟨e, a⟩ = if a < 0 ∨ ((pl.getD i []).length : Int) ≤ a then -1 else (((pl.getD i []).getD a.toNat 0 : Nat) : Int)) := rfl
  generalize pl.getD i [] = l at HP HD
  clear h
  unfold planV at HP ⊢
  obtain ⟨wB, hWB⟩ : ∃ wB, (w.alloc (.cells #[.int .i64 s, .int .i64 n, .slice a1 xs.length c1, .slice a2 ss.length c2, .slice a3 pl.length c3] plT)).alloc (.cells #[.int .i64 e, .int .i64 a] voT) = wB := ⟨_, rfl⟩
  have hxB : Ext w wB := by rw [← hWB]; exact ((Kp.refl _ _).alloc _).alloc _
  have hb0 : Blk wB w.heap.size #[.int .i64 s, .int .i64 n, .slice a1 xs.length c1, .slice a2 ss.length c2, .slice a3 pl.length c3] plT := by
    rw [← hWB]
    have h1 : Blk (w.alloc (.cells #[.int .i64 s, .int .i64 n, .slice a1 xs.length c1, .slice a2 ss.length c2, .slice a3 pl.length c3] plT)) w.heap.size _ _ := heap_alloc_new w _
    exact h1.kp ((Kp.refl (fun _ => False) _).alloc _) (fun f => f)
  have hb1 : Blk wB (w.heap.size + 1) #[.int .i64 e, .int .i64 a] voT := by
    rw [← hWB]
    have := heap_alloc_new (w.alloc (.cells #[.int .i64 s, .int .i64 n, .slice a1 xs.length c1, .slice a2 ss.length c2, .slice a3 pl.length c3] plT)) (.cells #[.int .i64 e, .int .i64 a] voT)
    rw [World.size_alloc] at this
    exact this
  have q0 := hb0.cell 0 _ rfl
  have q1 := hb0.cell 1 _ rfl
  have q2 := hb0.cell 2 _ rfl
  have q3 := hb0.cell 3 _ rfl
  have q4 := hb0.cell 4 _ rfl
  have HX := Lib.hid hxB
  have HB1 := Lib.hid hb1
  clear hxB hb0 hb1
  go_enter Tryz.func36, Tryz.ntmps36
  go_wp2_with (fail)
  refine (HP.out _ HX.out).mono ?_
  rintro r w1 ⟨v, rfl, hv, hx⟩
  obtain ⟨va, vc, rfl, hcv, hm, hop⟩ := hv.open
  have HO := Lib.hid hop
  have hb1 := HB1.out.kp hx (fun f => f)
  have p0 := hb1.cell 0 _ rfl
  have p1 := hb1.cell 1 _ rfl
  have HXX := Lib.hid (HX.out.ext hx)
  clear hop hv hx hb1 q0 q1 q2 q3 q4 hcv hm
  by_cases h1 : a < 0
  · have HE : Hid (placeOf pl i ⟨e, a⟩ = -1) := by show _ = _; rw [HD.out, if_pos (.inl h1)]
    go_wp2_with (fail)
    go_ret
    exact ⟨ret_val (by rw [HE.out]; rfl), HXX.out⟩
  · by_cases h2 : (l.length : Int) ≤ a
    · have HE : Hid (placeOf pl i ⟨e, a⟩ = -1) := by show _ = _; rw [HD.out, if_pos (.inr h2)]
      go_wp2_with (fail)
      go_ret
      exact ⟨ret_val (by rw [HE.out]; rfl), HXX.out⟩
    · obtain ⟨k, rfl⟩ := Int.eq_ofNat_of_zero_le (show 0 ≤ a by omega)
      have hk : k < l.length := by omega
      have k1 : (k : Int) < l.length := by omega
      have HE : Hid (placeOf pl i ⟨e, (k : Int)⟩ = (l[k] : Int)) := by show _ = _; rw [HD.out, if_neg (by omega), Int.toNat_natCast]; simp [List.getD, List.getElem?_eq_getElem hk]
      obtain ⟨b, off, rfl, _, hc⟩ := HO.out (by omega)
      have hck := hc k hk
      clear hc
      go_wp2_with (fail)
      go_ret
      exact ⟨ret_val (by rw [HE.out]; rfl), HXX.out⟩
theorem verdTo_step {pl : List (List Nat)} {bz : Bool} {vs : List VoteV} {k : Nat} (hk : k < vs.length) : verdTo pl bz vs (k + 1) = verdStep pl bz (verdTo pl bz vs k) k vs[k] := by
  rw [verdTo]; simp [List.getD, List.getElem?_eq_getElem hk]
def VerRel (w : World) (pl : List (List Nat)) (bz : Bool) (vs : List VoteV) (e a i : Value) (W : World) : Prop :=
  ∃ k : Nat, k ≤ vs.length ∧ i = .int .i64 k ∧ e = .int .i64 (verdTo pl bz vs k).1 ∧ a = .int .i64 (verdTo pl bz vs k).2 ∧ Ext w W
set_option maxHeartbeats 1600000 in
theorem verdict_any (s n : Int) (ov sv plv v : Value) (xs : List OpV) (ss : List Nat) (pl : List (List Nat)) (vs : List VoteV) (w : World) (h : PlanR w ov sv plv xs ss pl) (hl : ss.length = pl.length) (hv : VotesAt w v vs) :
    Calls Tryz.prog 13 #[planV s n ov sv plv, v] w fun r w' => r = .returned (.tuple #[.int .i64 (verdict pl vs).1, .int .i64 (verdict pl vs).2]) ∧ Ext w w' := by
  have HP := Lib.hid (fun W (k : Ext w W) (i : Nat) (e a : Int) => place_any s n i e a ov sv plv xs ss pl W (h.ext k))
  have HB := Lib.hid (fun W (k : Ext w W) => busyAny_any v vs W (hv.ext k))
  obtain ⟨⟨a1, c1, rfl⟩, ⟨a2, c2, rfl⟩, a3, c3, rfl⟩ := h.open
  obtain ⟨va, vc, rfl, hcc, hm, hop⟩ := VotesAt.open hv
  have HO := Lib.hid hop
  unfold maxLen at hm
  clear h hv hop
  unfold planV at HP ⊢
  obtain ⟨wB, hWB⟩ : ∃ wB, w.alloc (.cells #[.int .i64 s, .int .i64 n, .slice a1 xs.length c1, .slice a2 ss.length c2, .slice a3 pl.length c3] plT) = wB := ⟨_, rfl⟩
  have hxB : Ext w wB := by rw [← hWB]; exact (Kp.refl _ _).alloc _
  have hbB : Blk wB w.heap.size #[.int .i64 s, .int .i64 n, .slice a1 xs.length c1, .slice a2 ss.length c2, .slice a3 pl.length c3] plT := by rw [← hWB]; exact heap_alloc_new w _
  have q3 := hbB.cell 3 _ rfl
  have HX := Lib.hid hxB
  have HBB := Lib.hid hbB
  clear hxB hbB
  by_cases hne : vs.length = pl.length
  · have HV : Hid (verdict pl vs = verdTo pl (busyV vs) vs vs.length) := by show _ = _; unfold verdict; rw [if_neg (by omega)]
    have e1 : ((vs.length : Int) = (ss.length : Int)) := by omega
    have HNE := Lib.hid hne
    clear hne hl
    go_enter Tryz.func13, Tryz.ntmps13
    go_wp2_with (fail)
    refine (HB.out wB HX.out).mono ?_
    rintro r w1 ⟨rfl, hx1⟩
    generalize busyV vs = bz at HV
    have HX1 := Lib.hid (HX.out.ext hx1)
    have HBX := Lib.hid hx1
    clear hx1 q3 e1
    go_wp2_with (fail)
    go_loopw [7, 8, 22] (fun e a i W => VerRel w1 pl bz vs e a i W) (fun _ _ i _ => vs.length - (intOf i).toNat)
    case atStart => exact ⟨0, Nat.zero_le _, rfl, rfl, rfl, Kp.refl _ _⟩
    case round =>
      obtain ⟨k, hk, rfl, rfl, rfl, hxr⟩ := hrel
      have HXR := Lib.hid hxr
      clear hxr
      by_cases hlt : k < vs.length
      · obtain ⟨b, off, rfl, _, hc⟩ := HO.out (by omega)
        obtain ⟨c0, c1'⟩ := hc k hlt
        have hxw := (HX1.out.ext HXR.out)
        have d0 := hxw.cell c0 (fun f => f)
        have d1 := hxw.cell c1' (fun f => f)
        have k1 : (k : Int) < vs.length := by omega
        have HSTEP := Lib.hid (verdTo_step (pl := pl) (bz := bz) hlt)
        obtain ⟨⟨er, at_⟩, hvk⟩ : ∃ x, vs[k] = x := ⟨_, rfl⟩
        rw [hvk] at HSTEP d0 d1
        simp only at d0 d1
        obtain ⟨wX, hwX⟩ : ∃ wX, wr.alloc (.cells #[.int .i64 er, .int .i64 at_] voT) = wX := ⟨_, rfl⟩
        have hxX : Ext wr wX := by rw [← hwX]; exact (Kp.refl _ _).alloc _
        have hbX : Blk wX wr.heap.size #[.int .i64 er, .int .i64 at_] voT := by rw [← hwX]; exact heap_alloc_new wr _
        have g0 := hbX.cell 0 _ rfl
        have g1 := hbX.cell 1 _ rfl
        have hbp := ((HBB.out.kp HBX.out (fun f => f)).kp HXR.out (fun f => f)).kp hxX (fun f => f)
        have q0 := hbp.cell 0 _ rfl
        have q1 := hbp.cell 1 _ rfl
        have q2 := hbp.cell 2 _ rfl
        have q3 := hbp.cell 3 _ rfl
        have q4 := hbp.cell 4 _ rfl
        have HXX := Lib.hid (HXR.out.ext hxX)
        have HXW := Lib.hid (hxw.ext hxX)
        have HWX := Lib.hid hwX
        have HBX2 := Lib.hid hbX
        obtain ⟨⟨ve, va'⟩, hve⟩ : ∃ x, verdTo pl bz vs k = x := ⟨_, rfl⟩
        rw [hve] at HSTEP
        rw [hve]
        simp only
        clear c0 c1' hc hvk hxX hbX hbp hxw hwX hve
        go_upto_region 8 with (fail)
        rw [HWX.out]
        by_cases h1 : er = 0
        · have e1 : (er == 0) = true := by rw [beq_iff_eq]; exact h1
          have HE : Hid (verdTo pl bz vs (k + 1) = (ve, va')) := by show _ = _; rw [HSTEP.out]; unfold verdStep; rw [if_pos (.inl h1)]
          go_wp2_with (fail)
          go_light
          exact ⟨⟨k + 1, by omega, by go_num, by rw [HE.out], by rw [HE.out], HXX.out⟩, by simp [intOf]; omega⟩
        · have e1 : (er == 0) = false := beq_eq_false_iff_ne.2 h1
          have hcs : (bz = true ∧ ¬ er = 12) ∨ (bz = true ∧ er = 12) ∨ bz = false := by
            cases bz
            · exact .inr (.inr rfl)
            · by_cases h : er = 12
              · exact .inr (.inl ⟨rfl, h⟩)
              · exact .inl ⟨rfl, h⟩
          rcases hcs with ⟨rfl, h12⟩ | hcs
          · have HE : Hid (verdTo pl true vs (k + 1) = (ve, va')) := by show _ = _; rw [HSTEP.out]; unfold verdStep; rw [if_pos (.inr ⟨rfl, h12⟩)]
            go_wp2_with (fail)
            go_light
            exact ⟨⟨k + 1, by omega, by go_num, by rw [HE.out], by rw [HE.out], HXX.out⟩, by simp [intOf]; omega⟩
          · have HE0 : Hid (verdTo pl bz vs (k + 1) = if ve = 0 ∨ placeOf pl k ⟨er, at_⟩ < va' then (er, placeOf pl k ⟨er, at_⟩) else (ve, va')) := by
              show _ = _
              rw [HSTEP.out]
              unfold verdStep
              rw [if_neg]
              rintro (h | ⟨h, h'⟩)
              · exact h1 h
              · rcases hcs with ⟨_, h2⟩ | h2
                · exact h' h2
                · rw [h2] at h; cases h
            have HPC := Lib.hid (HP.out wX HXW.out k er at_)
            generalize placeOf pl k ⟨er, at_⟩ = pv at HPC HE0
            have htest : ((ve == 0) = true ∧ (ve = 0 ∨ pv < va')) ∨ ((ve == 0) = false ∧ pv < va' ∧ (ve = 0 ∨ pv < va')) ∨ ((ve == 0) = false ∧ ¬ pv < va' ∧ ¬ (ve = 0 ∨ pv < va')) := by
              by_cases ha : ve = 0
              · exact .inl ⟨by rw [beq_iff_eq]; exact ha, .inl ha⟩
              · by_cases hb : pv < va'
                · exact .inr (.inl ⟨beq_eq_false_iff_ne.2 ha, hb, .inr hb⟩)
                · exact .inr (.inr ⟨beq_eq_false_iff_ne.2 ha, hb, fun h => by rcases h with h | h <;> contradiction⟩)
            clear HSTEP h1
            have HT := Lib.hid htest
            clear htest
            rcases hcs with ⟨rfl, rfl⟩ | rfl
            all_goals
              go_wp2_with (fail)
              refine HPC.out.mono ?_
              rintro r w9 ⟨rfl, hx9⟩
              have g0' := HBX2.out.kp hx9 (fun f => f)
              have g0 := g0'.cell 0 _ rfl
              have HX9 := Lib.hid (HXX.out.ext hx9)
              clear g0' hx9 q0 q1 q2 q3 q4 g1 HPC
              rcases HT.out with ⟨t1, t3⟩ | ⟨t1, t2, t3⟩ | ⟨t1, t2, t3⟩
              · have HE := HE0.out
                rw [if_pos t3] at HE
                have HE := Lib.hid HE
                clear t3 HE0
                go_wp2_with (fail)
                go_light
                exact ⟨⟨k + 1, by omega, by go_num, by rw [HE.out], by rw [HE.out], HX9.out⟩, by simp [intOf]; omega⟩
              · have HE := HE0.out
                rw [if_pos t3] at HE
                have HE := Lib.hid HE
                clear t3 HE0
                go_wp2_with (fail)
                go_light
                exact ⟨⟨k + 1, by omega, by go_num, by rw [HE.out], by rw [HE.out], HX9.out⟩, by simp [intOf]; omega⟩
              · have HE := HE0.out
                rw [if_neg t3] at HE
                have HE := Lib.hid HE
                clear t3 HE0
                go_wp2_with (fail)
                go_light
                exact ⟨⟨k + 1, by omega, by go_num, by rw [HE.out], by rw [HE.out], HX9.out⟩, by simp [intOf]; omega⟩
      · have hke : k = vs.length := by omega
        have HVE := HV.out
        rw [← hke] at HVE
        have HVE := Lib.hid HVE
        have k1 : ¬ (k : Int) < vs.length := by omega
        clear hke hlt hk
        go_wp2_with (fail)
        go_ret2
        go_light
        exact ⟨by first | rfl | (rw [HVE.out]; rfl), HX1.out.ext HXR.out⟩
  · have HV : Hid (verdict pl vs = (1, -1)) := by show _ = _; unfold verdict; rw [if_pos hne]
    have e1 : ¬ ((vs.length : Int) = (ss.length : Int)) := by omega
    go_enter Tryz.func13, Tryz.ntmps13
    go_wp2_with (fail)
    go_ret2
    go_light
    rw [HV.out]
    exact ⟨rfl, (Kp.refl _ _).alloc _⟩
def firstN (ss : List Nat) : Int := match ss with
  | [] => -1
  | x :: _ => (x : Int)
set_option maxHeartbeats 800000 in
theorem planFirst_any (s n : Int) (ov sv plv : Value) (xs : List OpV) (ss : List Nat) (pl : List (List Nat)) (w : World) (h : PlanR w ov sv plv xs ss pl) :
    Calls Tryz.prog 12 #[planV s n ov sv plv] w fun r w' => r = .returned (.int .i64 (firstN ss)) ∧ Ext w w' := by
  have hsh := h.shs.open
  obtain ⟨⟨a1, c1, rfl⟩, ⟨a2, c2, rfl⟩, a3, c3, rfl⟩ := h.open
  obtain ⟨a4, c4, e4, hcc, hm, hop⟩ := hsh
  simp only [Value.slice.injEq] at e4
  obtain ⟨rfl, _, rfl⟩ := e4
  clear h
  unfold planV
  by_cases h0 : ss = []
  · subst h0
    clear hop
    go_enter Tryz.func12, Tryz.ntmps12
    go_wp2_with (fail)
    go_ret
    exact ⟨rfl, (Kp.refl _ _).alloc _⟩
  · have h2 : 0 < ss.length := List.length_pos_iff.2 h0
    have e1 : ((ss.length : Int) == 0) = false := beq_eq_false_iff_ne.2 (by omega)
    obtain ⟨b, off, rfl, hb, hc⟩ := hop (by omega)
    have HE : Hid (firstN ss = (ss[0] : Int)) := by
      show _ = _
      cases ss with
      | nil => exact absurd rfl h0
      | cons x r => rfl
    have hc0 := hc 0 h2
    rw [Nat.add_zero] at hc0
    have k1 : (0 : Int) < ss.length := by omega
    obtain ⟨wB, hWB⟩ : ∃ wB, w.alloc (.cells #[.int .i64 s, .int .i64 n, .slice a1 xs.length c1, .slice (some ⟨b, off, none⟩) ss.length c2, .slice a3 pl.length c3] plT) = wB := ⟨_, rfl⟩
    have hxB : Ext w wB := by rw [← hWB]; exact (Kp.refl _ _).alloc _
    have hbB : Blk wB w.heap.size #[.int .i64 s, .int .i64 n, .slice a1 xs.length c1, .slice (some ⟨b, off, none⟩) ss.length c2, .slice a3 pl.length c3] plT := by rw [← hWB]; exact heap_alloc_new w _
    have q3 := hbB.cell 3 _ rfl
    have q0 := hxB.cell hc0 (fun f => f)
    have HX := Lib.hid hxB
    clear hbB hxB h0 hc hc0
    go_enter Tryz.func12, Tryz.ntmps12
    go_wp2_with (fail)
    go_ret
    exact ⟨ret_val (by rw [HE.out]; rfl), HX.out⟩
set_option maxHeartbeats 800000 in
theorem planLocal_any (s n : Int) (ov sv plv : Value) (xs : List OpV) (ss : List Nat) (pl : List (List Nat)) (w : World) (h : PlanR w ov sv plv xs ss pl) :
    Calls Tryz.prog 11 #[planV s n ov sv plv] w fun r w' => r = .returned (.bool (decide (ss.length = 1))) ∧ Ext w w' := by
  obtain ⟨⟨a1, c1, rfl⟩, ⟨a2, c2, rfl⟩, a3, c3, rfl⟩ := h.open
  have e1 : ((ss.length : Int) == 1) = decide (ss.length = 1) := by rw [Bool.eq_iff_iff]; simp; omega
  clear h
  unfold planV
  go_enter Tryz.func11, Tryz.ntmps11
  go_wp2_with (fail)
  go_ret
  exact ⟨ret_bool (by first | exact e1 | rfl), (Kp.refl _ _).alloc _⟩
end Go.Proofs.YtmgnndhhpnedkaaGreatDoor
