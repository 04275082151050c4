/- Walk of package aviarylaw17: LockFrees. -/
import Derived.Test.YtdaoamnemkiloaaDoorAvLaw17F
import Derived.Test.YtdaoamnemkiloaaDoorAvActs
import Derived.Test.YtdaoamnemkiloaaDoorAvLockLaw2
import Derived.Deep.RegionHeld3
namespace Go.Proofs.YtdaoamnemkiloaaDoor
set_option maxRecDepth 100000
open Go.RowKit Av

def runTakes (l : List ActV) (st : St) : St := l.foldl (fun s a => takeL s a.who a.ps) st
theorem runTakes_next {xs : List ActV} {n : Nat} (hn : n < xs.length) (st : St) : runTakes (xs.take (n + 1)) st = takeL (runTakes (xs.take n) st) xs[n].who xs[n].ps := by
  unfold runTakes
  rw [List.take_succ_eq_append_getElem hn, List.foldl_append]; rfl
theorem runTakes_len (xs : List ActV) (k : Nat) (h : ∀ a ∈ xs, a.ps.length ≤ k) : (runTakes xs []).length ≤ k * xs.length := by
  have := foldl_len (fun s (a : ActV) => takeL s a.who a.ps) (fun a => a.ps.length) (fun s a => takeL_len s a.who a.ps) xs [] k h
  simpa [runTakes] using this
/-- The loop of Takes. -/
def FreesRel (w : World) (bl m : Nat) (xs : List ActV) (i : Value) (wr : World) : Prop :=
  ∃ n : Nat, n ≤ xs.length ∧ i = .int .i64 n ∧ LS w wr bl m (runTakes (xs.take n) []) ∧ (∀ a ∈ xs.take n, a.ps.length ≤ 6)
/-- The loop that looks at each path. -/
def LookRel (w : World) (bl m : Nat) (st : St) (ps : List ByteArray) (i : Value) (wr : World) : Prop :=
  ∃ n : Nat, n ≤ ps.length ∧ i = .int .i64 n ∧ LS w wr bl m st
theorem take_next' {α : Type} {b : List α} {n : Nat} (hn : n < b.length) {R : α → Prop} (h1 : ∀ y ∈ b.take n, R y) (h2 : R b[n]) : ∀ y ∈ b.take (n + 1), R y := by
  intro y hy
  rw [List.take_succ_eq_append_getElem hn] at hy
  rcases List.mem_append.1 hy with h | h
  · exact h1 y h
  · rw [List.mem_singleton] at h; exact h ▸ h2
theorem LS.drew {w0 w : World} {b m : Nat} {st : St} (h : LS w0 w b m st) : LS w0 w.drew b m st := h.more (Kp.refl _ w).drew

set_option maxRecDepth 100000 in
set_option maxHeartbeats 4000000 in
theorem lockFrees_any (va vb : Value) (xs : List ActV) (who : Int) (ps : List ByteArray) (w : World) (hG : GL w) (ha : Acts w va xs) (hb : Strs w vb ps) (hsb : ∀ x ∈ ps, x.size ≤ maxLen) :
    Calls Tryd.prog 7 #[va, .int .i64 who, vb] w fun e w' => e = .returned (.bool true) ∧ Ext w w' := by
  have HSTB := Lib.hid hb
  obtain ⟨aa, ca, rfl, hca, hma, hoa⟩ := Acts.open ha
  obtain ⟨ab, cb, rfl, hcb, hmb, hob⟩ := Strs.open hb
  unfold maxLen at hma hmb
  have HOA := Lib.hid hoa
  have HOB := Lib.hid hob
  have HSA := Lib.hid ha.2
  have HSB := Lib.hid hsb
  clear ha hb hoa hob hsb
  by_cases hla : xs.length ≤ 20
  · by_cases hlb : ps.length ≤ 6
    · go_enter Tryd.func7, Tryd.ntmps7
      go_wp2_with (fail)
      refine (awake_any w hG).mono ?_
      rintro e w1 ⟨rfl, hx1⟩
      go_wp2_with (fail)
      refine (lockNew_any w1).mono ?_
      rintro e w2 ⟨bl, m, rfl, h2, hb, hm, hx2⟩
      have s2 : LS w w2 bl m [] := LS.start hG h2 (by have := hx1.size; omega) (hx1.ext hx2)
      clear h2 hb hm hx1 hx2
      go_wp2_with (fail)
      go_loopw [8] (FreesRel w bl m xs) (fun i _ => xs.length - (intOf i).toNat)
      case atStart => exact ⟨0, Nat.zero_le _, rfl, s2, by simp⟩
      case round =>
        clear s2
        obtain ⟨n, hn, rfl, sr, hsix⟩ := hrel
        have HSIX := Lib.hid hsix
        clear hsix
        by_cases hlt : n < xs.length
        · obtain ⟨ba, oa, rfl, hba, hcaa⟩ := HOA.out (by omega)
          obtain ⟨hstr, hsz, _⟩ := HSA.out _ (List.getElem_mem hlt)
          have HS := Lib.hid hstr
          have HSZ := Lib.hid hsz
          obtain ⟨a2, c2, hv, hc2, hm2, _⟩ := Strs.open hstr
          obtain ⟨_, hc1, hc2'⟩ := hcaa n hlt
          rw [hv] at hc2'
          have HC1 := Lib.hid (fun wx (k : Ext w wx) => k.cell hc1 (fun f => f))
          have HC2 := Lib.hid (fun wx (k : Ext w wx) => k.cell hc2' (fun f => f))
          have q2 := HC2.out wr sr.ext
          have k1 : (n : Int) < xs.length := by omega
          rw [hv] at HS
          clear hcaa hstr hsz hc1 hc2' hv
          unfold maxLen at hm2
          by_cases h6 : xs[n].ps.length ≤ 6
          · go_wp2_with (fail)
            have sd := sr.drew
            go_region_held3 (fun w' => w'.cell? ⟨ba, oa + n * 3 + 1, none⟩ = some (.int .i64 xs[n].who) ∧ w'.cell? ⟨ba, oa + n * 3 + 2, none⟩ = some (.slice a2 xs[n].ps.length c2) ∧ Ext w w')
              ((refine (fun hE => And.intro (HC1.out _ hE) (And.intro (HC2.out _ hE) hE)) ?_; first | exact sd.ext | exact (by assumption : LS w _ _ _ _).ext))
              ((go_at_call 12; refine (LS.take hG sd xs[n].who _ xs[n].ps HS.out HSZ.out _ _ rfl rfl).mono ?_; rintro e w' ⟨rfl, s'⟩))
            go_wp2_with (fail)
            rw [← runTakes_next hlt] at s'
            go_light
            exact ⟨⟨n + 1, by omega, by go_num, s', take_next' hlt HSIX.out h6⟩, by simp [intOf]; omega⟩
          · go_wp2_with (fail)
            go_ret
            go_light
            exact ⟨rfl, sr.ext⟩
        · obtain rfl : n = xs.length := by omega
          have hall : ∀ a ∈ xs, a.ps.length ≤ 6 := fun a h => HSIX.out a (by rw [List.take_length]; exact h)
          have hlen := runTakes_len xs 6 hall
          rw [List.take_length] at sr
          obtain ⟨st, hst⟩ : ∃ st, runTakes xs [] = st := ⟨_, rfl⟩
          rw [hst] at sr hlen
          have hadd := freeN_add st who
          have hw1 : IntKind.i64.wrap ((st.length : Int) - freeN st who) = (freeL st who).length := (IntWalk.i64_in _ (by omega)).trans (by omega)
          have B1 : Hid (st.length ≤ 1000000) := by have : st.length ≤ 1000000 := by omega
                                                    exact this
          have B2 : Hid ((freeL st who).length ≤ 1000000) := by have : (freeL st who).length ≤ 1000000 := by omega
                                                                exact this
          have B3 := Lib.hid hadd
          clear hall hlen hst hadd HSIX
          go_wp2_with (fail)
          refine (lockLen_any bl m st wr sr.here).mono ?_
          rintro e w3 ⟨rfl, rfl⟩
          go_wp2_with (fail)
          refine (LS.free hG sr who B1.out (freeN st who) _ rfl B3.out).mono ?_
          rintro e w4 ⟨rfl, s4⟩
          go_wp2_with (fail)
          refine (lockLen_any bl m _ w4 s4.here).mono ?_
          rintro e w5 ⟨rfl, rfl⟩
          go_wp2_with (fail)
          refine (LS.free hG s4 who B2.out 0 (freeL st who) (free_free st who) (by simp)).mono ?_
          rintro e w6 ⟨rfl, s6⟩
          clear sr s4
          go_wp2_with (fail)
          have HLAW := Lib.hid (frees_law st who ps)
          obtain ⟨st', hst'⟩ : ∃ s, takeL (freeL st who) who ps = s := ⟨_, rfl⟩
          have HST' := Lib.hid hst'
          rw [hst'] at HLAW
          clear hst'
          cases hr : wrongL (freeL st who) who ps with
          | some x =>
            have hne := wrong_ne hr
            have k0 : ((0 : Int) < ps.length) := by omega
            have hst2 : takeL (freeL st who) who ps = freeL st who := by simp [takeL, hr]
            refine (LS.take hG s6 who _ ps HSTB.out HSB.out _ _ hr hst2).mono ?_
            rintro e w7 ⟨rfl, s7⟩
            clear hr hst2
            go_wp2_with (fail)
            refine (lockLen_any bl m _ w7 s7.here).mono ?_
            rintro e w8 ⟨rfl, rfl⟩
            go_wp2_with (fail)
            go_ret
            exact ⟨rfl, s7.ext⟩
          | none =>
            have HR := Lib.hid (HLAW.out hr)
            refine (LS.take hG s6 who _ ps HSTB.out HSB.out _ _ hr HST'.out).mono ?_
            rintro e w7 ⟨rfl, s7⟩
            clear hr s6
            go_wp2_with (fail)
            go_loopw [13] (LookRel w bl m st' ps) (fun i _ => ps.length - (intOf i).toNat)
            case atStart => exact ⟨0, Nat.zero_le _, rfl, s7⟩
            case round =>
              clear s7
              obtain ⟨k, hk, rfl, sr⟩ := hrel
              by_cases hlt : k < ps.length
              · obtain ⟨ba, oa, rfl, hba, hcaa⟩ := HOB.out (by omega)
                have HC := Lib.hid (fun wx (j : Ext w wx) => j.cell (hcaa k hlt) (fun f => f))
                have hc := HC.out wr sr.ext
                have k1 : (k : Int) < ps.length := by omega
                have hmem := List.getElem_mem hlt
                have hz := HSB.out _ hmem
                have HM := Lib.hid hmem
                clear hcaa hmem
                go_wp2_with (fail)
                refine (held_any bl m st' ps[k] wr sr.here).mono ?_
                rw [(HR.out _ HM.out).1]
                rintro e w8 ⟨rfl, rfl⟩
                go_wp2_with (fail)
                refine (blocks_any bl m st' who ps[k] wr sr.here sr.gl hz).mono ?_
                rw [(HR.out _ HM.out).2]
                rintro e w9 ⟨rfl, hx9⟩
                go_wp2_with (fail)
                go_light
                exact ⟨⟨k + 1, by omega, by go_num, sr.more hx9⟩, by simp [intOf]; omega⟩
              · go_wp2_with (fail)
                go_ret
                go_light
                exact ⟨rfl, sr.ext⟩
    · go_enter Tryd.func7, Tryd.ntmps7
      go_wp2_with (fail)
      refine (awake_any w hG).mono ?_
      rintro e w1 ⟨rfl, hx1⟩
      go_wp2_with (fail)
      go_ret
      exact ⟨rfl, hx1⟩
  · go_enter Tryd.func7, Tryd.ntmps7
    go_wp2_with (fail)
    refine (awake_any w hG).mono ?_
    rintro e w1 ⟨rfl, hx1⟩
    go_wp2_with (fail)
    go_ret
    exact ⟨rfl, hx1⟩
end Go.Proofs.YtdaoamnemkiloaaDoor
