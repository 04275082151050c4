/- Texts put together: AvSoF, AvDagE, AvSoG. -/
import Derived.Test.YtnlefnhdhigecaaGreatDoorAvG33
import Derived.Test.YtnlefnhdhigecaaGreatDoorAvHDagX

/- Walks: the solo: changed. -/
namespace Go.Proofs.YtnlefnhdhigecaaGreatDoor
set_option maxRecDepth 100000
open Go.RowKit Av

variable {w0 w w' : World} {g K N : Nat} {B : SoB} {s : SoV}
theorem SoOk.fire (h : SoOk N s) (p : ByteArray) (ch : Int) : SoOk N (fireS s p ch) := by
  refine ⟨h.ss, h.zx, fun q => ?_, h.last⟩
  have h1 := addEv_len s.ss (fireT p ch s.wl) s.ev q
  have h2 := h.ev q
  have h3 := fire_len p ch s.wl
  show ((fireT p ch s.wl).foldl (addEv s.ss) s.ev q).length + (fireG p ch s.wl).length ≤ N
  omega
theorem SoOk.chStep (h : SoOk N s) (x : OpV × Rp) : SoOk N (chStep s x) := by
  unfold Proofs.YtnlefnhdhigecaaGreatDoor.chStep
  split
  · exact h
  · exact h.fire _ _
theorem SoOk.chs : ∀ (l : List (OpV × Rp)) {s : SoV}, SoOk N s → SoOk N (l.foldl Proofs.YtnlefnhdhigecaaGreatDoor.chStep s)
  | [], _, h => h
  | x :: l, _, h => SoOk.chs l (h.chStep x)
def ChgRel (w0 w1 : World) (g K : Nat) (B : SoB) (s : SoV) (l : List (OpV × Rp)) (s13 : Value) (wr : World) : Prop :=
  ∃ (k : Nat) (B1 : SoB), k ≤ l.length ∧ s13 = .int .i64 k ∧ SoR w0 wr g K B1 ((l.take k).foldl chStep s) ∧ Kp (SoFr g B) w1 wr ∧ ∀ i, SoFr g B1 i → SoFr g B i ∨ w1.heap.size ≤ i
set_option maxHeartbeats 6400000 in
theorem soChanged_any (h : SoR w0 w g K B s) (hok : SoOk N s) (hN : N ≤ 100000) (hG : GL w0) (v u : Value) (ops : List OpV) (r : RpV) (base : Nat) (ho : OpsAt w v ops) (hoff : ∀ i, v.ownBlock = some i → ¬ SoFr g B i) (hr : RpAt w base u r) (hres : r.err = 0 → r.res.length = ops.length ∧ ∀ x ∈ r.res, x.path.size ≤ maxLen) :
    Calls Tryz.prog 84 #[.pointer (some ⟨g, 0, none⟩), v, .agg (rplA r u)] w fun e w' => (∃ u, e = .returned u) ∧ SoPost w0 w g K B (changedS s ops r) w' := by
  obtain ⟨wB, hWB⟩ : ∃ wB, w.alloc (.cells (rplA r u) rplT) = wB := ⟨_, rfl⟩
  have hxB : Ext w wB := by rw [← hWB]; exact (Kp.refl _ _).alloc _
  have hB : Blk wB w.heap.size (rplA r u) rplT := by rw [← hWB]; exact heap_alloc_new w _
  obtain ⟨us, hus, hue⟩ := hr
  obtain ⟨ua, uc, rfl, hmu, hou⟩ := (hus.ext hxB).open
  obtain ⟨va, vc, rfl, hcc, hm, hop⟩ := OpsAt.open ho
  have HWB := Lib.hid hWB
  have HXB := Lib.hid hxB
  have HH := Lib.hid h
  obtain ⟨rn, rz, re, ra, rr⟩ := r
  simp only at hue hres
  unfold rplA at hB HWB ⊢
  simp only at hB HWB ⊢
  have b2 := hB.cell 2 _ rfl
  by_cases hre : re = 0
  · subst hre
    obtain ⟨hrl, hrp⟩ := hres rfl
    have hzl : (ops.zip rr).length = ops.length := by rw [List.length_zip]; omega
    have HE : Hid (changedS s ops ⟨rn, rz, 0, ra, rr⟩ = (ops.zip rr).foldl chStep s) := by show _ = _; unfold changedS; rw [if_neg (by simp)]
    have HB := Lib.hid hB
    have HUS := Lib.hid (hus.ext hxB)
    have HUE := Lib.hid hue
    have HRP := Lib.hid hrp
    have HOFF := Lib.hid hoff
    have HOP := Lib.hid hop
    have HOK := Lib.hid hok
    have HZL := Lib.hid hzl
    have HRL := Lib.hid hrl
    have HGG := Lib.hid hG
    have hsB := h.ext hxB
    have HSB := Lib.hid hsB
    unfold maxLen at hm
    clear h hok hG ho hoff hres hus hue hrp hop hB hxB hWB hou hzl hrl hsB hmu
    go_enter Tryz.func84, Tryz.ntmps84
    go_upto_region 1 with (fail)
    rw [HWB.out]
    go_wp2_with (fail)
    go_loopw [13] (fun s13 wr => ChgRel w0 wB g K B s (ops.zip rr) s13 wr) (fun s13 _ => ops.length - (intOf s13).toNat)
    case atStart => exact ⟨0, B, Nat.zero_le _, rfl, HSB.out, Kp.refl _ _, fun i hi => .inl hi⟩
    case round =>
      clear HSB b2
      obtain ⟨k, B1, hk, rfl, hs, hkp, hown⟩ := hrel
      rw [HZL.out] at hk
      have HKP := Lib.hid hkp
      have HOWN := Lib.hid hown
      by_cases hlt : k < ops.length
      · have hlr : k < rr.length := by have := HRL.out; omega
        have hlu : k < us.length := by have := congrArg List.length HUE.out; rw [List.length_map] at this; omega
        obtain ⟨og, oo, rfl, hog, hoc⟩ := HOP.out (by omega)
        have hocell := hoc k hlt
        have hoffg : ¬ SoFr g B og := HOFF.out og rfl
        have hztk : ((ops.zip rr).take (k + 1)).foldl chStep s = chStep (((ops.zip rr).take k).foldl chStep s) (ops[k], rr[k]) := by
          rw [List.take_succ_eq_append_getElem (by rw [HZL.out]; exact hlt), List.foldl_append, List.getElem_zip]
          rfl
        have hur := (HUS.out.kpT hkp (HH.out.safeA_noT HXB.out (by decide)) (HH.out.safeA_noT HXB.out (by decide)))
        obtain ⟨_, _, hue2, _, huo⟩ := hur.open
        simp only [Value.slice.injEq, true_and] at hue2
        obtain ⟨rfl, rfl⟩ := hue2
        obtain ⟨ub, uo, rfl, hub, huc⟩ := huo (by omega)
        have hpc := huc k hlu 1 _ (by decide) rfl
        have hrk : us[k].r = rr[k] := by
          have h1 : (us.map (·.r))[k]'(by rw [List.length_map]; exact hlu) = us[k].r := List.getElem_map ..
          rw [← h1]
          simp only [HUE.out]
        rw [hrk] at hpc
        have hps := HRP.out _ (List.getElem_mem hlr)
        generalize rr[k] = x at hztk hpc hps hrk
        generalize ops[k] = o at hztk hocell
        obtain ⟨ok, op, od, ov, of⟩ := o
        simp only at hocell
        have hxw : ∀ (j : Nat) (y : Value), w.cell? ⟨og, j, none⟩ = some y → wr.cell? ⟨og, j, none⟩ = some y := fun j y hy => hkp.cell (HXB.out.cell hy (fun f => f)) hoffg
        have e0 := hxw _ _ hocell.1
        have e1 := hxw _ _ hocell.2.1
        have e2 := hxw _ _ hocell.2.2.1
        have e3 := hxw _ _ hocell.2.2.2.1
        have e4 := hxw _ _ hocell.2.2.2.2
        have hok1 := SoOk.chs ((ops.zip rr).take k) HOK.out
        obtain ⟨wC, hWC⟩ : ∃ wC, wr.alloc (.cells #[.int .i64 ok, .string op, .string od, .int .i64 ov, .int .i64 of] 33) = wC := ⟨_, rfl⟩
        have hxC : Ext wr wC := by rw [← hWC]; exact (Kp.refl _ _).alloc _
        have hoC : Blk wC wr.heap.size #[.int .i64 ok, .string op, .string od, .int .i64 ov, .int .i64 of] 33 := by rw [← hWC]; exact heap_alloc_new wr _
        have hsC := hs.ext hxC
        have HSC := Lib.hid hsC
        have HFIRE := Lib.hid (fun W (hW : SoR w0 W g K B1 (((ops.zip rr).take k).foldl chStep s)) (c : Int) => soFire_any hW hok1 hN ((HGG.out.ext hW.ex)) x.path c hps)
        generalize ((ops.zip rr).take k).foldl chStep s = sk at hztk HSC HFIRE hs hsC hok1
        have HTK := Lib.hid hztk
        have HXC := Lib.hid hxC
        have HWC := Lib.hid hWC
        have hb4 := (HB.out.kp hkp ((HH.out.ext HXB.out).safeA.blk HB.out (by decide))).kp hxC (fun f => f)
        have c4 := hb4.cell 4 _ rfl
        have p1 := hxC.cell hpc (fun f => f)
        have hI1 : (0 : Int) ≤ (k : Int) := by omega
        have hI2 : (k : Int) < (us.length : Int) := by omega
        have hI3 : (k : Int) < (ops.length : Int) := by omega
        have a0 := hoC.cell 0 _ rfl
        clear hocell hztk hur huo huc hub hpc hps hrk hxw hok1 hWC hxC hoC hsC hs hkp hown hog hoc hb4
        go_upto_region 5 with (fail)
        rw [HWC.out]
        clear e0 e1 e2 e3 e4
        by_cases k1 : ok = 1
        · subst k1
          go_wp2_with (fail)
          refine (HFIRE.out wC HSC.out 1).mono ?_
          rintro e w5 ⟨⟨u5, rfl⟩, hp5⟩
          obtain ⟨B2, hB2, hk2, ho2⟩ := hp5
          have HB2 := Lib.hid hB2
          have HK2 := Lib.hid hk2
          have HO2 := Lib.hid ho2
          clear hB2 hk2 ho2
          go_wp2_with (fail)
          go_light
          refine ⟨⟨k + 1, B2, ?_, ?_, ?_, ?_, fun i hi => ?_⟩, ?_⟩
          · have := HZL.out; omega
          · go_num
          · rw [HTK.out]
            unfold chStep chOf
            simp only
            exact HB2.out
          · refine (HKP.out.next HXC.out (fun i _ f => f.elim)).next HK2.out (fun i hi hs => ?_)
            rcases HOWN.out i hs with h | h
            · exact h
            · omega
          · rcases HO2.out i hi with h | h
            · exact HOWN.out i h
            · exact .inr (by have h1 := HKP.out.size; have h2 := HXC.out.size; omega)
          · simp [intOf]; omega
        · by_cases k2 : ok = 2
          · subst k2
            go_wp2_with (fail)
            refine (HFIRE.out wC HSC.out 2).mono ?_
            rintro e w5 ⟨⟨u5, rfl⟩, hp5⟩
            obtain ⟨B2, hB2, hk2, ho2⟩ := hp5
            have HB2 := Lib.hid hB2
            have HK2 := Lib.hid hk2
            have HO2 := Lib.hid ho2
            clear hB2 hk2 ho2
            go_wp2_with (fail)
            go_light
            refine ⟨⟨k + 1, B2, ?_, ?_, ?_, ?_, fun i hi => ?_⟩, ?_⟩
            · have := HZL.out; omega
            · go_num
            · rw [HTK.out]
              unfold chStep chOf
              simp only
              exact HB2.out
            · refine (HKP.out.next HXC.out (fun i _ f => f.elim)).next HK2.out (fun i hi hs => ?_)
              rcases HOWN.out i hs with h | h
              · exact h
              · omega
            · rcases HO2.out i hi with h | h
              · exact HOWN.out i h
              · exact .inr (by have h1 := HKP.out.size; have h2 := HXC.out.size; omega)
            · simp [intOf]; omega
          · by_cases k3 : ok = 3
            · subst k3
              go_wp2_with (fail)
              refine (HFIRE.out wC HSC.out 3).mono ?_
              rintro e w5 ⟨⟨u5, rfl⟩, hp5⟩
              obtain ⟨B2, hB2, hk2, ho2⟩ := hp5
              have HB2 := Lib.hid hB2
              have HK2 := Lib.hid hk2
              have HO2 := Lib.hid ho2
              clear hB2 hk2 ho2
              go_wp2_with (fail)
              go_light
              refine ⟨⟨k + 1, B2, ?_, ?_, ?_, ?_, fun i hi => ?_⟩, ?_⟩
              · have := HZL.out; omega
              · go_num
              · rw [HTK.out]
                unfold chStep chOf
                simp only
                exact HB2.out
              · refine (HKP.out.next HXC.out (fun i _ f => f.elim)).next HK2.out (fun i hi hs => ?_)
                rcases HOWN.out i hs with h | h
                · exact h
                · omega
              · rcases HO2.out i hi with h | h
                · exact HOWN.out i h
                · exact .inr (by have h1 := HKP.out.size; have h2 := HXC.out.size; omega)
              · simp [intOf]; omega
            · go_wp2_with (fail)
              go_light
              refine ⟨⟨k + 1, B1, ?_, ?_, ?_, HKP.out.next HXC.out (fun i _ f => f.elim), HOWN.out⟩, ?_⟩
              · have := HZL.out; omega
              · go_num
              · rw [HTK.out]
                unfold chStep chOf
                simp only [if_neg k1, if_neg k2, if_neg k3, if_true]
                exact HSC.out
              · simp [intOf]; omega
      · obtain rfl : k = ops.length := by omega
        have ht : (ops.zip rr).take ops.length = ops.zip rr := List.take_of_length_le (by rw [HZL.out]; exact Nat.le_refl _)
        rw [ht] at hs
        have HS := Lib.hid hs
        clear hs hkp hown ht
        go_wp2_with (fail)
        go_end0
        rw [HE.out]
        refine ⟨⟨_, rfl⟩, B1, HS.out, (Ext.kp HXB.out).trans HKP.out, fun i hi => ?_⟩
        rcases HOWN.out i hi with h | h
        · exact .inl h
        · exact .inr (Nat.le_trans HXB.out.size h)
  · have HE : Hid (changedS s ops ⟨rn, rz, re, ra, rr⟩ = s) := by show _ = _; unfold changedS; rw [if_pos hre]
    clear h hok hG ho hoff hres hus hue hop hB hxB hWB hou
    go_enter Tryz.func84, Tryz.ntmps84
    go_upto_region 1 with (fail)
    rw [HWB.out]
    go_wp2_with (fail)
    refine bodyPost_ret (results_none rfl _ _ _) rfl ?_
    rw [HE.out]
    exact ⟨⟨_, rfl⟩, (SoPost.refl HH.out).ext HXB.out⟩
end Go.Proofs.YtnlefnhdhigecaaGreatDoor

/- A drawn region in which one operation alone makes memory: where it lies is known. No program. -/
namespace Av.X
set_option maxRecDepth 100000
open Go Go.RowKit
theorem stab_eq : ∀ S : List (Tmp × TSpec), Stab (fun a b => a = b) S
  | [] => trivial
  | _ :: r => ⟨fun _ _ _ e h => e ▸ h, stab_eq r⟩
variable {P : Program}
/-- Words need not stand in later worlds: an operation that only reads leaves the world as it is. -/
theorem wp_region_dagE {id : Nat} {Q : Exit → Act → World → Prop} {a : Act} {w : World} {l : List Oper} (G : Nat → Prop) (n : Nat) (C : List (Tmp × List Tmp × List Tmp)) (D0 : List Tmp) (S : List (Tmp × TSpec)) (hini : Ini S w.drew D0) (hm : P.follows .mixedOrders = true) (hB : dagXB .any l.toArray C D0 n = true) (hsz : dstB l.toArray a.tmps.size = true)
    (h : WpD P l.toArray (fun a b => a = b) (fun a b => Kp (fun i => w.heap.size ≤ i ∨ G i) a b) w S C (fun a' => ∀ w', Kp (fun i => w.heap.size ≤ i ∨ G i) w w' → Ends l.toArray S C n a' w' → PutE l.toArray S n w' → wpList P l.toArray Q (l.drop n) a' w') (l.take n) 0 a) : (Code.region id l.toArray true).wp P Q a w :=
  wp_region_dagX n S C D0 (fun a b => Kp (fun i => w.heap.size ≤ i ∨ G i) a b) (fun w => Kp.refl _ w) (fun _ _ _ h k => h.trans k) (Kp.refl _ w).drew hm hini hB hsz (h.out (stab_eq S) (fun _ _ h => h ▸ Kp.refl _ _))
end Av.X

/- Walks: the solo: Ask, refused. -/
namespace Go.Proofs.YtnlefnhdhigecaaGreatDoor
set_option maxRecDepth 100000
open Go.RowKit Av

abbrev reqT : TypeId := 71
variable {w0 w w' : World} {g K N : Nat} {B : SoB} {s : SoV}
def AskPost (w0 w : World) (g K N : Nat) (B : SoB) (X : SoV × RpV) (e : Ending) (w' : World) : Prop :=
  ∃ u, e = .returned (.agg (rplA X.2 u)) ∧ RpAt w' w.heap.size u X.2 ∧ SoPost w0 w g (K + 16) B X.1 w' ∧ SoOk (N + 1) X.1
theorem SoOk.up (h : SoOk N s) : SoOk (N + 1) s := ⟨h.ss.mono (Nat.le_succ N), ⟨h.zx.1, by have := h.zx.2; omega⟩, fun q => by have := h.ev q; omega, h.last⟩
theorem SoPost.more {L M : Nat} (h : SoPost w0 w g L B s w') (hl : L ≤ M) : SoPost w0 w g M B s w' := by
  obtain ⟨B', h1, h2, h3⟩ := h
  exact ⟨B', h1.mono hl, h2, h3⟩
/-- A block that is none of the solo's is written. -/
theorem SoPost.then {L : Nat} {S : Nat → Prop} {w1 : World} {s' : SoV} (h : SoPost w0 w g L B s' w1) (k : Kp S w1 w') (hS : ∀ i, S i → w.heap.size ≤ i) (h1 : ∀ B', SoR w0 w1 g L B' s' → (∀ i, SoFr g B' i → SoFr g B i ∨ w.heap.size ≤ i) → Kp (SoFr g B) w w1 → SoR w0 w' g L B' s') : SoPost w0 w g L B s' w' := by
  obtain ⟨B', h2, h3, h4⟩ := h
  exact ⟨B', h1 B' h2 h4 h3, h3.next k (fun i hi hs => by have := hS i hs; omega), h4⟩
/-- Others' blocks are written: of types that are none of the solo's. -/
theorem SoR.aside {S : Nat → Prop} {Ts : List TypeId} (h : SoR w0 w g K B s) (k : Kp S w w') (hS : Safe w0 w S Ts []) (hT : ∀ T ∈ [soT, trT, ndT, strT, ssT, seT, wlT, arT, rsuT, evT], T ∉ Ts) : SoR w0 w' g K B s :=
  ⟨h.blk.kp k (hS.blk h.blk (hT _ (by simp))), h.tr.safe k hS (hT _ (by simp)) (hT _ (by simp)) (hT _ (by simp)) (by simp), h.ss.safe k hS (hT _ (by simp)) (hT _ (by simp)), h.wl.safe k hS (hT _ (by simp)) (hT _ (by simp)), h.lm.safe k hS (hT _ (by simp)) (hT _ (by simp)) (by simp), h.ev.safe k hS (hT _ (by simp)) (by simp), h.ne, h.low, h.ex.next k (fun i hi hs => by have := hS.low i hs; omega)⟩
theorem safe_one {r : Nat} {A : Array Value} {T : TypeId} (hb : Blk w r A T) (hl : w0.heap.size ≤ r) : Safe w0 w (fun i => i = r) [T] [] := by
  refine ⟨fun i hs _ => ?_, fun i hs => by have e : i = r := hs; omega⟩
  have e : i = r := hs
  subst e
  exact .inl ⟨_, _, _, hb, by simp⟩
/-- A cell of replies, new since the call began, is written. -/
theorem SoPost.cell {L : Nat} {r : Nat} {A : Array Value} {w1 : World} {s' : SoV} (h : SoPost w0 w g L B s' w1) (hb : Blk w1 r A rplT) (hr : w.heap.size ≤ r) (hl : w0.heap.size ≤ w.heap.size) (k : Kp (fun i => i = r) w1 w') : SoPost w0 w g L B s' w' :=
  h.then k (fun i hi => by have e : i = r := hi; omega) (fun B' h1 _ _ => h1.aside k (safe_one hb (by omega)) (by decide))
theorem multi_len (room : Int) (L : RL) (sess z : Int) (ops : List OpV) : (multiL room L sess z ops).2.1.res.length ≤ 16 ∧ ((multiL room L sess z ops).2.1.err = 0 → (multiL room L sess z ops).2.1.res.length = ops.length) := by
  unfold multiL
  split
  · exact ⟨(by show (failRp 0 2 (-1) 0).res.length ≤ 16; decide), fun h => absurd (show (failRp 0 2 (-1) 0).err = 0 from h) (by decide)⟩
  · split
    · exact ⟨(by show (failRp 0 1 (-1) 0).res.length ≤ 16; decide), fun h => absurd (show (failRp 0 1 (-1) 0).err = 0 from h) (by decide)⟩
    · split
      · rename_i h1 h2 h3
        refine ⟨?_, fun h => absurd h h3⟩
        unfold failRp
        simp only
        split
        · exact Nat.zero_le _
        · rw [failRs_len]; omega
      · rename_i h1 h2 h3
        have h4 := runL_len room sess z L ops (Classical.not_not.1 h3)
        exact ⟨by show (runL room sess z L ops).2.1.length ≤ 16; omega, fun _ => h4⟩
theorem request_len (room : Int) (L : RL) (sess num z : Int) (ops : List OpV) : (requestL room L sess num z ops).2.res.length ≤ 16 ∧ ((requestL room L sess num z ops).2.err = 0 → (requestL room L sess num z ops).2.res.length = ops.length) := by
  unfold requestL
  split
  · rename_i h
    exact ⟨by simp [failRp, failRs], fun h2 => absurd h2 h⟩
  · exact multi_len room L sess z ops
set_option maxHeartbeats 3200000 in
theorem soAsk_bad (h : SoR w0 w g K B s) (hok : SoOk N s) (hG : GT w0) (v : Value) (ops : List OpV) (sess num : Int) (ho : OpsAt w v ops) (hsz : OpsS ops) (hb : mayR sess num ops ≠ 0) :
    Calls Tryz.prog 34 #[.pointer (some ⟨g, 0, none⟩), .agg #[.int .i64 sess, .int .i64 num, v]] w (AskPost w0 w g K N B (askS s sess num ops)) := by
  obtain ⟨wB, hWB⟩ : ∃ wB, (w.alloc (.cells #[.int .i64 sess, .int .i64 num, v] reqT)).alloc (.cells rpZ rplT) = wB := ⟨_, rfl⟩
  have hxB : Ext w wB := by rw [← hWB]; exact ((Kp.refl _ _).alloc _).alloc _
  have hA : Blk wB w.heap.size #[.int .i64 sess, .int .i64 num, v] reqT := by
    rw [← hWB]
    exact Blk.kp (heap_alloc_new w _) ((Kp.refl (fun _ => False) _).alloc _) (fun f => f)
  have hB : Blk wB (w.heap.size + 1) rpZ rplT := by
    rw [← hWB]
    have := heap_alloc_new (w.alloc (.cells #[.int .i64 sess, .int .i64 num, v] reqT)) (.cells rpZ rplT)
    rw [World.size_alloc] at this
    exact this
  have HMAY := Lib.hid (may_any sess num v ops wB ((hG.ext h.ex).ext hxB) (ho.ext hxB) hsz.sz)
  have HA := Lib.hid hA
  have HB := Lib.hid hB
  have HXB := Lib.hid hxB
  have HWB := Lib.hid hWB
  have HH := Lib.hid h
  obtain ⟨va, vc, rfl, _, _, hopn⟩ := OpsAt.open ho
  have a0 := hA.cell 0 _ rfl
  have a1 := hA.cell 1 _ rfl
  have a2 := hA.cell 2 _ rfl
  have HE : Hid (askS s sess num ops = (s, failRp num (mayR sess num ops) (-1) 0)) := by show _ = _; unfold askS; rw [if_pos hb]
  have HOK := Lib.hid hok.up
  generalize mayR sess num ops = z0 at *
  have hz : ¬ z0 = 0 := hb
  clear h hok hG ho hsz hopn hWB hxB hA hB hb
  go_enter Tryz.func34, Tryz.ntmps34
  go_upto_region 1 with (fail)
  rw [HWB.out]
  go_wp2_with (fail)
  refine HMAY.out.mono ?_
  rintro e w1 ⟨rfl, hx1⟩
  have HX1 := Lib.hid (HXB.out.trans hx1)
  have hA1 := HA.out.kp hx1 (fun f => f)
  have HA1 := Lib.hid hA1
  have HB1 := Lib.hid (HB.out.kp hx1 (fun f => f))
  clear hx1 a0 a1 a2
  have a0 := hA1.cell 0 _ rfl
  have a1 := hA1.cell 1 _ rfl
  have a2 := hA1.cell 2 _ rfl
  clear hA1
  go_wp2_with (fail)
  refine (repFail_any num z0 (-1) 0 _).mono ?_
  rintro e w2 ⟨u, rfl, hu, hx2⟩
  have HBn := Lib.hid (HB1.out.kp hx2 (fun f => f))
  have HU := Lib.hid hu
  have HX2 := Lib.hid (HX1.out.trans hx2)
  obtain ⟨us, hus, _⟩ := hu
  obtain ⟨ua, uc, rfl⟩ := hus.slice
  generalize us.length = un at *
  clear hx2 hus
  have hBn := HBn.out
  unfold rpZ at hBn
  have c0 := hBn.cell 0 _ rfl
  have c1 := hBn.cell 1 _ rfl
  have c2 := hBn.cell 2 _ rfl
  have c3 := hBn.cell 3 _ rfl
  have c4 := hBn.cell 4 _ rfl
  have fc0 := hBn.free 0
  have fc1 := hBn.free 1
  have fc2 := hBn.free 2
  have fc3 := hBn.free 3
  have fc4 := hBn.free 4
  clear hBn
  unfold rplA
  simp only
  go_wp2_with (fail)
  go_light
  refine bodyPost_ret (v := .agg #[.int .i64 (failRp num z0 (-1) 0).num, .int .i64 (failRp num z0 (-1) 0).zxid, .int .i64 (failRp num z0 (-1) 0).err, .int .i64 (failRp num z0 (-1) 0).at_, .slice ua un uc]) (by simp [results, Tryz.results34, go_sem, c0, c1, c2, c3, c4]) rfl ?_
  have k5 := kp_set5 w2 (w.heap.size + 1) (.int .i64 (failRp num z0 (-1) 0).num) (.int .i64 (failRp num z0 (-1) 0).zxid) (.int .i64 (failRp num z0 (-1) 0).err) (.int .i64 (failRp num z0 (-1) 0).at_) (.slice ua un uc)
  rw [HE.out]
  exact ⟨.slice ua un uc, rfl, (HU.out.kpT k5 (noT_blk HBn.out (by decide)) (noT_blk HBn.out (by decide))).less (by have := HX1.out.size; omega), ((SoPost.refl HH.out).ext (HX2.out.next k5 (fun i hi e => by omega))).more (by omega), HOK.out⟩
set_option maxHeartbeats 6400000 in
theorem soAsk_nosess (h : SoR w0 w g K B s) (hok : SoOk N s) (hN : N ≤ 90000) (hG : GT w0) (v : Value) (ops : List OpV) (sess num : Int) (ho : OpsAt w v ops) (hsz : OpsS ops) (hb : mayR sess num ops = 0) (hf : findS s.ss.l sess = none) :
    Calls Tryz.prog 34 #[.pointer (some ⟨g, 0, none⟩), .agg #[.int .i64 sess, .int .i64 num, v]] w (AskPost w0 w g K N B (askS s sess num ops)) := by
  obtain ⟨wB, hWB⟩ : ∃ wB, (w.alloc (.cells #[.int .i64 sess, .int .i64 num, v] reqT)).alloc (.cells rpZ rplT) = wB := ⟨_, rfl⟩
  have hxB : Ext w wB := by rw [← hWB]; exact ((Kp.refl _ _).alloc _).alloc _
  have hA : Blk wB w.heap.size #[.int .i64 sess, .int .i64 num, v] reqT := by
    rw [← hWB]
    exact Blk.kp (heap_alloc_new w _) ((Kp.refl (fun _ => False) _).alloc _) (fun f => f)
  have hB : Blk wB (w.heap.size + 1) rpZ rplT := by
    rw [← hWB]
    have := heap_alloc_new (w.alloc (.cells #[.int .i64 sess, .int .i64 num, v] reqT)) (.cells rpZ rplT)
    rw [World.size_alloc] at this
    exact this
  have HMAY := Lib.hid (may_any sess num v ops wB ((hG.ext h.ex).ext hxB) (ho.ext hxB) hsz.sz)
  have HA := Lib.hid hA
  have HB := Lib.hid hB
  have HXB := Lib.hid hxB
  have HWB := Lib.hid hWB
  have HH := Lib.hid h
  obtain ⟨va, vc, rfl, _, _, hopn⟩ := OpsAt.open ho
  have a0 := hA.cell 0 _ rfl
  have a1 := hA.cell 1 _ rfl
  have a2 := hA.cell 2 _ rfl
  have hT : touchS s.ss sess = (s.ss, 11) := by unfold touchS; rw [hf]
  have HE : Hid (askS s sess num ops = (s, failRp num 11 (-1) ops.length)) := by show _ = _; unfold askS; rw [if_neg (by rw [hb]; simp), if_pos (by rw [hT]; simp)]
  have HOK := Lib.hid hok.up
  rw [hb] at HMAY
  have HTO := Lib.hid (fun W (hW : SesR W B.sb B.sr s.ss) => sesTouch_any N B.sb B.sr s.ss sess W hW hok.ss (by omega))
  rw [hT] at HTO
  obtain ⟨T, hTT⟩ : ∃ T : SsV × Int, T = (s.ss, 11) := ⟨_, rfl⟩
  rw [← hTT] at HTO
  have HT1 : Hid (T.1 = s.ss) := by show _ = _; rw [hTT]
  have HT2 : Hid (T.2 = 11) := by show _ = _; rw [hTT]
  clear h hok hG ho hsz hopn hWB hxB hA hB hb hf hT hTT
  go_enter Tryz.func34, Tryz.ntmps34
  go_upto_region 1 with (fail)
  rw [HWB.out]
  go_wp2_with (fail)
  refine HMAY.out.mono ?_
  rintro e w1 ⟨rfl, hx1⟩
  have HX1 := Lib.hid (HXB.out.trans hx1)
  have hA1 := HA.out.kp hx1 (fun f => f)
  have HA1 := Lib.hid hA1
  have HB1 := Lib.hid (HB.out.kp hx1 (fun f => f))
  clear hx1 a0 a1 a2
  have a0 := hA1.cell 0 _ rfl
  have a1 := hA1.cell 1 _ rfl
  have a2 := hA1.cell 2 _ rfl
  clear hA1
  go_upto_region 4 with (fail)
  have hbs : B.sb < w1.heap.size ∧ ∀ i, B.sr = some i → i < w1.heap.size := ⟨Nat.lt_of_lt_of_le HH.out.ss.lt.1 HX1.out.size, fun i hi => Nat.lt_of_lt_of_le (HH.out.ss.lt.2 i hi) HX1.out.size⟩
  have HBS := Lib.hid hbs
  have HAX : Hid (∀ W, Kp (fun i => w1.heap.size ≤ i ∨ (i = B.sb ∨ B.sr = some i)) w1 W → Blk W w.heap.size #[.int .i64 sess, .int .i64 num, .slice va ops.length vc] reqT) := fun W hW => HA1.out.kp hW (fun f => by
    have h1 := HA1.out.lt
    have h2 := HH.out.ss.lt.1
    rcases f with f | f | f
    · omega
    · omega
    · have := HH.out.ss.lt.2 _ f; omega)
  have HBX : Hid (∀ W, Kp (fun i => w1.heap.size ≤ i ∨ (i = B.sb ∨ B.sr = some i)) w1 W → Blk W (w.heap.size + 1) rpZ rplT) := fun W hW => HB1.out.kp hW (fun f => by
    have h1 := HB1.out.lt
    have h2 := HH.out.ss.lt.1
    rcases f with f | f | f
    · omega
    · omega
    · have := HH.out.ss.lt.2 _ f; omega)
  have HGX : Hid (∀ W, Kp (fun i => w1.heap.size ≤ i ∨ (i = B.sb ∨ B.sr = some i)) w1 W → W.cell? ⟨g, 1, none⟩ = some (.pointer (some ⟨B.sb, 0, none⟩))) := fun W hW => (((HH.out.ext HX1.out).blk).kp hW (fun f => by
    rcases f with f | f
    · have h1 := HH.out.blk.lt; have h2 := HX1.out.size; omega
    · exact HH.out.safeS.blk HH.out.blk (by decide) f)).cell 1 _ rfl
  clear hbs
  refine' Av.X.wp_region_dagG (fun i => i = B.sb ∨ B.sr = some i) 8 [(23, [900], [])] [900] ((17, .val _) :: (18, .val _) :: (19, .val _) :: (20, .val _) :: (21, .val _) :: (22, .val _) :: (23, ⟨fun v => v = .int .i64 T.2, fun _ w' => ∃ ro', SesR w' B.sb ro' T.1 ∧ ∀ i, ro' = some i → B.sr = some i ∨ w1.heap.size ≤ i⟩) :: (24, .val _) :: (900, ⟨fun _ => True, fun _ w' => SesR w' B.sb B.sr s.ss⟩) :: []) (by exact ⟨fun _ _ _ _ _ => trivial, ⟨fun _ _ _ _ _ => trivial, ⟨fun _ _ _ _ _ => trivial, ⟨fun _ _ _ _ _ => trivial, ⟨fun _ _ _ _ _ => trivial, ⟨fun _ _ _ _ _ => trivial, ⟨fun _ _ _ hr ⟨ro', h1, h2⟩ => ⟨ro', h1.ext hr, h2⟩, ⟨fun _ _ _ _ _ => trivial, ⟨fun _ _ _ hr hv => SesR.ext hv hr, trivial⟩⟩⟩⟩⟩⟩⟩⟩⟩) (by exact ⟨⟨undef, (HH.out.ext HX1.out).ss.ext (Kp.refl (fun _ => False) _).drew⟩, trivial⟩) (by kernel_rfl) (by kernel_rfl) (by kernel_rfl) ?_
  rotate_left 7
  simp only [List.take_succ_cons, List.take_zero]
  repeat (first
    | (refine Av.X.wpD_skipv ?_ ?_ ?_
       focus rfl
       focus rfl
       simp only [Act.put, List.setIfInBounds_toArray, List.set_cons_succ, List.set_cons_zero])
    | (refine' Av.X.wpD_val (c := _) ?_ (fun w => Kp.refl _ w) ?_ (fun wq hwq hfz => ?_) ?_
       rotate_left
       focus rfl
       focus rfl
       focus (have hfq := hfz.at_; have hcq := hfz.use; (have ha := HAX.out _ hwq; have e0 := ha.cell 0 _ rfl; have c1 := HGX.out _ hwq; clear ha); go_simp; first | done | rfl)
       simp only [Act.put, List.setIfInBounds_toArray, List.set_cons_succ, List.set_cons_zero])
    | (refine' Av.X.wpD_con (c := _) ?_ ?_ (fun wq hwq hfz => ?_) ?_
       rotate_left
       focus rfl
       focus rfl
       focus (have hfq := hfz.at_; have hcq := hfz.use; (have ha := HAX.out _ hwq; have e0 := ha.cell 0 _ rfl; have c1 := HGX.out _ hwq; clear ha); go_simp; (try (rw [dUpon_enter])); fail)
       simp only [Act.put, List.setIfInBounds_toArray, List.set_cons_succ, List.set_cons_zero])
    | (refine Av.X.wpD_used (A := fun v => v = .int .i64 T.2) (V := fun _ w' => ∃ ro', SesR w' B.sb ro' T.1 ∧ ∀ i, ro' = some i → B.sr = some i ∨ w1.heap.size ≤ i) 23 ?_ ?_ ?_ ?_ (fun wq hwq hfz => ?_) (fun v23 h23 => ?_)
       focus rfl
       focus rfl
       focus (exact ⟨_, rfl⟩)
       focus rfl
       focus (have hfq := hfz.at_; have hcq := hfz.use; (have ha := HAX.out _ hwq; have e0 := ha.cell 0 _ rfl; have c1 := HGX.out _ hwq; clear ha); go_simp; (try (rw [dUpon_enter])); have h900 : SesR wq B.sb B.sr s.ss := (hcq 900 rfl).elim (fun _ h => h); (with_reducible refine (HTO.out _ h900).mono ?_); rintro e w' ⟨rfl, ⟨ro', h1, h2⟩, hk⟩; refine ⟨_, rfl, rfl, ⟨ro', h1, fun i hi => (h2 i hi).imp id (fun h => Nat.le_trans hwq.size h)⟩, hk.mono (fun i _ e => .inr e), ?_⟩; repeat (first | exact PresL.nil | (with_reducible refine PresL.val ?_) | (refine PresL.out rfl ?_)))
       subst h23
       simp only [Act.put, List.setIfInBounds_toArray, List.set_cons_succ, List.set_cons_zero])
    | fail)
  refine Av.X.wpD_nil ?_
  intro w2 hr2 hend
  refine wpList_nil ?_
  have hs2 : ∃ ro', SesR w2 B.sb ro' T.1 ∧ ∀ i, ro' = some i → B.sr = some i ∨ w1.heap.size ≤ i := hend 23 (by kernel_rfl)
  clear hend
  have hk2 : Kp (fun i => i = B.sb ∨ B.sr = some i) w1 w2 := hr2.mono (fun i hi e => by
    rcases e with e | e
    · omega
    · exact e)
  have HP2 := Lib.hid (SoPost.before HX1.out ((HH.out.ext HX1.out).sess hk2 hs2))
  have HK2 := Lib.hid hk2
  have hA2 := HAX.out _ hr2
  have HA2 := Lib.hid hA2
  have HB2 := Lib.hid (HBX.out _ hr2)
  clear hs2 hk2 hr2 a0 a1 a2 HAX HBX HGX HTO HBS
  have a0 := hA2.cell 0 _ rfl
  have a1 := hA2.cell 1 _ rfl
  have a2 := hA2.cell 2 _ rfl
  clear hA2
  rw [HT2.out]
  have HP := HP2.out
  rw [HT1.out] at HP
  have HPP : Hid (SoPost w0 w g K B s w2) := HP
  clear HP HP2
  go_wp2_with (fail)
  refine (repFail_any num 11 (-1) ops.length _).mono ?_
  rintro e w3 ⟨u, rfl, hu, hx3⟩
  have HBn := Lib.hid (HB2.out.kp hx3 (fun f => f))
  have HU := Lib.hid hu
  have HX3 := Lib.hid hx3
  obtain ⟨us, hus, _⟩ := hu
  obtain ⟨ua, uc, rfl⟩ := hus.slice
  generalize us.length = un at *
  clear hx3 hus
  have hBn := HBn.out
  unfold rpZ at hBn
  have c0 := hBn.cell 0 _ rfl
  have c1 := hBn.cell 1 _ rfl
  have c2 := hBn.cell 2 _ rfl
  have c3 := hBn.cell 3 _ rfl
  have c4 := hBn.cell 4 _ rfl
  have fc0 := hBn.free 0
  have fc1 := hBn.free 1
  have fc2 := hBn.free 2
  have fc3 := hBn.free 3
  have fc4 := hBn.free 4
  clear hBn
  unfold rplA
  simp only
  go_wp2_with (fail)
  go_light
  refine bodyPost_ret (v := .agg #[.int .i64 (failRp num 11 (-1) ops.length).num, .int .i64 (failRp num 11 (-1) ops.length).zxid, .int .i64 (failRp num 11 (-1) ops.length).err, .int .i64 (failRp num 11 (-1) ops.length).at_, .slice ua un uc]) (by simp [results, Tryz.results34, go_sem, c0, c1, c2, c3, c4]) rfl ?_
  have k5 := kp_set5 w3 (w.heap.size + 1) (.int .i64 (failRp num 11 (-1) ops.length).num) (.int .i64 (failRp num 11 (-1) ops.length).zxid) (.int .i64 (failRp num 11 (-1) ops.length).err) (.int .i64 (failRp num 11 (-1) ops.length).at_) (.slice ua un uc)
  rw [HE.out]
  have hs1 := HX1.out.size
  have hs2 := HK2.out.size
  exact ⟨.slice ua un uc, rfl, (HU.out.kpT k5 (noT_blk HBn.out (by decide)) (noT_blk HBn.out (by decide))).less (by omega), ((HPP.out.ext HX3.out).cell HBn.out (by omega) HH.out.ex.size k5).more (by omega), HOK.out⟩
end Go.Proofs.YtnlefnhdhigecaaGreatDoor
