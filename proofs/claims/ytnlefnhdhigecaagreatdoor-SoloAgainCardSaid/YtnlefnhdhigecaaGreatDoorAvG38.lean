/- Texts put together: AvSoL, AvLaw21A, AvFrameL, AvTreeCon, AvOpsArg, AvLaw21P. -/
import Derived.Test.YtnlefnhdhigecaaGreatDoorAvHSoK
import Derived.Test.YtnlefnhdhigecaaGreatDoorAvG19
import Derived.Handed
import Derived.LaidSub
import Derived.Lib.LaidTab
import Derived.Test.YtnlefnhdhigecaaGreatDoorAvG9
import Derived.Carry

/- The solo as a law holds it; what a call leaves of others' blocks. -/
namespace Go.Proofs.YtnlefnhdhigecaaGreatDoor
set_option maxRecDepth 100000
open Go.RowKit Av

abbrev soTs : List TypeId := [soT, trT, ndT, ssT, seT, wlT, arT, evT]
variable {w0 w w' : World} {g K N : Nat} {B : SoB} {s : SoV}
def SoS (w0 w : World) (g N : Nat) (s : SoV) : Prop := ∃ B, SoR w0 w g (20 * N) B s ∧ SoOk N s
theorem SoS.ext (h : SoS w0 w g N s) (k : Ext w w') : SoS w0 w' g N s := by
  obtain ⟨B, h1, h2⟩ := h
  exact ⟨B, h1.ext k, h2⟩
theorem SoS.ex (h : SoS w0 w g N s) : Ext w0 w := by
  obtain ⟨B, h1, _⟩ := h
  exact h1.ex
theorem SoS.ok (h : SoS w0 w g N s) : SoOk N s := by
  obtain ⟨B, _, h2⟩ := h
  exact h2
theorem SoS.aside {S : Nat → Prop} {Ts : List TypeId} (h : SoS w0 w g N s) (k : Kp S w w') (hS : Safe w0 w S Ts []) (hT : ∀ T ∈ [soT, trT, ndT, strT, ssT, seT, wlT, arT, rsuT, evT], T ∉ Ts) : SoS w0 w' g N s := by
  obtain ⟨B, h1, h2⟩ := h
  exact ⟨B, h1.aside k hS hT, h2⟩
/-- What a call leaves of blocks that are none of the solo's. -/
def Oth (w0 w w' : World) : Prop := ∃ S ms, Kp S w w' ∧ Safe w0 w S soTs ms
theorem Oth.of (h : Ext w w') : Oth w0 w w' := ⟨fun _ => False, [], h, ⟨fun _ f => f.elim, fun _ f => f.elim⟩⟩
theorem Oth.blk (h : Oth w0 w w') {r : Nat} {A : Array Value} {T : TypeId} (hb : Blk w r A T) (hT : T ∉ soTs) : Blk w' r A T := by
  obtain ⟨S, ms, k, hs⟩ := h
  exact hb.kp k (hs.blk hb hT)
theorem Oth.rp (h : Oth w0 w w') {v : Value} {r : RpV} (hr : RpAt w 0 v r) : RpAt w' 0 v r := by
  obtain ⟨S, ms, k, hs⟩ := h
  exact hr.kpT k (hs.noT (by decide)) (hs.noT (by decide))
theorem Oth.size (h : Oth w0 w w') : w.heap.size ≤ w'.heap.size := by
  obtain ⟨S, ms, k, hs⟩ := h
  exact k.size
theorem SoR.oth (h : SoR w0 w g K B s) {W : World} (hx : Ext w W) (k : Kp (SoFr g B) W w') : Oth w0 w w' := ⟨SoFr g B, [B.m, B.lm, B.em], (Ext.kp hx).trans k, h.safeA⟩
theorem SoPost.oth {L : Nat} {s' : SoV} {W : World} (h : SoR w0 w g K B s) (hx : Ext w W) (p : SoPost w0 W g L B s' w') : Oth w0 w w' := by
  obtain ⟨B', _, k, _⟩ := p
  exact h.oth hx k
theorem SoOk.opened (h : SoOk N s) (span : Int) : SoOk (N + 1) (openO s span).1 := ⟨h.ss.open span, h.up.zx, h.up.ev, h.last⟩
theorem SoOk.watched (h : SoOk N s) (x : Wt) : SoOk (N + 1) (watchO s x).1 := by
  unfold watchO
  split
  · exact h.up
  · refine ⟨h.up.ss, h.up.zx, fun q => ?_, h.last⟩
    have h1 := armG_len 1000 s.wl x
    have h2 := h.ev q
    show (s.ev q).length + (armG 1000 s.wl x).length ≤ N + 1
    omega
theorem SoOk.told (h : SoOk N s) (id : Int) : SoOk N (eventsO s id).1 := by
  refine ⟨h.ss, h.zx, fun q => ?_, h.last⟩
  have h2 := h.ev q
  show ((if q = id then [] else s.ev q).length) + s.wl.length ≤ N
  split
  · simp only [List.length_nil]; omega
  · exact h2
theorem soS_new (room : Int) (w : World) (h1 : 1 ≤ room) (h2 : room ≤ 500) : Calls Tryz.prog 31 #[.int .i64 room] w fun e w' => ∃ g, e = .returned (.tuple #[.pointer (some ⟨g, 0, none⟩), .int .i64 0]) ∧ SoS w w' g 0 (soZ room) ∧ Ext w w' := by
  refine (soNew_any room w h1 h2).mono ?_
  rintro e w' ⟨g, B, rfl, h3, h4⟩
  exact ⟨g, rfl, ⟨B, h3, soOk_new room⟩, h4⟩
theorem soS_open (h : SoS w0 w g N s) (hN : N ≤ 3000) (span : Int) : Calls Tryz.prog 32 #[.pointer (some ⟨g, 0, none⟩), .int .i64 span] w fun e w' => e = .returned (.tuple #[.int .i64 (openO s span).2.1, .int .i64 (openO s span).2.2]) ∧ SoS w0 w' g (N + 1) (openO s span).1 ∧ Oth w0 w w' := by
  obtain ⟨B, hr, hok⟩ := h
  refine (soOpen_any hr hok (by omega) span).mono ?_
  rintro e w' ⟨rfl, hp⟩
  have ho := hp.oth hr (Kp.refl _ _)
  obtain ⟨B', h1, _, _⟩ := hp
  exact ⟨rfl, ⟨B', h1.mono (by omega), hok.opened span⟩, ho⟩
theorem soS_zxid (h : SoS w0 w g N s) : Calls Tryz.prog 33 #[.pointer (some ⟨g, 0, none⟩)] w fun e w' => e = .returned (.int .i64 s.zx) ∧ w = w' := by
  obtain ⟨B, hr, hok⟩ := h
  exact soZxid_any hr
theorem soS_tree (h : SoS w0 w g N s) (hN : N ≤ 3000) : Calls Tryz.prog 40 #[.pointer (some ⟨g, 0, none⟩)] w fun e w' => ∃ b' m' c, e = .returned (.pointer (some ⟨b', 0, none⟩)) ∧ TrA w w' b' m' s.room (20 * N) c s.tr ∧ Ext w w' := by
  obtain ⟨B, hr, hok⟩ := h
  exact soTree_any hr (by omega)
theorem soS_watch (h : SoS w0 w g N s) (hN : N ≤ 3000) (hG : GL w) (x : Wt) (hp : x.path.size ≤ maxLen) : Calls Tryz.prog 36 #[.pointer (some ⟨g, 0, none⟩), .int .i64 x.sess, .string x.path, .int .i64 x.kind] w fun e w' => e = .returned (.int .i64 (watchO s x).2) ∧ SoS w0 w' g (N + 1) (watchO s x).1 ∧ Oth w0 w w' := by
  obtain ⟨B, hr, hok⟩ := h
  refine (soWatch_any hr hok (by omega) hG x hp).mono ?_
  rintro e w' ⟨rfl, hp⟩
  have ho := hp.oth hr (Kp.refl _ _)
  obtain ⟨B', h1, _, _⟩ := hp
  exact ⟨rfl, ⟨B', h1.mono (by omega), hok.watched x⟩, ho⟩
theorem soS_events (h : SoS w0 w g N s) (id : Int) : Calls Tryz.prog 37 #[.pointer (some ⟨g, 0, none⟩), .int .i64 id] w fun e w' => ∃ v, e = .returned v ∧ w'.ownsRow 0 evT 3 v (s.ev id).length ((s.ev id).flatMap wcell) ∧ SoS w0 w' g N (eventsO s id).1 ∧ Oth w0 w w' := by
  obtain ⟨B, hr, hok⟩ := h
  refine (soEvents_any hr id).mono ?_
  rintro e w' ⟨v, B', rfl, h1, h2, h3, _, _⟩
  exact ⟨v, rfl, h1, ⟨B', h2, hok.told id⟩, hr.oth (Kp.refl _ _) h3⟩
/-- Ask, of ops that lie where the solo does not. -/
theorem soS_ask (h : SoS w0 w g N s) (hN : N ≤ 3000) (hG : GT w0) {W : World} (hx : Ext w W) (v : Value) (ops : List OpV) (sess num : Int) (ho : OpsAt W v ops) (hsz : OpsS ops) (hv : ∀ i, v.ownBlock = some i → (i < w0.heap.size ∨ w.heap.size ≤ i) ∧ i < W.heap.size) :
    Calls Tryz.prog 34 #[.pointer (some ⟨g, 0, none⟩), .agg #[.int .i64 sess, .int .i64 num, v]] W fun e w' => ∃ u, e = .returned (.agg (rplA (askS s sess num ops).2 u)) ∧ RpAt w' 0 u (askS s sess num ops).2 ∧ SoS w0 w' g (N + 1) (askS s sess num ops).1 ∧ Oth w0 w w' := by
  obtain ⟨B, hr, hok⟩ := h
  refine (soAsk_any (hr.ext hx) hok (by omega) (by omega) hG v ops sess num ho hsz (fun i hi hs => ?_) (fun i hi => (hv i hi).2)).mono ?_
  · have h1 := hr.low i hs
    have h2 := hr.lt hs
    rcases (hv i hi).1 with h | h <;> omega
  · rintro e w' ⟨u, rfl, h1, h2, h3⟩
    have hoth := h2.oth hr hx
    obtain ⟨B', h4, _, _⟩ := h2
    exact ⟨u, rfl, h1.less (Nat.zero_le _), ⟨B', h4.mono (by omega), h3⟩, hoth⟩
abbrev opTy : TypeId := 33
/-- A slice of one op, just made. -/
theorem ops1 (w : World) (o : OpV) : ∀ W, w.alloc (.cells #[.int .i64 o.kind, .string o.path, .string o.data, .int .i64 o.ver, .int .i64 o.flags] opTy) = W → Ext w W ∧ OpsAt W (.slice (some ⟨w.heap.size, 0, none⟩) 1 1) [o] ∧ w.heap.size < W.heap.size := by
  rintro W rfl
  have hx : Ext w (w.alloc (.cells #[.int .i64 o.kind, .string o.path, .string o.data, .int .i64 o.ver, .int .i64 o.flags] opTy)) := (Kp.refl _ _).alloc _
  have hb : Blk (w.alloc (.cells #[.int .i64 o.kind, .string o.path, .string o.data, .int .i64 o.ver, .int .i64 o.flags] opTy)) w.heap.size #[.int .i64 o.kind, .string o.path, .string o.data, .int .i64 o.ver, .int .i64 o.flags] opTy := heap_alloc_new w _
  refine ⟨hx, ⟨sl_rowsK OpV.cells 5 (fun _ => rfl) (by decide) [o] rfl (by decide) (by decide) (fun _ => hb.lt) (fun i hi j hj => ?_), ?_⟩, hb.lt⟩
  · have e : i = 0 := by simpa using hi
    subst e
    have hc := hb.cell j
    match j, hj with
    | 0, _ => exact hc _ rfl
    | 1, _ => exact hc _ rfl
    | 2, _ => exact hc _ rfl
    | 3, _ => exact hc _ rfl
    | 4, _ => exact hc _ rfl
  · exact Shp.some
def reqZ : Array Value := #[.int .i64 0, .int .i64 0, .slice none 0 0]
def rq3 (w : World) (r : Nat) (u0 u1 u2 : Value) : World := ((w.setCell ⟨r, 0, none⟩ u0).setCell ⟨r, 1, none⟩ u1).setCell ⟨r, 2, none⟩ u2
theorem kp_rq3 (w : World) (r : Nat) (u0 u1 u2 : Value) : Kp (fun i => i = r) w (rq3 w r u0 u1 u2) := by
  have k : ∀ {W : World} (i : Nat) (u : Value), Kp (fun i => i = r) w W → Kp (fun i => i = r) w (W.setCell ⟨r, i, none⟩ u) := fun i u h => h.set1 r i u rfl
  exact k 2 u2 (k 1 u1 (k 0 u0 (Kp.refl _ _)))
set_option maxHeartbeats 800000 in
theorem ask21_any (sess num : Int) (a : Option Addr) (n c : Nat) (w : World) : Calls Tryz.prog 35 #[.int .i64 sess, .int .i64 num, .slice a n c] w fun e w' => e = .returned (.agg #[.int .i64 sess, .int .i64 num, .slice a n c]) ∧ Ext w w' := by
  obtain ⟨wB, hWB⟩ : ∃ wB, w.alloc (.cells reqZ reqT) = wB := ⟨_, rfl⟩
  have hxB : Ext w wB := by rw [← hWB]; exact (Kp.refl _ _).alloc _
  have hB : Blk wB w.heap.size reqZ reqT := by rw [← hWB]; exact heap_alloc_new w _
  have HXB := Lib.hid hxB
  have HWB := Lib.hid hWB
  unfold reqZ at hB HWB
  have d0 := hB.cell 0 _ rfl
  have d1 := hB.cell 1 _ rfl
  have d2 := hB.cell 2 _ rfl
  have fd0 := hB.free 0
  have fd1 := hB.free 1
  have fd2 := hB.free 2
  clear hWB hxB hB
  go_enter Tryz.func35, Tryz.ntmps35
  go_upto_region 1 with (fail)
  rw [HWB.out]
  go_wp2_with (fail)
  go_light
  refine bodyPost_ret (v := .agg #[.int .i64 sess, .int .i64 num, .slice a n c]) (by simp [results, Tryz.results35, go_sem, d0, d1, d2]) rfl ?_
  have k3 := kp_rq3 wB w.heap.size (.int .i64 sess) (.int .i64 num) (.slice a n c)
  exact ⟨rfl, HXB.out.next k3 (fun i hi e => by omega)⟩
end Go.Proofs.YtnlefnhdhigecaaGreatDoor

/- Walks of package aviarylaw21: long, awake. -/
namespace Go.Proofs.YtnlefnhdhigecaaGreatDoor
set_option maxRecDepth 100000
open Go.RowKit Av

def Long21 (w : World) (xs : List OpV) (e : Ending) (w' : World) : Prop := ∃ r : Bool, e = .returned (.bool r) ∧ (r = false → xs.length ≤ 20 ∧ ∀ k (hk : k < xs.length), xs[k].path.size ≤ 300 ∧ xs[k].data.size ≤ 1100) ∧ w = w'
def LongRel21 (w : World) (xs : List OpV) (s3 : Value) (wr : World) : Prop := ∃ k : Nat, k ≤ xs.length ∧ s3 = .int .i64 k ∧ (∀ j (hj : j < xs.length), j < k → xs[j].path.size ≤ 300 ∧ xs[j].data.size ≤ 1100) ∧ w = wr
theorem long21_any (v : Value) (xs : List OpV) (w : World) (h : OpsAt w v xs) :
    Calls Tryz.prog 38 #[v] w fun e w' => Long21 w xs e w' := by
  obtain ⟨a, c, rfl, _, hm, hop⟩ := OpsAt.open h
  have HOP := Lib.hid hop
  clear h hop
  by_cases h20 : xs.length ≤ 20
  · have h20' : ¬ (20 : Int) < (xs.length : Int) := by omega
    go_enter Tryz.func38, Tryz.ntmps38
    go_wp2_with (fail)
    go_loopw [3] (fun s3 wr => LongRel21 w xs s3 wr) (fun i _ => xs.length - (intOf i).toNat)
    case atStart => exact ⟨0, Nat.zero_le _, rfl, fun j _ hj => absurd hj (by omega), rfl⟩
    case round =>
      obtain ⟨k, hk, rfl, hall, rfl⟩ := hrel
      have HALL := Lib.hid hall
      clear hall
      by_cases hlt : k < xs.length
      · obtain ⟨b, off, rfl, _, hc⟩ := HOP.out (by omega)
        obtain ⟨q0, q1, q2, q3, q4⟩ := hc k hlt
        have HST : Hid (xs[k].path.size ≤ 300 → xs[k].data.size ≤ 1100 → ∀ j (hj : j < xs.length), j < k + 1 → xs[j].path.size ≤ 300 ∧ xs[j].data.size ≤ 1100) := fun h1 h2 j hj hjk => by
          by_cases e : j = k
          · subst e; exact ⟨h1, h2⟩
          · exact HALL.out j hj (by omega)
        generalize xs[k].path = p at *
        generalize xs[k].data = d at *
        clear hc q0 q3 q4
        by_cases h1 : p.size ≤ 300
        · have t1 : ¬ (300 : Int) < (p.size : Int) := by omega
          by_cases h2 : d.size ≤ 1100
          · have t2 : ¬ (1100 : Int) < (d.size : Int) := by omega
            have HS := Lib.hid (HST.out h1 h2)
            clear HST
            go_wp2_with (fail)
            go_light
            refine ⟨⟨k + 1, ?_, ?_, HS.out, rfl⟩, ?_⟩
            · omega
            · go_num
            · simp [intOf]; omega
          · have t2 : (1100 : Int) < (d.size : Int) := by omega
            go_wp2_with (fail)
            go_ret
            exact ⟨true, rfl, fun h => (by cases h), rfl⟩
        · have t1 : (300 : Int) < (p.size : Int) := by omega
          go_wp2_with (fail)
          go_ret
          exact ⟨true, rfl, fun h => (by cases h), rfl⟩
      · have HF : Hid (∀ j (hj : j < xs.length), xs[j].path.size ≤ 300 ∧ xs[j].data.size ≤ 1100) := fun j hj => HALL.out j hj (by omega)
        clear HALL
        go_wp2_with (fail)
        go_ret
        exact ⟨false, rfl, fun _ => ⟨h20, HF.out⟩, rfl⟩
  · have h20' : (20 : Int) < (xs.length : Int) := by omega
    go_enter Tryz.func38, Tryz.ntmps38
    go_wp2_with (fail)
    go_ret
    exact ⟨true, rfl, fun h => (by cases h), rfl⟩
def oCa : OpV := ⟨1, ⟨#[47, 97]⟩, ⟨#[]⟩, 0, 0⟩
def aw1 : SoV := (openO (soZ 10) 5).1
theorem aw_open : (openO (soZ 10) 5).2 = (1, 0) := by decide
theorem aw_law : (askS aw1 1 1 [oCa]).2.err = 0 ∧ sameRp (askS aw1 1 1 [oCa]).2 (askS (askS aw1 1 1 [oCa]).1 1 1 [oCa]).2 = true ∧ (askS (askS aw1 1 1 [oCa]).1 1 1 [oCa]).1.zx = 1 ∧ (askS (askS aw1 1 1 [oCa]).1 1 1 [oCa]).1.tr.length = 1 := by decide +kernel
set_option maxHeartbeats 3200000 in
theorem awake21_any (w : World) (hG : GT w) : Calls Tryz.prog 30 #[] w fun e w' => e = .returned (.bool true) ∧ Ext w w' := by
  have HG := Lib.hid hG
  have hl := aw_law
  obtain ⟨X, hX⟩ : ∃ X, askS aw1 1 1 [oCa] = X := ⟨_, rfl⟩
  rw [hX] at hl
  obtain ⟨Y, hY⟩ : ∃ Y, askS X.1 1 1 [oCa] = Y := ⟨_, rfl⟩
  rw [hY] at hl
  have HL := Lib.hid hl
  have HX := Lib.hid hX
  have HY := Lib.hid hY
  clear hG hl hX hY
  go_enter Tryz.func30, Tryz.ntmps30
  go_wp2_with (fail)
  refine (soS_new 10 w (by decide) (by decide)).mono ?_
  rintro e w1 ⟨g, rfl, h1, hx1⟩
  have H1 := Lib.hid h1
  clear h1 hx1
  go_wp2_with (fail)
  refine (soS_open H1.out (by decide) 5).mono ?_
  rintro e w2 ⟨rfl, h2, ho2⟩
  rw [aw_open]
  have H2 : Hid (SoS w w2 g (0 + 1) aw1) := h2
  clear h2 ho2 H1
  go_wp2_with (fail)
  obtain ⟨hxA, hoA, hsA⟩ := ops1 w2 oCa _ rfl
  have HXA := Lib.hid hxA
  have HOA := Lib.hid hoA
  have HQSZ := Lib.hid hsA
  clear hxA hoA hsA
  refine (ask21_any 1 1 _ 1 1 _).mono ?_
  rintro e w3 ⟨rfl, hx3⟩
  have HASK := Lib.hid (soS_ask H2.out (by omega) HG.out (HXA.out.trans hx3) (.slice (some ⟨(w2).heap.size, 0, none⟩) 1 1) [oCa] 1 1 (HOA.out.ext hx3) (by intro x hx; rw [List.mem_singleton.1 hx]; decide) (fun i hi => by
    have e2 : (w2).heap.size = i := by simpa [Value.ownBlock] using hi
    have h1 := Nat.lt_of_lt_of_le HQSZ.out hx3.size
    omega))
  clear hx3 HXA HOA HQSZ
  go_wp2_with (fail)
  refine HASK.out.mono ?_
  rintro e w4 ⟨u, rfl, hu1, hs1, ho1⟩
  clear HASK
  rw [HX.out] at hu1 hs1 ⊢
  have HOA := Lib.hid ho1
  obtain ⟨rsl, hrsl, hxe⟩ := hu1
  obtain ⟨ua, uc, rfl⟩ := hrsl.slice
  have HU0 : Hid (RpAt w4 0 (.slice ua rsl.length uc) X.2) := ⟨rsl, hrsl, hxe⟩
  clear hrsl hxe
  generalize rsl.length = un at *
  unfold rplA
  obtain ⟨w5, hWD⟩ : ∃ W, (w4).alloc (.cells #[.int .i64 (X.2).num, .int .i64 (X.2).zxid, .int .i64 (X.2).err, .int .i64 (X.2).at_, .slice ua un uc] rplT) = W := ⟨_, rfl⟩
  have hxD : Ext w4 w5 := by rw [← hWD]; exact (Kp.refl _ _).alloc _
  have BA : Hid (Blk w5 (w4).heap.size #[.int .i64 (X.2).num, .int .i64 (X.2).zxid, .int .i64 (X.2).err, .int .i64 (X.2).at_, .slice ua un uc] rplT) := by
    show Blk _ _ _ _
    rw [← hWD]; exact heap_alloc_new w4 _
  have HUA := Lib.hid (HU0.out.ext hxD)
  have HSA := Lib.hid ((hs1).ext hxD)
  have HXD := Lib.hid hxD
  have HWD := Lib.hid hWD
  clear ho1 hs1 HU0 hxD hWD
  go_upto_region 6 with (fail)
  rw [HWD.out]
  go_wp2_with (fail)
  obtain ⟨hxA, hoA, hsA⟩ := ops1 w5 oCa _ rfl
  have HXA := Lib.hid hxA
  have HOA := Lib.hid hoA
  have HQSZ := Lib.hid hsA
  clear hxA hoA hsA
  refine (ask21_any 1 1 _ 1 1 _).mono ?_
  rintro e w6 ⟨rfl, hx3⟩
  have HASK := Lib.hid (soS_ask HSA.out (by omega) HG.out (HXA.out.trans hx3) (.slice (some ⟨(w5).heap.size, 0, none⟩) 1 1) [oCa] 1 1 (HOA.out.ext hx3) (by intro x hx; rw [List.mem_singleton.1 hx]; decide) (fun i hi => by
    have e2 : (w5).heap.size = i := by simpa [Value.ownBlock] using hi
    have h1 := Nat.lt_of_lt_of_le HQSZ.out hx3.size
    omega))
  clear hx3 HXA HOA HQSZ
  go_wp2_with (fail)
  refine HASK.out.mono ?_
  rintro e w7 ⟨u, rfl, hu2, hs2, ho2⟩
  clear HASK
  rw [HY.out] at hu2 hs2 ⊢
  have HOB := Lib.hid ho2
  obtain ⟨rsl, hrsl, hxe⟩ := hu2
  obtain ⟨va, vc, rfl⟩ := hrsl.slice
  have HU0 : Hid (RpAt w7 0 (.slice va rsl.length vc) Y.2) := ⟨rsl, hrsl, hxe⟩
  clear hrsl hxe
  generalize rsl.length = vn at *
  unfold rplA
  obtain ⟨w8, hWD⟩ : ∃ W, (w7).alloc (.cells #[.int .i64 (Y.2).num, .int .i64 (Y.2).zxid, .int .i64 (Y.2).err, .int .i64 (Y.2).at_, .slice va vn vc] rplT) = W := ⟨_, rfl⟩
  have hxD : Ext w7 w8 := by rw [← hWD]; exact (Kp.refl _ _).alloc _
  have BB : Hid (Blk w8 (w7).heap.size #[.int .i64 (Y.2).num, .int .i64 (Y.2).zxid, .int .i64 (Y.2).err, .int .i64 (Y.2).at_, .slice va vn vc] rplT) := by
    show Blk _ _ _ _
    rw [← hWD]; exact heap_alloc_new w7 _
  have HUB := Lib.hid (HU0.out.ext hxD)
  have HSB := Lib.hid ((hs2).ext hxD)
  have HXD := Lib.hid hxD
  have HWD := Lib.hid hWD
  clear ho2 hs2 HU0 hxD hWD
  have hba := (HOB.out.blk BA.out (by decide)).kp HXD.out (fun f => f)
  have hbb := BB.out
  have hra := (HOB.out.rp HUA.out).ext HXD.out
  have hl1 : (X.2.err == 0) = true := by rw [HL.out.1]; rfl
  have a0 := hba.cell 0 _ rfl
  have a1 := hba.cell 1 _ rfl
  have a2 := hba.cell 2 _ rfl
  have a3 := hba.cell 3 _ rfl
  have a4 := hba.cell 4 _ rfl
  have b0 := hbb.cell 0 _ rfl
  have b1 := hbb.cell 1 _ rfl
  have b2 := hbb.cell 2 _ rfl
  have b3 := hbb.cell 3 _ rfl
  have b4 := hbb.cell 4 _ rfl
  have HSAME := Lib.hid (repSame_any 0 0 _ _ _ _ w8 hra HUB.out)
  rw [HL.out.2.1] at HSAME
  clear hba hbb hra
  go_upto_region 7 with (fail)
  rw [HWD.out]
  go_wp2_with (fail)
  refine HSAME.out.mono ?_
  rintro e w9 ⟨rfl, hx9⟩
  have HS9 := Lib.hid (HSB.out.ext hx9)
  clear hx9
  go_wp2_with (fail)
  refine (soS_zxid HS9.out).mono ?_
  rintro e w10 ⟨rfl, rfl⟩
  rw [HL.out.2.2.1]
  go_wp2_with (fail)
  refine (soS_tree HS9.out (by omega)).mono ?_
  rintro e w11 ⟨b', m', c', rfl, ht, hx11⟩
  have HT := Lib.hid ht
  have HX11 := Lib.hid (HS9.out.ex.trans hx11)
  have HLN : Hid (((pl c').length : Int) = 1) := by
    show _ = _
    rw [← ht.len, HL.out.2.2.2]; rfl
  clear ht hx11
  go_wp2_with (fail)
  refine (tsLen HT.out.ts).mono ?_
  rintro e w12 ⟨rfl, rfl⟩
  rw [HLN.out]
  go_wp2_with (fail)
  go_ret
  exact ⟨rfl, HX11.out⟩
end Go.Proofs.YtnlefnhdhigecaaGreatDoor

/- The frame of a law's row, where the row lists tables. -/
namespace Go.Proofs.YtnlefnhdhigecaaGreatDoor
set_option maxRecDepth 100000
open Go.ChangeShapes Go.WideShapes Go.ChangeAt Go.RowKit Av

/-- WHAT A LAW's ROW COMES TO: one contract over arguments that can be read. -/
theorem law_lifted_laid {f : FuncId} {fn : Func} {s : ChangeSpec} {laid : List (String × DataW Unit)} {os : Os} (started : os.Started) {H : Type} {enc : TypeId × Value → H}
    (hnoInit : Tryz.prog.inits.idxOf? f = none) (hfn : Tryz.prog.funcs[f]? = some fn) (hvars : s.vars = []) (hres : fn.resultTypes = #[4]) (hrow : rowedAll Tryz.prog fn.params.toList = true)
    (hplain : (laid.all fun x => x.2.handleName?.isNone) = true) (hspec : ∀ ds : List (DataW H), ds.length = fn.params.toList.length → s.fn H ds = { results := [.lit (.bool true)], args := ds })
    (witness : ∃ (w : World) (tape : Tape) (i : Input), w.os = os ∧ (w.forCall tape i).Shaped Tryz.prog ∧ i.vars = [] ∧ Input.okWide Tryz.prog (w.forCall tape i) .any w.heap.size f i ∧
      ((s.pre enc Tryz.prog fn [] false (w.forCall tape i).memory i.args ∧ laidMetH Tryz.prog laid (w.forCall tape i).memory) ∧ sizedMet enc Tryz.prog fn (OpenSpec.ofChange s) false (w.forCall tape i).memory i.args) ∧ Assume.holds {} Tryz.prog (lone (Frame.enter Tryz.prog f i.args .normal) [] (w.forCall tape i)))
    (contract : ∀ (W : World) (base : Nat) (args : Array Value) (ds : List (DataW H)) (p : List MemPlace),
      (∀ (j : Nat) t v, fn.params[j]? = some t → args[j]? = some v → Value.okWide Tryz.prog W .any base t v) →
      DataW.TrodAll enc Tryz.prog W 0 (fun _ => true) true fn.params.toList args.toList ds p →
      W.ShapedOpen Tryz.prog → laidMet Tryz.prog laid W → Calls Tryz.prog f args W fun e W' => e = .returned (.bool true) ∧ Ext W W') :
    ReturnsInHanded {} Tryz.checked os f .any (fun w args => (s.pre enc Tryz.prog fn [] false w args ∧ laidMetH Tryz.prog laid w) ∧ sizedMet enc Tryz.prog fn (OpenSpec.ofChange s) false w args) (s.post enc Tryz.prog fn false true false false) := by
  have own : ownKnob Tryz.prog.godebug = none := by kernel_rfl
  refine returnsInHanded_of_calls own started hnoInit witness ?_
  intro w tape i _ hsh _ hok hpre _
  obtain ⟨_, _, _, fn', hfn', _, _, _, _, hval⟩ := hok
  have e : fn' = fn := Option.some.inj (hfn'.symm.trans hfn)
  subst e
  obtain ⟨⟨⟨ds, gs, before, hw, _⟩, hlaid⟩, _⟩ := hpre
  rw [MakeChecks.laidMetH_plain _ _ _ hplain] at hlaid
  have hw' := DataW.Whole.of_heap (w' := w.forCall tape i) (by rfl) hw
  have hW := hw'
  obtain ⟨p, q, hA, hV, rfl, _, _⟩ := hw'
  rw [hvars] at hV
  have hgs : gs = [] ∧ q = [] := trodVars_none hV
  obtain ⟨rfl, rfl⟩ := hgs
  have hlen : ds.length = fn'.params.toList.length := by
    have : ∀ {ts : List TypeId} {vs : List Value} {ds : List (DataW H)} {ps : List MemPlace}, DataW.TrodAll enc Tryz.prog (w.forCall tape i) 0 (fun _ => true) true ts vs ds ps → ds.length = ts.length := by
      intro ts
      induction ts with
      | nil => intro vs ds ps h; obtain ⟨rfl, rfl, rfl⟩ := trodAll_nil h; rfl
      | cons t ts ih => intro vs ds ps h; obtain ⟨v, vs', d, ds', p, q, rfl, rfl, rfl, h1, h2⟩ := trodAll_cons h; simp [ih h2]
    exact this hA
  refine (contract (w.forCall tape i) w.heap.size i.args ds p hval hA hsh (laidMet.of_heap (by rfl) hlaid)).mono fun e W' ⟨he, hx⟩ => ?_
  subst he
  refine ChangeSpec.post_blind ?_
  have hsp := hspec ds hlen
  refine ⟨ds, [], _, [], p, [], hW, ?_, ?_, ?_, (Kp.below hx).frame _, fun h => by cases h⟩
  · rw [List.append_nil, hsp, hres]; exact trodAll_mk1 (shut_bool Tryz.underlying4 _)
  · rw [List.append_nil, hsp]; exact trodAll_ext (by kernel_rfl) (Kp.below hx) hrow hA
  · rw [List.append_nil, hsp, hvars]; rfl


/-- The table of powers of ten, off the row's list. -/
theorem tab_of_laid {W : World} {laid : List (String × DataW Unit)} (h : laidMet Tryz.prog laid W) (hl : (laid.filter fun x => x.1 == "internal/strconv.uint64pow10") = [("internal/strconv.uint64pow10", Lib.tabData .u64 Lib.pow10Tab)]) :
    Lib.TabIs Tryz.prog W "internal/strconv.uint64pow10" .u64 Lib.pow10Tab := by
  have h2 := h.filter (fun x => x.1 == "internal/strconv.uint64pow10")
  rw [hl] at h2
  exact Lib.tabIs_of_head (g := 1) (t := 331) (e := 236) (n := 20) (by kernel_rfl) (by kernel_rfl) Tryz.underlying331 Tryz.underlying236 (by kernel_rfl) (by kernel_rfl) h2
end Go.Proofs.YtnlefnhdhigecaaGreatDoor

/- Arguments of the tree's laws; tables. -/
namespace Go.Proofs.YtnlefnhdhigecaaGreatDoor
set_option maxRecDepth 100000
open Go.ChangeShapes Go.WideShapes Go.ChangeAt Go.RowKit Av

theorem gt_of {W : World} {laid : List (String × DataW Unit)} (hsh : W.ShapedOpen Tryz.prog) (h : laidMet Tryz.prog laid W) (hl : (laid.filter fun x => x.1 == "internal/strconv.uint64pow10") = [("internal/strconv.uint64pow10", Lib.tabData .u64 Lib.pow10Tab)]) : GT W :=
  ⟨gl_of_shape hsh, tab_of_laid h hl⟩
end Go.Proofs.YtnlefnhdhigecaaGreatDoor

/- Ops that come in as an argument. -/
namespace Go.Proofs.YtnlefnhdhigecaaGreatDoor
set_option maxRecDepth 100000
open Go.ChangeShapes Go.WideShapes Go.ChangeAt Go.RowKit Av

theorem arg_opsl {H : Type} {enc : TypeId × Value → H} {W : World} {base : Nat} {r : Reach} {v : Value} {d : DataW H} {p : List MemPlace} (hv : Value.okWide Tryz.prog W r base 69 v) (h : DataW.Trod enc Tryz.prog W 0 (fun _ => true) true 69 v d p) :
    ∃ xs : List OpV, OpsAt W v xs ∧ OpsSz xs ∧ ∀ o ∈ xs, Op64 o := by
  obtain ⟨a0, len, cap, rfl⟩ := okWide_slice Tryz.underlying69 hv
  obtain ⟨n, h⟩ := h
  obtain ⟨v', hcs, xs, h1, h2, h3⟩ := trod_ops h
  simp only [Value.cells, List.cons.injEq, and_true] at hcs
  subst hcs
  exact ⟨xs, h1, h2, h3⟩
end Go.Proofs.YtnlefnhdhigecaaGreatDoor

/- Arguments of package aviarylaw21: numbers, acts. -/
namespace Go.Proofs.YtnlefnhdhigecaaGreatDoor
set_option maxRecDepth 100000
open Go.ChangeShapes Go.WideShapes Go.ChangeAt Go.RowKit Av

def ncell (n : Int) : List Value := [.int .i64 n]
theorem arg_nums {H : Type} {enc : TypeId × Value → H} {W : World} {base : Nat} {r : Reach} {v : Value} {d : DataW H} {p : List MemPlace} (hv : Value.okWide Tryz.prog W r base 58 v) (h : DataW.Trod enc Tryz.prog W 0 (fun _ => true) true 58 v d p) :
    ∃ xs : List Int, Sl W 1 v xs.length (xs.flatMap ncell) ∧ ∀ n ∈ xs, I64 n := by
  obtain ⟨a0, len, cap, rfl⟩ := okWide_slice Tryz.underlying58 hv
  obtain ⟨n, h⟩ := h
  obtain ⟨v', hcs, xs, h1, _, h3⟩ := trod_sl ncell 1 I64 (fun _ => rfl) (by decide) Tryz.underlying58 (by kernel_rfl) (fun fuel cs x hx => by
    obtain ⟨s, rfl, hs⟩ := trod_i64 Tryz.underlying2 hx
    exact ⟨s, rfl, hs⟩) h
  simp only [Value.cells, List.cons.injEq, and_true] at hcs
  subst hcs
  exact ⟨xs, h1, h3⟩
/-- One act: which, whose, its number, the ops, a path, a kind. -/
structure ActG where
  op : Int
  sess : Int
  num : Int
  ops : List OpV
  ov : Value
  p : ByteArray
  kind : Int
def ActG.cells (a : ActG) : List Value := [.int .i64 a.op, .int .i64 a.sess, .int .i64 a.num, a.ov, .string a.p, .int .i64 a.kind]
structure ActGOk (W : World) (a : ActG) : Prop where
  ops : OpsAt W a.ov a.ops
  sz : OpsSz a.ops
  o64 : ∀ o ∈ a.ops, Op64 o
  path : a.p.size ≤ maxLen
  i64 : I64 a.op ∧ I64 a.sess ∧ I64 a.num ∧ I64 a.kind
section
variable {H : Type} {enc : TypeId × Value → H} {W : World}
theorem trod_actG {fuel : Nat} {cs : List Value} {x : DataW H × List MemPlace} (h : DataW.trod enc Tryz.prog W 0 (fun _ => true) true fuel 81 cs = some x) : ∃ a : ActG, cs = a.cells ∧ ActGOk W a := by
  obtain ⟨xs, n2, _, _, hlcs, hxl, hf⟩ := DataW.trod_struct Tryz.underlying81 h
  have q0 := hf 0 _ rfl
  have q1 := hf 1 _ rfl
  have q2 := hf 2 _ rfl
  have q3 := hf 3 _ rfl
  have q4 := hf 4 _ rfl
  have q5 := hf 5 _ rfl
  have k3 : Program.cellsOf Tryz.prog 3 = 1 := by kernel_rfl
  have k2 : Program.cellsOf Tryz.prog 2 = 1 := by kernel_rfl
  have k9 : Program.cellsOf Tryz.prog 9 = 1 := by kernel_rfl
  have k6 : Program.cellsOf Tryz.prog 69 = 1 := by kernel_rfl
  have k5 : Program.cellsOf Tryz.prog 81 = 6 := by kernel_rfl
  simp at hxl
  obtain ⟨z0, z1, z2, z3, z4, z5, rfl⟩ : ∃ z0 z1 z2 z3 z4 z5, xs = [z0, z1, z2, z3, z4, z5] := by
    match xs, hxl with
    | [z0, z1, z2, z3, z4, z5], _ => exact ⟨z0, z1, z2, z3, z4, z5, rfl⟩
  rw [k5] at hlcs
  obtain ⟨v0, v1, v2, v3, v4, v5, rfl⟩ : ∃ v0 v1 v2 v3 v4 v5, cs = [v0, v1, v2, v3, v4, v5] := by
    match cs, hlcs with
    | [v0, v1, v2, v3, v4, v5], _ => exact ⟨v0, v1, v2, v3, v4, v5, rfl⟩
  simp [k3, k2, k6, k9] at q0 q1 q2 q3 q4 q5
  obtain ⟨i0, e0, b0⟩ := trod_i64 Tryz.underlying3 q0
  obtain ⟨i1, e1, b1⟩ := trod_i64 Tryz.underlying2 q1
  obtain ⟨i2, e2, b2⟩ := trod_i64 Tryz.underlying2 q2
  obtain ⟨v, e3, os, b3, b4, b5⟩ := trod_ops q3
  obtain ⟨s4, e4, b6⟩ := trod_str1 Tryz.underlying9 q4
  obtain ⟨i5, e5, b7⟩ := trod_i64 Tryz.underlying3 q5
  simp at e0 e1 e2 e3 e4 e5
  subst e0 e1 e2 e3 e4 e5
  exact ⟨⟨i0, i1, i2, os, _, s4, i5⟩, rfl, b3, b4, b5, b6, b0, b1, b2, b7⟩
end
/-- A slice of acts that can be read. -/
def ActsG (w : World) (v : Value) (xs : List ActG) : Prop := Sl w 6 v xs.length (xs.flatMap ActG.cells) ∧ ∀ a ∈ xs, ActGOk w a
theorem arg_actsG {H : Type} {enc : TypeId × Value → H} {W : World} {base : Nat} {r : Reach} {v : Value} {d : DataW H} {p : List MemPlace} (hv : Value.okWide Tryz.prog W r base 78 v) (h : DataW.Trod enc Tryz.prog W 0 (fun _ => true) true 78 v d p) :
    ∃ xs : List ActG, ActsG W v xs := by
  obtain ⟨a0, len, cap, rfl⟩ := okWide_slice Tryz.underlying78 hv
  obtain ⟨n, h⟩ := h
  obtain ⟨v', hcs, xs, h1, _, h3⟩ := trod_sl ActG.cells 6 (ActGOk W) (fun _ => rfl) (by decide) Tryz.underlying78 (by kernel_rfl) (fun fuel cs x hx => trod_actG hx) h
  simp only [Value.cells, List.cons.injEq, and_true] at hcs
  subst hcs
  exact ⟨xs, h1, h3⟩
end Go.Proofs.YtnlefnhdhigecaaGreatDoor
