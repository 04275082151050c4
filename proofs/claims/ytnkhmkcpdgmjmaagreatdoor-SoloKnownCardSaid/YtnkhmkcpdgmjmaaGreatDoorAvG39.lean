/- Texts put together: AvSoL, AvSoN, AvSoO, AvOrdLaw, AvReadLaw. -/
import Derived.Test.YtnkhmkcpdgmjmaaGreatDoorAvHSoK
import Derived.Test.YtnkhmkcpdgmjmaaGreatDoorAvG18
import Derived.Test.YtnkhmkcpdgmjmaaGreatDoorAvG26

/- The solo as a law holds it; what a call leaves of others' blocks. -/
namespace Go.Proofs.YtnkhmkcpdgmjmaaGreatDoor
set_option maxRecDepth 100000
open Go.RowKit Av

abbrev soTs : List TypeId := [soT, trT, ndT, ssT, seT, wlT, arT, evT]
variable {w0 w w' : World} {g K N : Nat} {B : SoB} {s : SoV}
def SoS (w0 w : World) (g N : Nat) (s : SoV) : Prop := ∃ B, SoR w0 w g (20 * N) B s ∧ SoOk N s
theorem SoS.ext (h : SoS w0 w g N s) (k : Ext w w') : SoS w0 w' g N s := by
  obtain ⟨B, h1, h2⟩ := h
  exact ⟨B, h1.ext k, h2⟩
theorem SoS.ex (h : SoS w0 w g N s) : Ext w0 w := by
  obtain ⟨B, h1, _⟩ := h
  exact h1.ex
theorem SoS.ok (h : SoS w0 w g N s) : SoOk N s := by
  obtain ⟨B, _, h2⟩ := h
  exact h2
theorem SoS.aside {S : Nat → Prop} {Ts : List TypeId} (h : SoS w0 w g N s) (k : Kp S w w') (hS : Safe w0 w S Ts []) (hT : ∀ T ∈ [soT, trT, ndT, strT, ssT, seT, wlT, arT, rsuT, evT], T ∉ Ts) : SoS w0 w' g N s := by
  obtain ⟨B, h1, h2⟩ := h
  exact ⟨B, h1.aside k hS hT, h2⟩
/-- What a call leaves of blocks that are none of the solo's. -/
def Oth (w0 w w' : World) : Prop := ∃ S ms, Kp S w w' ∧ Safe w0 w S soTs ms
theorem Oth.of (h : Ext w w') : Oth w0 w w' := ⟨fun _ => False, [], h, ⟨fun _ f => f.elim, fun _ f => f.elim⟩⟩
theorem Oth.blk (h : Oth w0 w w') {r : Nat} {A : Array Value} {T : TypeId} (hb : Blk w r A T) (hT : T ∉ soTs) : Blk w' r A T := by
  obtain ⟨S, ms, k, hs⟩ := h
  exact hb.kp k (hs.blk hb hT)
theorem Oth.rp (h : Oth w0 w w') {v : Value} {r : RpV} (hr : RpAt w 0 v r) : RpAt w' 0 v r := by
  obtain ⟨S, ms, k, hs⟩ := h
  exact hr.kpT k (hs.noT (by decide)) (hs.noT (by decide))
theorem Oth.size (h : Oth w0 w w') : w.heap.size ≤ w'.heap.size := by
  obtain ⟨S, ms, k, hs⟩ := h
  exact k.size
theorem SoR.oth (h : SoR w0 w g K B s) {W : World} (hx : Ext w W) (k : Kp (SoFr g B) W w') : Oth w0 w w' := ⟨SoFr g B, [B.m, B.lm, B.em], (Ext.kp hx).trans k, h.safeA⟩
theorem SoPost.oth {L : Nat} {s' : SoV} {W : World} (h : SoR w0 w g K B s) (hx : Ext w W) (p : SoPost w0 W g L B s' w') : Oth w0 w w' := by
  obtain ⟨B', _, k, _⟩ := p
  exact h.oth hx k
theorem SoOk.opened (h : SoOk N s) (span : Int) : SoOk (N + 1) (openO s span).1 := ⟨h.ss.open span, h.up.zx, h.up.ev, h.last⟩
theorem SoOk.watched (h : SoOk N s) (x : Wt) : SoOk (N + 1) (watchO s x).1 := by
  unfold watchO
  split
  · exact h.up
  · refine ⟨h.up.ss, h.up.zx, fun q => ?_, h.last⟩
    have h1 := armG_len 1000 s.wl x
    have h2 := h.ev q
    show (s.ev q).length + (armG 1000 s.wl x).length ≤ N + 1
    omega
theorem SoOk.told (h : SoOk N s) (id : Int) : SoOk N (eventsO s id).1 := by
  refine ⟨h.ss, h.zx, fun q => ?_, h.last⟩
  have h2 := h.ev q
  show ((if q = id then [] else s.ev q).length) + s.wl.length ≤ N
  split
  · simp only [List.length_nil]; omega
  · exact h2
theorem soS_new (room : Int) (w : World) (h1 : 1 ≤ room) (h2 : room ≤ 500) : Calls Tryz.prog 30 #[.int .i64 room] w fun e w' => ∃ g, e = .returned (.tuple #[.pointer (some ⟨g, 0, none⟩), .int .i64 0]) ∧ SoS w w' g 0 (soZ room) ∧ Ext w w' := by
  refine (soNew_any room w h1 h2).mono ?_
  rintro e w' ⟨g, B, rfl, h3, h4⟩
  exact ⟨g, rfl, ⟨B, h3, soOk_new room⟩, h4⟩
theorem soS_open (h : SoS w0 w g N s) (hN : N ≤ 3000) (span : Int) : Calls Tryz.prog 31 #[.pointer (some ⟨g, 0, none⟩), .int .i64 span] w fun e w' => e = .returned (.tuple #[.int .i64 (openO s span).2.1, .int .i64 (openO s span).2.2]) ∧ SoS w0 w' g (N + 1) (openO s span).1 ∧ Oth w0 w w' := by
  obtain ⟨B, hr, hok⟩ := h
  refine (soOpen_any hr hok (by omega) span).mono ?_
  rintro e w' ⟨rfl, hp⟩
  have ho := hp.oth hr (Kp.refl _ _)
  obtain ⟨B', h1, _, _⟩ := hp
  exact ⟨rfl, ⟨B', h1.mono (by omega), hok.opened span⟩, ho⟩
theorem soS_zxid (h : SoS w0 w g N s) : Calls Tryz.prog 40 #[.pointer (some ⟨g, 0, none⟩)] w fun e w' => e = .returned (.int .i64 s.zx) ∧ w = w' := by
  obtain ⟨B, hr, hok⟩ := h
  exact soZxid_any hr
theorem soS_tree (h : SoS w0 w g N s) (hN : N ≤ 3000) : Calls Tryz.prog 36 #[.pointer (some ⟨g, 0, none⟩)] w fun e w' => ∃ b' m' c, e = .returned (.pointer (some ⟨b', 0, none⟩)) ∧ TrA w w' b' m' s.room (20 * N) c s.tr ∧ Ext w w' := by
  obtain ⟨B, hr, hok⟩ := h
  exact soTree_any hr (by omega)
theorem soS_watch (h : SoS w0 w g N s) (hN : N ≤ 3000) (hG : GL w) (x : Wt) (hp : x.path.size ≤ maxLen) : Calls Tryz.prog 37 #[.pointer (some ⟨g, 0, none⟩), .int .i64 x.sess, .string x.path, .int .i64 x.kind] w fun e w' => e = .returned (.int .i64 (watchO s x).2) ∧ SoS w0 w' g (N + 1) (watchO s x).1 ∧ Oth w0 w w' := by
  obtain ⟨B, hr, hok⟩ := h
  refine (soWatch_any hr hok (by omega) hG x hp).mono ?_
  rintro e w' ⟨rfl, hp⟩
  have ho := hp.oth hr (Kp.refl _ _)
  obtain ⟨B', h1, _, _⟩ := hp
  exact ⟨rfl, ⟨B', h1.mono (by omega), hok.watched x⟩, ho⟩
/-- Ask, of ops that lie where the solo does not. -/
theorem soS_ask (h : SoS w0 w g N s) (hN : N ≤ 3000) (hG : GT w0) {W : World} (hx : Ext w W) (v : Value) (ops : List OpV) (sess num : Int) (ho : OpsAt W v ops) (hsz : OpsS ops) (hv : ∀ i, v.ownBlock = some i → (i < w0.heap.size ∨ w.heap.size ≤ i) ∧ i < W.heap.size) :
    Calls Tryz.prog 32 #[.pointer (some ⟨g, 0, none⟩), .agg #[.int .i64 sess, .int .i64 num, v]] W fun e w' => ∃ u, e = .returned (.agg (rplA (askS s sess num ops).2 u)) ∧ RpAt w' 0 u (askS s sess num ops).2 ∧ SoS w0 w' g (N + 1) (askS s sess num ops).1 ∧ Oth w0 w w' := by
  obtain ⟨B, hr, hok⟩ := h
  refine (soAsk_any (hr.ext hx) hok (by omega) (by omega) hG v ops sess num ho hsz (fun i hi hs => ?_) (fun i hi => (hv i hi).2)).mono ?_
  · have h1 := hr.low i hs
    have h2 := hr.lt hs
    rcases (hv i hi).1 with h | h <;> omega
  · rintro e w' ⟨u, rfl, h1, h2, h3⟩
    have hoth := h2.oth hr hx
    obtain ⟨B', h4, _, _⟩ := h2
    exact ⟨u, rfl, h1.less (Nat.zero_le _), ⟨B', h4.mono (by omega), h3⟩, hoth⟩
abbrev opTy : TypeId := 33
/-- A slice of one op, just made. -/
theorem ops1 (w : World) (o : OpV) : ∀ W, w.alloc (.cells #[.int .i64 o.kind, .string o.path, .string o.data, .int .i64 o.ver, .int .i64 o.flags] opTy) = W → Ext w W ∧ OpsAt W (.slice (some ⟨w.heap.size, 0, none⟩) 1 1) [o] ∧ w.heap.size < W.heap.size := by
  rintro W rfl
  have hx : Ext w (w.alloc (.cells #[.int .i64 o.kind, .string o.path, .string o.data, .int .i64 o.ver, .int .i64 o.flags] opTy)) := (Kp.refl _ _).alloc _
  have hb : Blk (w.alloc (.cells #[.int .i64 o.kind, .string o.path, .string o.data, .int .i64 o.ver, .int .i64 o.flags] opTy)) w.heap.size #[.int .i64 o.kind, .string o.path, .string o.data, .int .i64 o.ver, .int .i64 o.flags] opTy := heap_alloc_new w _
  refine ⟨hx, ⟨sl_rowsK OpV.cells 5 (fun _ => rfl) (by decide) [o] rfl (by decide) (by decide) (fun _ => hb.lt) (fun i hi j hj => ?_), ?_⟩, hb.lt⟩
  · have e : i = 0 := by simpa using hi
    subst e
    have hc := hb.cell j
    match j, hj with
    | 0, _ => exact hc _ rfl
    | 1, _ => exact hc _ rfl
    | 2, _ => exact hc _ rfl
    | 3, _ => exact hc _ rfl
    | 4, _ => exact hc _ rfl
  · exact Shp.some
def reqZ : Array Value := #[.int .i64 0, .int .i64 0, .slice none 0 0]
def rq3 (w : World) (r : Nat) (u0 u1 u2 : Value) : World := ((w.setCell ⟨r, 0, none⟩ u0).setCell ⟨r, 1, none⟩ u1).setCell ⟨r, 2, none⟩ u2
theorem kp_rq3 (w : World) (r : Nat) (u0 u1 u2 : Value) : Kp (fun i => i = r) w (rq3 w r u0 u1 u2) := by
  have k : ∀ {W : World} (i : Nat) (u : Value), Kp (fun i => i = r) w W → Kp (fun i => i = r) w (W.setCell ⟨r, i, none⟩ u) := fun i u h => h.set1 r i u rfl
  exact k 2 u2 (k 1 u1 (k 0 u0 (Kp.refl _ _)))
set_option maxHeartbeats 800000 in
theorem ask21_any (sess num : Int) (a : Option Addr) (n c : Nat) (w : World) : Calls Tryz.prog 33 #[.int .i64 sess, .int .i64 num, .slice a n c] w fun e w' => e = .returned (.agg #[.int .i64 sess, .int .i64 num, .slice a n c]) ∧ Ext w w' := by
  obtain ⟨wB, hWB⟩ : ∃ wB, w.alloc (.cells reqZ reqT) = wB := ⟨_, rfl⟩
  have hxB : Ext w wB := by rw [← hWB]; exact (Kp.refl _ _).alloc _
  have hB : Blk wB w.heap.size reqZ reqT := by rw [← hWB]; exact heap_alloc_new w _
  have HXB := Lib.hid hxB
  have HWB := Lib.hid hWB
  unfold reqZ at hB HWB
  have d0 := hB.cell 0 _ rfl
  have d1 := hB.cell 1 _ rfl
  have d2 := hB.cell 2 _ rfl
  have fd0 := hB.free 0
  have fd1 := hB.free 1
  have fd2 := hB.free 2
  clear hWB hxB hB
  go_enter Tryz.func33, Tryz.ntmps33
  go_upto_region 1 with (fail)
  rw [HWB.out]
  go_wp2_with (fail)
  go_light
  refine bodyPost_ret (v := .agg #[.int .i64 sess, .int .i64 num, .slice a n c]) (by simp [results, Tryz.results33, go_sem, d0, d1, d2]) rfl ?_
  have k3 := kp_rq3 wB w.heap.size (.int .i64 sess) (.int .i64 num) (.slice a n c)
  exact ⟨rfl, HXB.out.next k3 (fun i hi e => by omega)⟩
end Go.Proofs.YtnkhmkcpdgmjmaaGreatDoor

/- Walks: the solo: end (of a session that owns at most 20 nodes). -/
namespace Go.Proofs.YtnkhmkcpdgmjmaaGreatDoor
set_option maxRecDepth 100000
open Go.RowKit Av

variable {w0 w w' : World} {g K N : Nat} {B : SoB} {s : SoV}
theorem SoR.evdel (h : SoR w0 w g K B s) (id : Int) (hm : MapK mI w' B.em (mdel B.E id)) (k : Kp (fun i => i = B.em) w w') : SoPost w0 w g K B { s with ev := fun q => if q = id then [] else s.ev q } w' := by
  have hS := h.safeE
  have hi := h.ids
  have hex : Ext w0 w' := h.ex.next k (fun i hi hs => by have := hS.low i hs; omega)
  have hE := h.ev.del id hm k (fun q i hq => h.ev.off q i hq)
  have hsub : ∀ i, SoFr g { B with E := mdel B.E id } i → SoFr g B i := fun i hs => by
    rcases hs with hs | hs | hs | hs | hs | hs | ⟨q, hs⟩
    · exact .inl hs
    · exact .inr (.inl hs)
    · exact .inr (.inr (.inl hs))
    · exact .inr (.inr (.inr (.inl hs)))
    · exact .inr (.inr (.inr (.inr (.inl hs))))
    · exact .inr (.inr (.inr (.inr (.inr (.inl hs)))))
    · refine .inr (.inr (.inr (.inr (.inr (.inr ⟨q, ?_⟩)))))
      have hs : (Av.rowAt (mdel B.E id) q).ownBlock = some i := hs
      rw [rowAt_del] at hs
      split at hs
      · simp [Value.ownBlock] at hs
      · exact hs
  exact ⟨{ B with E := mdel B.E id }, ⟨h.blk.kp k (hS.blk h.blk (by simp)), h.tr.safe k hS (by simp) (by simp) (by simp) hi.2.1, h.ss.safe k hS (by simp) (by simp), h.wl.safe k hS (by simp) (by simp), h.lm.safe k hS (by simp) (by simp) hi.2.2.2.1, hE, h.ne, fun i hs => h.low i (hsub i hs), hex⟩, k.mono (fun i _ hs => .inr (.inr (.inr (.inr (.inr (.inl hs)))))), fun i hs => .inl (hsub i hs)⟩
theorem SoR.lastdel (h : SoR w0 w g K B s) (id : Int) (hm : MapK mI w' B.lm (mdel B.M id)) (k : Kp (fun i => i = B.lm) w w') : SoPost w0 w g K B { s with last := mdel s.last id } w' := by
  refine h.lasts k ⟨hm, fun q => ?_⟩
  have hg := h.lm.get q
  rw [mget_mdel, mget_mdel]
  by_cases e : q = id
  · rw [if_pos e, if_pos e]
  · rw [if_neg e, if_neg e]
    cases hq : mget s.last q with
    | none => rw [hq] at hg; exact hg
    | some r =>
      rw [hq] at hg
      obtain ⟨u, h1, h2⟩ := hg
      exact ⟨u, h1, h2.kpT k (h.safeL.noT (by simp)) (h.safeL.noT (by simp))⟩
theorem SoR.purged (h : SoR w0 w g K B s) {n : Nat} {t' : Tr} {tr' : RL} (ht : TrA w0 w' B.b B.m s.room n t' tr') (k : Kp (nodeFr B.m B.t) w w') (hf : Fresh w B.t t') : SoPost w0 w g n B { s with tr := tr' } w' := by
  refine h.tree k h.safeT (fun i hs => .inr hs) (fun T hT => .inr (by simpa using hT)) (fun i hi => by simpa using hi) ht (.inl rfl) (fun i hi => ?_)
  rcases hi with hi | hi | ⟨e, he, rfl⟩
  · exact .inl (.inl hi)
  · exact .inl (.inr (.inl hi))
  · rcases hf e he with ⟨e0, h0, h1⟩ | h0
    · exact .inl (.inr (.inr ⟨e0, h0, h1⟩))
    · exact .inr h0
theorem SoOk.gone : ∀ (l : List ByteArray) {s : SoV}, SoOk N s → SoOk N (goneS s l)
  | [], _, h => h
  | p :: l, _, h => SoOk.gone l (h.fire p 2)
theorem SoOk.ended (h : SoOk N s) (id : Int) : SoOk (N + 1) (endS s id) := by
  have h1 : SoOk (N + 1) { s with zx := s.zx + 1, tr := (purgeL s.tr id).1 } := ⟨h.up.ss, ⟨by have := h.zx.1; show 0 ≤ s.zx + 1; omega, by have := h.zx.2; show s.zx + 1 ≤ _; omega⟩, h.up.ev, h.last⟩
  have h2 := SoOk.gone (purgeL s.tr id).2 h1
  unfold endS
  simp only
  generalize goneS { s with zx := s.zx + 1, tr := (purgeL s.tr id).1 } (purgeL s.tr id).2 = s1 at h2 ⊢
  refine ⟨h2.ss, h2.zx, fun q => ?_, fun q r hq => ?_⟩
  · have h3 := h2.ev q
    have h4 : (dropW id s1.wl).length ≤ s1.wl.length := List.length_filter_le _ _
    show (if q = id then [] else s1.ev q).length + (dropW id s1.wl).length ≤ N + 1
    split
    · simp only [List.length_nil]; omega
    · omega
  · have hq : mget (mdel s1.last id) q = some r := hq
    rw [mget_mdel] at hq
    split at hq
    · cases hq
    · exact h2.last q r hq
def EndRel (w0 w2 : World) (g K : Nat) (B : SoB) (s : SoV) (l : List ByteArray) (s20 : Value) (wr : World) : Prop := ∃ k : Nat, k ≤ l.length ∧ s20 = .int .i64 k ∧ SoPost w0 w2 g K B (goneS s (l.take k)) wr
set_option maxHeartbeats 12800000 in
theorem soEnd_small (h : SoR w0 w g K B s) (hok : SoOk N s) (hN : N ≤ 90000) (hK : K ≤ 80000) (hG : GT w0) (id : Int) (hroom : s.room ≤ 100000) (hn : (ofBL s.tr id).length ≤ 20) :
    Calls Tryz.prog 84 #[.pointer (some ⟨g, 0, none⟩), .int .i64 id] w fun e w' => (∃ u, e = .returned u) ∧ SoPost w0 w g (K + 20) B (endS s id) w' ∧ SoOk (N + 1) (endS s id) := by
  have HEND := Lib.hid (hok.ended id)
  have hg3 := h.blk
  have g3 := hg3.cell 3 _ rfl
  have f3 := hg3.free 3
  have hz := hok.zx
  have hW0 : wrap64 (s.zx + 1) = s.zx + 1 := by unfold wrap64; omega
  have hV0 : IntKind.i64.wrap (s.zx + 1) = s.zx + 1 := IntWalk.i64_in _ (by omega)
  obtain ⟨hr1, hk1⟩ := h.zxid (s.zx + 1)
  obtain ⟨w1, hW1⟩ : ∃ w1, w.setCell ⟨g, 3, none⟩ (.int .i64 (s.zx + 1)) = w1 := ⟨_, rfl⟩
  rw [hW1] at hr1 hk1
  have hok1 : SoOk (N + 1) { s with zx := s.zx + 1 } := ⟨hok.up.ss, ⟨by have := hok.zx.1; show 0 ≤ s.zx + 1; omega, by have := hok.zx.2; show s.zx + 1 ≤ _; omega⟩, hok.up.ev, hok.last⟩
  have HPUR := Lib.hid (purge_small hr1.tr hG (by omega) hroom id hn)
  have hps : ∀ p ∈ (purgeL s.tr id).2, p.size ≤ maxLen := fun p hp => by
    have h1 : p ∈ ofBL s.tr id := (sortD_perm _).mem_iff.1 hp
    obtain ⟨n, h2, _⟩ := ofBL_own h.tr.srt.rise h1
    have := path_small _ (h.tr.good.snd.good _ n (by rw [← h.tr.srt.get]; exact h2))
    unfold maxLen; omega
  have hn2 : (purgeL s.tr id).2.length ≤ 20 := by rw [show (purgeL s.tr id).2 = sortD (ofBL s.tr id) from rfl, (sortD_perm _).length_eq]; exact hn
  have hES : endS s id = { goneS { s with zx := s.zx + 1, tr := (purgeL s.tr id).1 } (purgeL s.tr id).2 with wl := dropW id (goneS { s with zx := s.zx + 1, tr := (purgeL s.tr id).1 } (purgeL s.tr id).2).wl, ev := fun q => if q = id then [] else (goneS { s with zx := s.zx + 1, tr := (purgeL s.tr id).1 } (purgeL s.tr id).2).ev q, last := mdel (goneS { s with zx := s.zx + 1, tr := (purgeL s.tr id).1 } (purgeL s.tr id).2).last id } := rfl
  generalize purgeL s.tr id = P at *
  have HES := Lib.hid hES
  have HH := Lib.hid h
  have HR1 := Lib.hid hr1
  have HK1 := Lib.hid hk1
  have HPS := Lib.hid hps
  have HN2 := Lib.hid hn2
  have HOK1 := Lib.hid hok1
  have HG := Lib.hid hG
  have hb0 := hr1.blk.cell 0 _ rfl
  have B0 := Lib.hid hb0
  have HW1 := Lib.hid hW1
  clear h hok hG hn hES hr1 hk1 hps hn2 hok1 hg3 hb0 hW1 hz
  go_enter Tryz.func84, Tryz.ntmps84
  go_upto_region 1 with (fail)
  rw [HW1.out]
  clear g3 f3
  have c0 := B0.out
  go_wp2_with (fail)
  refine HPUR.out.mono ?_
  rintro e w2 ⟨v, ls, t', rfl, h1, h2, h3, h4, h5⟩
  have hp2 := HR1.out.purged h3 h4 h5
  have hl20 : ls.length ≤ 20 := by
    have h6 := congrArg List.length h1
    rw [List.length_map] at h6
    have := HN2.out
    omega
  obtain ⟨B2, hS2, hk2, ho2⟩ := hp2
  obtain ⟨a, c, rfl⟩ := owns_slice h2
  have HS2 := Lib.hid hS2
  have HK2 := Lib.hid hk2
  have HO2 := Lib.hid ho2
  have HRW := Lib.hid h2
  have HLS := Lib.hid h1
  clear c0 h1 h2 h3 h4 h5 hS2 hk2 ho2 HPUR
  obtain ⟨s2, hs2⟩ : ∃ s2 : SoV, ({ s with zx := s.zx + 1, tr := P.1 } : SoV) = s2 := ⟨_, rfl⟩
  have hok2 : SoOk (N + 1) s2 := by rw [← hs2]; exact ⟨HOK1.out.ss, HOK1.out.zx, HOK1.out.ev, HOK1.out.last⟩
  have HS3 : Hid (SoR w0 w2 g (K + ls.length) B2 s2) := by rw [← hs2]; exact HS2.out
  have HOK2 := Lib.hid hok2
  have HS2E := Lib.hid hs2
  have hls := HLS.out
  have hpsz : ∀ p ∈ ls.map toB, p.size ≤ maxLen := fun p hp => HPS.out p (by rw [← hls]; exact hp)
  have HPZ := Lib.hid hpsz
  clear HS2 hs2 hok2 hls hpsz HOK1 HPS
  go_wp2_with (fail)
  go_loopw [20] (fun s20 wr => EndRel w0 w2 g (K + ls.length) B2 s2 (ls.map toB) s20 wr) (fun s20 _ => ls.length - (intOf s20).toNat)
  case atStart => exact ⟨0, Nat.zero_le _, rfl, SoPost.refl HS3.out⟩
  case round =>
    obtain ⟨k, hk, rfl, Bk, hSk, hkk, hbk⟩ := hrel
    rw [List.length_map] at hk
    have HSK := Lib.hid hSk
    have HKK := Lib.hid hkk
    have HBK := Lib.hid hbk
    have hokk := SoOk.gone ((ls.map toB).take k) HOK2.out
    have HOKK := Lib.hid hokk
    clear hSk hkk hbk hokk
    by_cases hlt : k < ls.length
    · have hrw := owns_kpT HRW.out HKK.out (HS3.out.safeA.noT (by decide))
      obtain ⟨_, _, hsl2, hop2⟩ := strs_open hrw
      simp only [Value.slice.injEq, true_and] at hsl2
      obtain ⟨rfl, rfl⟩ := hsl2
      obtain ⟨q, off, rfl, hc2⟩ := hop2 (by omega)
      have cs := hc2 k hlt
      unfold encStr at cs
      have hk2 : k < (ls.map toB).length := by rw [List.length_map]; exact hlt
      have hpk : (ls.map toB)[k] = toB ls[k] := List.getElem_map _
      have hfold : goneS s2 ((ls.map toB).take (k + 1)) = fireS (goneS s2 ((ls.map toB).take k)) (toB ls[k]) 2 := by
        rw [List.take_succ_eq_append_getElem hk2, hpk]
        unfold goneS
        rw [List.foldl_append]; rfl
      have hpz := HPZ.out (toB ls[k]) (by rw [← hpk]; exact List.getElem_mem _)
      rw [show (⟨ls[k].toArray⟩ : ByteArray) = toB ls[k] from rfl] at cs
      have HF := Lib.hid (soFire_any HSK.out HOKK.out (by omega) (HG.out.ext HSK.out.ex).gl (toB ls[k]) 2 hpz)
      have HFOLD := Lib.hid hfold
      clear hrw hop2 hc2 hk2 hpk hfold hpz
      generalize toB ls[k] = p at *
      go_wp2_with (fail)
      refine HF.out.mono ?_
      rintro e w3 ⟨⟨u, rfl⟩, h1⟩
      have H1 := Lib.hid (SoPost.trans HKK.out HBK.out h1)
      clear h1 HF
      go_wp2_with (fail)
      go_light
      refine ⟨⟨k + 1, ?_, ?_, ?_⟩, ?_⟩
      · rw [List.length_map]; omega
      · go_num
      · rw [HFOLD.out]; exact H1.out
      · simp [intOf]; omega
    · have htk : (ls.map toB).take k = P.2 := by rw [List.take_of_length_le (by rw [List.length_map]; omega), HLS.out]
      have hS3 := HSK.out
      have hO3 := HOKK.out
      rw [htk] at hS3 hO3
      have hwlen : (goneS s2 P.2).wl.length ≤ 100000 := by have := hO3.ev 0; omega
      have HDR := Lib.hid (watDrop_any Bk.wb Bk.wr 1000 (goneS s2 P.2).wl id wr hS3.wl hwlen)
      have c2 := hS3.blk.cell 2 _ rfl
      have H3 := Lib.hid hS3
      clear hS3 hO3 htk hwlen
      go_wp2_with (fail)
      refine HDR.out.mono ?_
      rintro e w4 ⟨rfl, h1, h2⟩
      obtain ⟨B4, h4, hk4, ho4⟩ := H3.out.watch h2 ⟨_, h1, fun i hi => .inl hi⟩
      have H4 := Lib.hid h4
      have HK4 := Lib.hid hk4
      have HO4 := Lib.hid ho4
      clear h1 h2 h4 hk4 ho4 c2 HDR
      have c5 := H4.out.blk.cell 5 _ rfl
      obtain ⟨w5, u1, u2, u3, u4⟩ := MapK.delete kI64 tEvs H4.out.ev.map id
      obtain ⟨B5, h5, hk5, ho5⟩ := H4.out.evdel id u2 u3
      have H5 := Lib.hid h5
      have HK5 := Lib.hid hk5
      have HO5 := Lib.hid ho5
      clear u2 u3 u4 h5 hk5 ho5
      have c4 := H5.out.blk.cell 4 _ rfl
      obtain ⟨w6, v1, v2, v3, v4⟩ := MapK.delete kI64 tLast H5.out.lm.map id
      have hp6 := H5.out.lastdel id v2 v3
      have hp5 := SoPost.trans HK5.out HO5.out hp6
      have hp4 := SoPost.trans HK4.out HO4.out hp5
      have hp3 := SoPost.trans HKK.out HBK.out hp4
      have hp2 := SoPost.trans HK2.out HO2.out hp3
      have hp1 := SoPost.trans HK1.out (fun i hi => .inl hi) hp2
      have HP := Lib.hid (hp1.more (show K + ls.length ≤ K + 20 by omega))
      have u1' : ∀ ty, (Builtin.delete_ #[138, 2] ty #[.map (some B4.em), .int .i64 id]).run Tryz.prog w4 = .ok (.tuple #[]) w5 := u1
      have v1' : ∀ ty, (Builtin.delete_ #[137, 2] ty #[.map (some B5.lm), .int .i64 id]).run Tryz.prog w5 = .ok (.tuple #[]) w6 := v1
      clear hp1 hp2 hp3 hp4 hp5 hp6 v2 v3 v4 u1 v1
      go_wp2_with (fail)
      go_end0
      have hpp := HP.out
      have he := HES.out
      rw [HS2E.out] at he
      refine ⟨⟨_, rfl⟩, ?_, HEND.out⟩
      rw [he]
      exact hpp
end Go.Proofs.YtnkhmkcpdgmjmaaGreatDoor

/- Walks: the solo: Close (of a session that owns at most 20 nodes). -/
namespace Go.Proofs.YtnkhmkcpdgmjmaaGreatDoor
set_option maxRecDepth 100000
open Go.RowKit Av

variable {w0 w w' : World} {g K N : Nat} {B : SoB} {s : SoV}
theorem closeS_none {ss : SsV} {id : Int} (h : (closeS ss id).2 ≠ 0) : (closeS ss id).1 = ss := by
  unfold closeS at h ⊢
  split
  · rfl
  · rename_i hf; rw [hf] at h; exact absurd rfl h
set_option maxHeartbeats 3200000 in
theorem soClose_small (h : SoR w0 w g K B s) (hok : SoOk N s) (hN : N ≤ 90000) (hK : K ≤ 80000) (hG : GT w0) (id : Int) (hroom : s.room ≤ 100000) (hn : (ofBL s.tr id).length ≤ 20) :
    Calls Tryz.prog 34 #[.pointer (some ⟨g, 0, none⟩), .int .i64 id] w fun e w' => e = .returned (.int .i64 (closeO s id).2) ∧ SoPost w0 w g (K + 20) B (closeO s id).1 w' ∧ SoOk (N + 1) (closeO s id).1 := by
  have c1 := h.blk.cell 1 _ rfl
  have HC := Lib.hid (sesClose_any B.sb B.sr s.ss id w h.ss (by have := hok.ss.len; omega))
  have HH := Lib.hid h
  have HOK := Lib.hid hok
  have HG := Lib.hid hG
  have HN := Lib.hid hn
  by_cases he : (closeS s.ss id).2 = 0
  · have hE : closeO s id = (endS { s with ss := (closeS s.ss id).1 } id, 0) := by unfold closeO; rw [if_neg (by rw [he]; simp)]
    have hok2 : SoOk N { s with ss := (closeS s.ss id).1 } := ⟨hok.ss.close id, hok.zx, hok.ev, hok.last⟩
    rw [he] at HC
    rw [hE]
    have HOK2 := Lib.hid hok2
    generalize (closeS s.ss id).1 = ss' at *
    clear h hok hG hn he hE hok2
    go_enter Tryz.func34, Tryz.ntmps34
    go_wp2_with (fail)
    refine HC.out.mono ?_
    rintro e w1 ⟨rfl, h2, h3⟩
    obtain ⟨B1, h4, hk4, ho4⟩ := HH.out.sess h3 h2
    have HK4 := Lib.hid hk4
    have HO4 := Lib.hid ho4
    have HEN := Lib.hid (soEnd_small h4 HOK2.out hN hK HG.out id hroom HN.out)
    clear h2 h3 h4 hk4 ho4 c1 HC
    go_wp2_with (fail)
    refine HEN.out.mono ?_
    rintro e w2 ⟨⟨u, rfl⟩, h5, h6⟩
    have H5 := Lib.hid (SoPost.trans HK4.out HO4.out h5)
    have H6 := Lib.hid h6
    clear h5 h6 HEN
    go_wp2_with (fail)
    go_ret
    exact ⟨rfl, H5.out, H6.out⟩
  · have hE : closeO s id = (s, (closeS s.ss id).2) := by unfold closeO; rw [if_pos he]
    rw [hE]
    have h1 := closeS_none he
    rw [h1] at HC
    generalize (closeS s.ss id).2 = z at *
    clear h hok hG hn hE h1
    go_enter Tryz.func34, Tryz.ntmps34
    go_wp2_with (fail)
    refine HC.out.mono ?_
    rintro e w1 ⟨rfl, h2, h3⟩
    have HP := Lib.hid (HH.out.sess h3 h2)
    clear h2 h3 HC
    go_wp2_with (fail)
    go_ret
    have hp : SoPost w0 w g K B s w1 := HP.out
    exact ⟨rfl, hp.more (by omega), HOK.out.up⟩
end Go.Proofs.YtnkhmkcpdgmjmaaGreatDoor

/- Plain laws of a solo: numbers rise. No program. -/
namespace Go.Proofs.YtnkhmkcpdgmjmaaGreatDoor
set_option maxRecDepth 100000
open Go.RowKit Av

theorem setTill_ids (l : List SeV) (k : Nat) (now : Int) : (setTill l k now).map (·.id) = l.map (·.id) := by
  unfold setTill
  split
  · rfl
  · rename_i x hx
    apply List.ext_getElem?
    intro i
    rw [List.getElem?_map, List.getElem?_map, List.getElem?_set]
    by_cases e : k = i
    · subst e
      have hk := (List.getElem?_eq_some_iff.1 hx).1
      rw [if_pos rfl, if_pos hk, hx]; rfl
    · rw [if_neg e]
theorem findS_ids {l m : List SeV} (h : l.map (·.id) = m.map (·.id)) (id : Int) : findS l id = findS m id := by
  have key : ∀ l : List SeV, findS l id = (l.map (·.id)).findIdx? (fun i => decide (i = id)) := fun l => by
    unfold findS
    rw [List.findIdx?_map]
    rfl
  rw [key, key, h]
theorem find_touch (ss : SsV) (a b : Int) : findS (touchS ss a).1.l b = findS ss.l b := by
  unfold touchS
  split
  · rfl
  · exact findS_ids (setTill_ids _ _ _) b
theorem live_touch (ss : SsV) (a b : Int) : liveS (touchS ss a).1 b = liveS ss b := by
  unfold liveS
  rw [find_touch]
theorem touch_ok {ss : SsV} {a : Int} (h : liveS ss a = true) : (touchS ss a).2 = 0 := by
  unfold liveS at h
  unfold touchS
  cases hf : findS ss.l a with
  | none => rw [hf] at h; cases h
  | some k => rfl
theorem touch_no {ss : SsV} {a : Int} (h : liveS ss a = false) : touchS ss a = (ss, 11) := by
  unfold liveS at h
  unfold touchS
  cases hf : findS ss.l a with
  | none => rfl
  | some k => rw [hf] at h; cases h
/-- What Ask says, by what stands there. -/
theorem askS_bad {s : SoV} {sess num : Int} {ops : List OpV} (h : mayR sess num ops ≠ 0) : askS s sess num ops = (s, failRp num (mayR sess num ops) (-1) 0) := by
  unfold askS; rw [if_pos h]
theorem askS_none {s : SoV} {sess num : Int} {ops : List OpV} (h : mayR sess num ops = 0) (h2 : liveS s.ss sess = false) : askS s sess num ops = (s, failRp num 11 (-1) ops.length) := by
  unfold askS; rw [if_neg (by rw [h]; simp), if_pos (by rw [touch_no h2]; simp)]
theorem askS_first {s : SoV} {sess num : Int} {ops : List OpV} (h : mayR sess num ops = 0) (h2 : liveS s.ss sess = true) (h3 : mget s.last sess = none) : askS s sess num ops = doneS { s with ss := (touchS s.ss sess).1 } sess num ops := by
  unfold askS; rw [if_neg (by rw [h]; simp), if_neg (by rw [touch_ok h2]; simp), h3]
theorem askS_same {s : SoV} {sess num : Int} {ops : List OpV} {r : RpV} (h : mayR sess num ops = 0) (h2 : liveS s.ss sess = true) (h3 : mget s.last sess = some r) (h4 : num = r.num) : askS s sess num ops = ({ s with ss := (touchS s.ss sess).1 }, r) := by
  unfold askS; rw [if_neg (by rw [h]; simp), if_neg (by rw [touch_ok h2]; simp), h3]; simp only [if_pos h4]
theorem askS_old {s : SoV} {sess num : Int} {ops : List OpV} {r : RpV} (h : mayR sess num ops = 0) (h2 : liveS s.ss sess = true) (h3 : mget s.last sess = some r) (h4 : num < r.num) : askS s sess num ops = ({ s with ss := (touchS s.ss sess).1 }, failRp num 1 (-1) ops.length) := by
  unfold askS; rw [if_neg (by rw [h]; simp), if_neg (by rw [touch_ok h2]; simp), h3]; simp only [if_neg (show ¬ num = r.num by omega), if_pos h4]
theorem askS_next {s : SoV} {sess num : Int} {ops : List OpV} {r : RpV} (h : mayR sess num ops = 0) (h2 : liveS s.ss sess = true) (h3 : mget s.last sess = some r) (h4 : r.num < num) : askS s sess num ops = doneS { s with ss := (touchS s.ss sess).1 } sess num ops := by
  unfold askS; rw [if_neg (by rw [h]; simp), if_neg (by rw [touch_ok h2]; simp), h3]; simp only [if_neg (show ¬ num = r.num by omega), if_neg (show ¬ num < r.num by omega)]
/-- Exists of a node that is not there. -/
def oEx : OpV := ⟨6, ⟨#[47, 97]⟩, ⟨#[]⟩, 0, 0⟩
theorem good_one {o : OpV} (h : goodO o = 0) (sess num : Int) : mayR sess num [o] = if sess < 1 ∨ num < 1 then 1 else 0 := by
  unfold mayR
  by_cases hb : sess < 1 ∨ num < 1
  · rw [if_pos hb, if_pos (by rcases hb with h | h; exact .inl h; exact .inr (.inl h))]
  · rw [if_neg hb, if_neg (by simp; omega), if_neg (by simp)]
    simp [h]
theorem oEx_good : goodO oEx = 0 := by decide +kernel
theorem oEx_do (z : Int) (hz : 0 ≤ z) : (doL 10 [] oEx 1 z).2.err = 4 := by
  unfold doL
  rw [if_neg (by rw [oEx_good]; simp), if_neg (by omega), if_neg (by decide), if_neg (by decide)]
  rfl
theorem request_fail {room : Int} {L : RL} {sess num z : Int} {o : OpV} (h : mayR sess num [o] = 0) (he : (doL room L o sess z).2.err ≠ 0) : (requestL room L sess num z [o]).1 = L ∧ (requestL room L sess num z [o]).2.err = (doL room L o sess z).2.err ∧ (requestL room L sess num z [o]).2.num = num ∧ (requestL room L sess num z [o]).2.zxid = z := by
  have h1 : runL room sess z L [o] = ((doL room L o sess z).1, [], (doL room L o sess z).2.err) := by unfold runL; rw [if_pos he]
  have h2 : multiL room L sess z [o] = (L, failRp 0 (doL room L o sess z).2.err (([] : List Rp).length) 1, false) := by
    unfold multiL
    rw [if_neg (by simp), if_neg (by simp), h1, if_pos he]
    rfl
  unfold requestL
  rw [if_neg (by rw [h]; simp), h2]
  exact ⟨rfl, rfl, rfl, rfl⟩
/-- The state between two of SoloOrder's requests. -/
structure OrdS (last z : Int) (s : SoV) : Prop where
  room : s.room = 10
  tr : s.tr = []
  live : liveS s.ss 1 = true
  zx : s.zx = z
  pos : 0 ≤ z
  last : (last = 0 ∧ mget s.last 1 = none) ∨ (0 < last ∧ ∃ r, mget s.last 1 = some r ∧ r.num = last ∧ r.err = 4)
theorem OrdS.touch {last z : Int} {s : SoV} (h : OrdS last z s) : OrdS last z { s with ss := (touchS s.ss 1).1 } := ⟨h.room, h.tr, by show liveS (touchS s.ss 1).1 1 = true; rw [live_touch]; exact h.live, h.zx, h.pos, h.last⟩
theorem OrdS.done {last z : Int} {s : SoV} (h : OrdS last z s) {num : Int} (hn : 0 < num) : OrdS num (z + 1) (doneS s 1 num [oEx]).1 ∧ (doneS s 1 num [oEx]).2.err = 4 ∧ (doneS s 1 num [oEx]).2.zxid = z + 1 := by
  have hm : mayR 1 num [oEx] = 0 := by rw [good_one oEx_good, if_neg (by omega)]
  have hd := oEx_do (z + 1) (by have := h.pos; omega)
  have hr := request_fail (room := 10) (L := []) (z := z + 1) hm (by rw [hd]; decide)
  rw [hd] at hr
  unfold doneS
  simp only
  rw [h.zx, h.room, h.tr]
  generalize requestL 10 [] 1 num (z + 1) [oEx] = X at hr ⊢
  obtain ⟨h1, h2, h3, h4⟩ := hr
  have hc : ∀ s' : SoV, changedS s' [oEx] X.2 = s' := fun s' => by unfold changedS; rw [if_pos (by rw [h2]; decide)]
  rw [hc]
  refine ⟨⟨rfl, h1, h.live, rfl, by have := h.pos; omega, .inr ⟨hn, X.2, ?_, h3, h2⟩⟩, h2, h4⟩
  show mget (mset s.last 1 X.2) 1 = some X.2
  rw [mget_mset, if_pos rfl]
theorem OrdS.low {last z : Int} {s : SoV} (h : OrdS last z s) {num : Int} (hn : num < 1 ∨ num < last) : (askS s 1 num [oEx]).2.err = 1 ∧ OrdS last z (askS s 1 num [oEx]).1 := by
  by_cases h1 : num < 1
  · have hm : mayR 1 num [oEx] = 1 := by rw [good_one oEx_good, if_pos (.inr h1)]
    rw [askS_bad (by rw [hm]; decide), hm]
    exact ⟨rfl, h⟩
  · have hm : mayR 1 num [oEx] = 0 := by rw [good_one oEx_good, if_neg (by omega)]
    rcases h.last with ⟨h2, _⟩ | ⟨h2, r, h3, h4, h5⟩
    · omega
    · rw [askS_old hm h.live h3 (by omega)]
      exact ⟨rfl, h.touch⟩
theorem OrdS.same {last z : Int} {s : SoV} (h : OrdS last z s) {num : Int} (hn : ¬ (num < 1 ∨ num < last)) (he : num = last) : (askS s 1 num [oEx]).2.err = 4 ∧ OrdS last z (askS s 1 num [oEx]).1 := by
  have hm : mayR 1 num [oEx] = 0 := by rw [good_one oEx_good, if_neg (by omega)]
  rcases h.last with ⟨h2, _⟩ | ⟨h2, r, h3, h4, h5⟩
  · omega
  · rw [askS_same hm h.live h3 (by omega)]
    exact ⟨h5, h.touch⟩
theorem OrdS.next {last z : Int} {s : SoV} (h : OrdS last z s) {num : Int} (hn : ¬ (num < 1 ∨ num < last)) (he : num ≠ last) : (askS s 1 num [oEx]).2.err = 4 ∧ (askS s 1 num [oEx]).2.zxid = z + 1 ∧ OrdS num (z + 1) (askS s 1 num [oEx]).1 := by
  have hm : mayR 1 num [oEx] = 0 := by rw [good_one oEx_good, if_neg (by omega)]
  rcases h.last with ⟨h2, h3⟩ | ⟨h2, r, h3, h4, h5⟩
  · rw [askS_first hm h.live h3]
    obtain ⟨a, b, c⟩ := h.touch.done (num := num) (by omega)
    exact ⟨b, c, a⟩
  · rw [askS_next hm h.live h3 (by omega)]
    obtain ⟨a, b, c⟩ := h.touch.done (num := num) (by omega)
    exact ⟨b, c, a⟩
end Go.Proofs.YtnkhmkcpdgmjmaaGreatDoor

/- Plain laws of a solo: what reads or fails changes no node; what is asked again is answered as it was. No program. -/
namespace Go.Proofs.YtnkhmkcpdgmjmaaGreatDoor
set_option maxRecDepth 100000
open Go.RowKit Av

/-- Two states that differ in watches and events alone. -/
structure SameS (s t : SoV) : Prop where
  room : t.room = s.room
  tr : t.tr = s.tr
  ss : t.ss = s.ss
  zx : t.zx = s.zx
  last : t.last = s.last
theorem chStep_same (s : SoV) (x : OpV × Rp) : SameS s (chStep s x) := by
  unfold chStep
  split <;> exact ⟨rfl, rfl, rfl, rfl, rfl⟩
theorem SameS.trans {s t u : SoV} (h : SameS s t) (k : SameS t u) : SameS s u := ⟨k.room.trans h.room, k.tr.trans h.tr, k.ss.trans h.ss, k.zx.trans h.zx, k.last.trans h.last⟩
theorem chs_same : ∀ (l : List (OpV × Rp)) (s : SoV), SameS s (l.foldl chStep s)
  | [], _ => ⟨rfl, rfl, rfl, rfl, rfl⟩
  | x :: l, s => (chStep_same s x).trans (chs_same l _)
theorem changed_same (s : SoV) (ops : List OpV) (r : RpV) : SameS s (changedS s ops r) := by
  unfold changedS
  split
  · exact ⟨rfl, rfl, rfl, rfl, rfl⟩
  · exact chs_same _ _
theorem done_room (s : SoV) (sess num : Int) (ops : List OpV) : (doneS s sess num ops).1.room = s.room := by
  unfold doneS
  simp only
  rw [(changed_same _ ops _).room]
theorem ask_room (s : SoV) (sess num : Int) (ops : List OpV) : (askS s sess num ops).1.room = s.room := by
  unfold askS
  split
  · rfl
  · split
    · rfl
    · split
      · exact done_room _ sess num ops
      · split
        · rfl
        · split
          · rfl
          · exact done_room _ sess num ops
theorem done_live (s : SoV) (sess num : Int) (ops : List OpV) : (doneS s sess num ops).1.ss = s.ss := by
  unfold doneS
  simp only
  rw [(changed_same _ ops _).ss]
theorem ask_live (s : SoV) (sess num : Int) (ops : List OpV) (q : Int) : liveS (askS s sess num ops).1.ss q = liveS s.ss q := by
  unfold askS
  split
  · rfl
  · split
    · rfl
    · split
      · rw [done_live]; exact live_touch _ _ _
      · split
        · exact live_touch _ _ _
        · split
          · exact live_touch _ _ _
          · rw [done_live]; exact live_touch _ _ _
theorem done_last (s : SoV) (sess num : Int) (ops : List OpV) (q : Int) : mget (doneS s sess num ops).1.last q = if q = sess then some (doneS s sess num ops).2 else mget s.last q := by
  unfold doneS
  simp only
  rw [mget_mset, (changed_same _ ops _).last]
theorem ask_last {s : SoV} {sess num : Int} {ops : List OpV} {q : Int} (h : q ≠ sess) : mget (askS s sess num ops).1.last q = mget s.last q := by
  unfold askS
  split
  · rfl
  · split
    · rfl
    · split
      · rw [done_last, if_neg h]
      · split
        · rfl
        · split
          · rfl
          · rw [done_last, if_neg h]
/-- The state since 1 asked its 3rd. -/
structure AgS (ops : List OpV) (r : RpV) (s : SoV) : Prop where
  live : liveS s.ss 1 = true
  last : (mayR 1 3 ops ≠ 0 ∧ r = failRp 3 (mayR 1 3 ops) (-1) 0) ∨ (mayR 1 3 ops = 0 ∧ mget s.last 1 = some r ∧ r.num = 3)
theorem AgS.first {s : SoV} (h : liveS s.ss 1 = true) (h2 : mget s.last 1 = none) (ops : List OpV) : AgS ops (askS s 1 3 ops).2 (askS s 1 3 ops).1 := by
  refine ⟨by rw [ask_live]; exact h, ?_⟩
  by_cases hm : mayR 1 3 ops = 0
  · right
    rw [askS_first hm h h2, done_last, if_pos rfl]
    refine ⟨hm, rfl, ?_⟩
    unfold doneS requestL
    simp only
    rw [if_neg (by rw [hm]; simp)]
  · left
    rw [askS_bad hm]
    exact ⟨hm, rfl⟩
theorem AgS.other {ops : List OpV} {r : RpV} {s : SoV} (h : AgS ops r s) (num : Int) (l : List OpV) : AgS ops r (askS s 2 num l).1 := by
  refine ⟨by rw [ask_live]; exact h.live, ?_⟩
  rw [ask_last (by decide)]
  exact h.last
theorem AgS.again {ops : List OpV} {r : RpV} {s : SoV} (h : AgS ops r s) : (askS s 1 3 ops).2 = r ∧ (askS s 1 3 ops).1.tr = s.tr ∧ (askS s 1 3 ops).1.zx = s.zx ∧ AgS ops r (askS s 1 3 ops).1 := by
  rcases h.last with ⟨h1, h2⟩ | ⟨h1, h2, h3⟩
  · rw [askS_bad h1]
    exact ⟨h2.symm, rfl, rfl, h⟩
  · rw [askS_same h1 h.live h2 h3.symm]
    exact ⟨rfl, rfl, rfl, by show liveS (touchS s.ss 1).1 1 = true; rw [live_touch]; exact h.live, .inr ⟨h1, h2, h3⟩⟩
end Go.Proofs.YtnkhmkcpdgmjmaaGreatDoor
