/- Texts put together: AvSoU, AvEvLaw, AvGoneLaw, AvLaw21F. -/
import Derived.Test.YtnkhmkcpdgmjmaaGreatDoorAvG40
import Derived.Test.YtnkhmkcpdgmjmaaGreatDoorAvG39

/- The solo as a law holds it: Close, Tick. -/
namespace Go.Proofs.YtnkhmkcpdgmjmaaGreatDoor
set_option maxRecDepth 100000
open Go.RowKit Av

variable {w0 w w' : World} {g K N : Nat} {B : SoB} {s : SoV}
theorem soS_close (h : SoS w0 w g N s) (hN : N ≤ 3000) (hG : GT w0) (id : Int) (hroom : s.room ≤ 100000) (hn : (ofBL s.tr id).length ≤ 20) :
    Calls Tryz.prog 34 #[.pointer (some ⟨g, 0, none⟩), .int .i64 id] w fun e w' => e = .returned (.int .i64 (closeO s id).2) ∧ SoS w0 w' g (N + 1) (closeO s id).1 ∧ Oth w0 w w' := by
  obtain ⟨B, hr, hok⟩ := h
  refine (soClose_small hr hok (by omega) (by omega) hG id hroom hn).mono ?_
  rintro e w' ⟨rfl, hp, hok2⟩
  have ho := hp.oth hr (Kp.refl _ _)
  obtain ⟨B', h1, _, _⟩ := hp
  exact ⟨rfl, ⟨B', h1.mono (by omega), hok2⟩, ho⟩
theorem soS_tick (h : SoS w0 w g N s) (hN : N ≤ 3000) (hG : GT w0) (hroom : s.room ≤ 100000) (hn : s.tr.length ≤ 20) :
    Calls Tryz.prog 35 #[.pointer (some ⟨g, 0, none⟩)] w fun e w' => ∃ v, e = .returned v ∧ w'.ownsRow w.heap.size sxT 1 v (tickO s).2.length (sxc (tickO s).2) ∧ SoS w0 w' g (N + 1 + (tickO s).2.length) (tickO s).1 ∧ Oth w0 w w' := by
  obtain ⟨B, hr, hok⟩ := h
  refine (soTick_small hr hok (by omega) (by omega) hG hroom hn).mono ?_
  rintro e w' ⟨v, rfl, hv, hp, hok2⟩
  have ho := hp.oth hr (Kp.refl _ _)
  obtain ⟨B', h1, _, _⟩ := hp
  exact ⟨v, rfl, hv, ⟨B', h1.mono (by omega), hok2⟩, ho⟩
end Go.Proofs.YtnkhmkcpdgmjmaaGreatDoor

/- Plain laws of a solo: events. No program. -/
namespace Go.Proofs.YtnkhmkcpdgmjmaaGreatDoor
set_option maxRecDepth 100000
open Go.RowKit Av

/-! The list in its order, reckoned by insertion. -/
theorem foldl_ins : ∀ (l m : List Wt), RisW m → l.Nodup → (∀ x ∈ l, x ∉ m) → RisW (l.foldl insW m) ∧ ∀ x, x ∈ l.foldl insW m ↔ x ∈ m ∨ x ∈ l
  | [], m, h, _, _ => ⟨h, fun x => by simp⟩
  | s :: l, m, h, hn, hd => by
    obtain ⟨hs, hn'⟩ := List.nodup_cons.1 hn
    have h1 := insW_ris h (hd s (by simp))
    obtain ⟨h3, h4⟩ := foldl_ins l (insW m s) h1 hn' (fun x hx => by
      rw [insW_mem]
      rintro (h | h)
      · exact hd x (by simp [hx]) h
      · subst h; exact hs hx)
    refine ⟨h3, fun x => ?_⟩
    rw [List.foldl_cons, h4 x, insW_mem]
    simp only [List.mem_cons]
    constructor
    · rintro ((a | a) | a)
      · exact .inl a
      · exact .inr (.inl a)
      · exact .inr (.inr a)
    · rintro (a | a | a)
      · exact .inl (.inl a)
      · exact .inl (.inr a)
      · exact .inr a
theorem sortW_ins {l : List Wt} (h : l.Nodup) : sortW l = l.foldl insW [] := by
  obtain ⟨h1, h2⟩ := foldl_ins l [] List.Pairwise.nil h (by simp)
  exact risW_ext (sortW_ris h) h1 fun x => by rw [sortW_mem, h2]; simp
theorem sortW_nil : sortW [] = [] := by rw [sortW_ins (by decide)]; rfl
theorem fire_nil (p : ByteArray) (ch : Int) : fireT p ch [] = [] ∧ fireG p ch [] = [] := by
  unfold fireT fireG
  rw [sortW_nil]
  split <;> exact ⟨rfl, rfl⟩
def sW : ByteArray := ⟨#[47, 119]⟩
def xW : Wt := ⟨2, sW, 1⟩
theorem fire_one : fireT sW 3 [xW] = [⟨2, sW, 3⟩] ∧ fireG sW 3 [xW] = [] := by
  unfold fireT fireG
  rw [sortW_ins (by decide +kernel)]
  decide +kernel
/-- One op that goes well. -/
theorem request_one {room : Int} {L : RL} {sess num z : Int} {o : OpV} (h : mayR sess num [o] = 0) (he : (doL room L o sess z).2.err = 0) : requestL room L sess num z [o] = ((doL room L o sess z).1, ⟨num, z, 0, -1, [(doL room L o sess z).2]⟩) := by
  have h1 : runL room sess z L [o] = ((doL room L o sess z).1, [(doL room L o sess z).2], 0) := by unfold runL; rw [if_neg (by rw [he]; simp)]; rfl
  have h2 : multiL room L sess z [o] = ((doL room L o sess z).1, ⟨0, z, 0, -1, [(doL room L o sess z).2]⟩, true) := by
    unfold multiL
    rw [if_neg (by simp), if_neg (by simp), h1, if_neg (by simp)]
  unfold requestL
  rw [if_neg (by rw [h]; simp), h2]
theorem done_one {s : SoV} {sess num : Int} {o : OpV} (h : mayR sess num [o] = 0) (he : (doL s.room s.tr o sess (s.zx + 1)).2.err = 0) :
    doneS s sess num [o] = ({ chStep { s with zx := s.zx + 1, tr := (doL s.room s.tr o sess (s.zx + 1)).1 } (o, (doL s.room s.tr o sess (s.zx + 1)).2) with last := mset (chStep { s with zx := s.zx + 1, tr := (doL s.room s.tr o sess (s.zx + 1)).1 } (o, (doL s.room s.tr o sess (s.zx + 1)).2)).last sess ⟨num, s.zx + 1, 0, -1, [(doL s.room s.tr o sess (s.zx + 1)).2]⟩ }, ⟨num, s.zx + 1, 0, -1, [(doL s.room s.tr o sess (s.zx + 1)).2]⟩) := by
  unfold doneS
  simp only
  rw [request_one h he]
  rfl
def oSw : OpV := ⟨3, sW, ⟨#[]⟩, -1, 0⟩
theorem oSw_good : goodO oSw = 0 := by decide +kernel
/-- The tree holds the one node. -/
def OneW (L : RL) : Prop := ∃ n, L = [(sW, n)]
theorem oSw_do {L : RL} (h : OneW L) (z : Int) (hz : 0 ≤ z) : OneW (doL 10 L oSw 1 z).1 ∧ (doL 10 L oSw 1 z).2.err = 0 ∧ (doL 10 L oSw 1 z).2.path = sW := by
  obtain ⟨n, rfl⟩ := h
  have h1 : mget [(sW, n)] oSw.path = some n := if_pos rfl
  have h2 : wrongB oSw n = false := rfl
  have h3 : atR [(sW, n)] oSw.path = 0 := by
    have e : keysR [(sW, n)] = [sW.data.toList] := rfl
    unfold atR
    rw [e]
    decide +kernel
  unfold doL
  rw [if_neg (by rw [oSw_good]; simp), if_neg (by omega), if_neg (by decide), if_pos (by decide)]
  unfold changeL
  rw [h1]
  simp only [h2, h3]
  rw [if_neg (by decide), if_neg (by decide), if_pos (by decide)]
  exact ⟨⟨_, rfl⟩, rfl, rfl⟩
/-- The state between two of SoloEvents' requests; is b's watch armed? -/
structure EvS (last : Int) (armed : Bool) (s : SoV) : Prop where
  room : s.room = 10
  tr : OneW s.tr
  l1 : liveS s.ss 1 = true
  l2 : liveS s.ss 2 = true
  zx : 0 ≤ s.zx
  last : ∃ r, mget s.last 1 = some r ∧ r.num = last
  wl : s.wl = if armed then [xW] else []
  ev : ∀ q, s.ev q = []
theorem may1 {o : OpV} (h : goodO o = 0) {num : Int} (hn : 1 ≤ num) : mayR 1 num [o] = 0 := by rw [good_one h, if_neg (by omega)]
theorem EvS.watch {last : Int} {a : Bool} {s : SoV} (h : EvS last a s) : EvS last true (watchO s xW).1 ∧ (a = false → (watchO s xW).2 = 0) := by
  have e : watchO s xW = ({ s with wl := armG 1000 s.wl xW }, armE 1000 s.wl xW) := by unfold watchO; rw [if_neg (by rw [show xW.sess = 2 from rfl, h.l2]; decide)]
  rw [e]
  refine ⟨⟨h.room, h.tr, h.l1, h.l2, h.zx, h.last, ?_, h.ev⟩, fun ha => ?_⟩
  · show armG 1000 s.wl xW = [xW]
    rw [h.wl]
    cases a <;> decide +kernel
  · show armE 1000 s.wl xW = 0
    rw [h.wl, ha]
    decide +kernel
/-- A Set: b hears of it, if it watches. -/
theorem EvS.set {last : Int} {a : Bool} {s : SoV} (h : EvS last a s) {num : Int} (hn : 1 ≤ num) (hl : last < num) :
    EvS num false (eventsO (askS s 1 num [oSw]).1 2).1 ∧ ((askS s 1 num [oSw]).1.ev 2).length = if a then 1 else 0 := by
  obtain ⟨r, hr, hrn⟩ := h.last
  have hz := h.zx
  have hd := oSw_do h.tr (s.zx + 1) (by omega)
  rw [askS_next (may1 oSw_good hn) h.l1 hr (by omega)]
  have hd2 : (doL s.room s.tr oSw 1 (s.zx + 1)).2.err = 0 := by rw [h.room]; exact hd.2.1
  rw [done_one (s := { s with ss := (touchS s.ss 1).1 }) (may1 oSw_good hn) hd2]
  have hev : ∀ (q : Int) (wl : List Wt), wl = s.wl → ((fireT (doL s.room s.tr oSw 1 (s.zx + 1)).2.path 3 wl).foldl (addEv (touchS s.ss 1).1) s.ev) q = if a = true ∧ q = 2 then [⟨2, sW, 3⟩] else [] := by
    rintro q _ rfl
    rw [h.room, hd.2.2, h.wl]
    cases a with
    | false => rw [show (if false = true then [xW] else []) = ([] : List Wt) from rfl, (fire_nil _ _).1]; simpa using h.ev q
    | true =>
      rw [show (if true = true then [xW] else []) = ([xW] : List Wt) from rfl, fire_one.1]
      show addEv _ _ _ q = _
      unfold addEv
      rw [if_pos (by rw [live_touch]; exact h.l2)]
      show (if q = 2 then s.ev q ++ [_] else s.ev q) = _
      rw [h.ev q]
      by_cases e : q = 2 <;> simp [e]
  have hwl : fireG (doL s.room s.tr oSw 1 (s.zx + 1)).2.path 3 s.wl = [] := by
    rw [h.room, hd.2.2, h.wl]
    cases a with
    | false => exact (fire_nil _ _).2
    | true => exact fire_one.2
  refine ⟨⟨h.room, ?_, ?_, ?_, ?_, ⟨⟨num, s.zx + 1, 0, -1, [(doL s.room s.tr oSw 1 (s.zx + 1)).2]⟩, ?_, rfl⟩, ?_, ?_⟩, ?_⟩
  · show OneW (doL s.room s.tr oSw 1 (s.zx + 1)).1
    rw [h.room]; exact hd.1
  · show liveS (touchS s.ss 1).1 1 = true
    rw [live_touch]; exact h.l1
  · show liveS (touchS s.ss 1).1 2 = true
    rw [live_touch]; exact h.l2
  · show 0 ≤ s.zx + 1
    omega
  · show mget (mset s.last 1 _) 1 = _
    rw [mget_mset, if_pos rfl]
  · exact hwl
  · intro q
    show (if q = 2 then [] else ((fireT (doL s.room s.tr oSw 1 (s.zx + 1)).2.path 3 s.wl).foldl (addEv (touchS s.ss 1).1) s.ev) q) = []
    rw [hev q _ rfl]
    by_cases e : q = 2 <;> simp [e]
  · show (((fireT (doL s.room s.tr oSw 1 (s.zx + 1)).2.path 3 s.wl).foldl (addEv (touchS s.ss 1).1) s.ev) 2).length = _
    rw [hev 2 _ rfl]
    cases a <;> rfl
end Go.Proofs.YtnkhmkcpdgmjmaaGreatDoor

/- Plain laws of a solo: a session that is over has no nodes. No program. -/
namespace Go.Proofs.YtnkhmkcpdgmjmaaGreatDoor
set_option maxRecDepth 100000
open Go.RowKit Av

theorem tell_back {P : Pt} {q p : ByteArray} {n : NodeV} (h : mget (tellP ndRem P q) p = some n) : ∃ n0, mget P p = some n0 ∧ n0.own = n.own := by
  unfold tellP at h
  split at h
  · exact ⟨n, h, rfl⟩
  · split at h
    · exact ⟨n, h, rfl⟩
    · rename_i up _ _ nu hu
      rw [mget_mset] at h
      by_cases e : p = ⟨up.toArray⟩
      · rw [if_pos e] at h
        cases h
        refine ⟨nu, by rw [e]; exact hu, ?_⟩
        unfold ndRem
        split <;> rfl
      · rw [if_neg e] at h
        exact ⟨n, h, rfl⟩
/-- What stands behind a Remove. -/
theorem remL_back {L : RL} (hr : Rising (keysR L)) (p : ByteArray) : Rising (keysR (remL L p)) ∧ ∀ q n, mget (remL L p) q = some n → q ≠ p ∧ ∃ n0, mget L q = some n0 ∧ n0.own = n.own := by
  have hs : SortedAs L L := ⟨hr, fun _ => rfl⟩
  have key : ∀ (M : RL) (P : Pt), SortedAs M P → mget P p = none → (∀ q n, mget P q = some n → mget L q = some n) → Rising (keysR (tellL ndRem M p)) ∧ ∀ q n, mget (tellL ndRem M p) q = some n → q ≠ p ∧ ∃ n0, mget L q = some n0 ∧ n0.own = n.own := fun M P hM hp hq => by
    have ht := tellL_sorted (f := ndRem) hM p
    refine ⟨ht.rise, fun q n h => ?_⟩
    rw [ht.get] at h
    obtain ⟨n0, h1, h2⟩ := tell_back h
    refine ⟨fun e => ?_, n0, hq _ _ h1, h2⟩
    rw [e, hp] at h1
    cases h1
  unfold remL
  cases hm : mget L p with
  | none => exact key L L hs hm (fun _ _ h => h)
  | some n0 =>
    refine key (delR L (atR L p)) (mdel L p) (hs.del hm) (by rw [mget_mdel, if_pos rfl]) (fun q n h => ?_)
    rw [mget_mdel] at h
    split at h
    · cases h
    · exact h
theorem rems_back : ∀ (l : List ByteArray) {L : RL}, Rising (keysR L) → Rising (keysR (l.foldl remL L)) ∧ ∀ q n, mget (l.foldl remL L) q = some n → q ∉ l ∧ ∃ n0, mget L q = some n0 ∧ n0.own = n.own
  | [], L, hr => ⟨hr, fun q n h => ⟨by simp, n, h, rfl⟩⟩
  | p :: l, L, hr => by
    obtain ⟨h1, h2⟩ := remL_back hr p
    obtain ⟨h3, h4⟩ := rems_back l h1
    refine ⟨h3, fun q n h => ?_⟩
    obtain ⟨h5, n1, h6, h7⟩ := h4 q n h
    obtain ⟨h8, n0, h9, h10⟩ := h2 q n1 h6
    exact ⟨by simp [h5, h8], n0, h9, h10.trans h7⟩
/-- Behind a Purge the session has no nodes. -/
theorem purge_none {L : RL} (hr : Rising (keysR L)) (id : Int) : ofBL (purgeL L id).1 id = [] ∧ Rising (keysR (purgeL L id).1) := by
  obtain ⟨h1, h2⟩ := rems_back (sortD (ofBL L id)) hr
  refine ⟨?_, h1⟩
  show ofBL ((sortD (ofBL L id)).foldl remL L) id = []
  generalize hM : (sortD (ofBL L id)).foldl remL L = M at h1 h2
  unfold ofBL
  rw [List.map_eq_nil_iff, List.filter_eq_nil_iff]
  intro e he hd
  simp only [decide_eq_true_eq] at hd
  obtain ⟨h3, n0, h4, h5⟩ := h2 e.1 e.2 (mget_of_mem (rise_nodup h1) he)
  refine h3 ((sortD_perm _).mem_iff.2 ?_)
  unfold ofBL
  exact List.mem_map.2 ⟨(e.1, n0), List.mem_filter.2 ⟨mget_mem h4, by simp only [decide_eq_true_eq]; exact ⟨hd.1, h5.trans hd.2⟩⟩, rfl⟩
/-! The tree grows by one node at most. -/
theorem doL_len (room : Int) (L : RL) (o : OpV) (sess z : Int) : (doL room L o sess z).1.length ≤ L.length + 1 := by
  have ht : ∀ (f : NodeV → Bs → NodeV) (M : RL) (p : ByteArray), (tellL f M p).length = M.length := fun f M p => by
    unfold tellL
    split
    · rfl
    · split
      · rfl
      · rw [List.length_set]
  unfold doL
  split
  · exact Nat.le_succ _
  · split
    · exact Nat.le_succ _
    · split
      · unfold createL
        simp only
        split
        · exact Nat.le_succ _
        · show (putR _ _ _).length ≤ _
          unfold putR
          rw [List.length_append, List.length_cons, List.length_take, List.length_drop, ht]
          omega
      · split
        · unfold changeL
          split
          · exact Nat.le_succ _
          · split
            · exact Nat.le_succ _
            · split
              · split
                · exact Nat.le_succ _
                · show (tellL _ _ _).length ≤ _
                  rw [ht]
                  unfold delR
                  rw [List.length_append, List.length_take, List.length_drop]
                  omega
              · split
                · show (L.set _ _).length ≤ _
                  rw [List.length_set]; omega
                · exact Nat.le_succ _
        · exact Nat.le_succ _
theorem request_len1 (room : Int) (L : RL) (sess num z : Int) (o : OpV) : (requestL room L sess num z [o]).1.length ≤ L.length + 1 := by
  have h1 : (runL room sess z L [o]).1 = (doL room L o sess z).1 := by unfold runL; split <;> rfl
  unfold requestL
  split
  · exact Nat.le_succ _
  · show (multiL room L sess z [o]).1.length ≤ _
    unfold multiL
    split
    · exact Nat.le_succ _
    · split
      · exact Nat.le_succ _
      · split
        · exact Nat.le_succ _
        · show (runL room sess z L [o]).1.length ≤ _
          rw [h1]
          exact doL_len _ _ _ _ _
theorem done_len1 (s : SoV) (sess num : Int) (o : OpV) : (doneS s sess num [o]).1.tr.length ≤ s.tr.length + 1 := by
  unfold doneS
  simp only
  rw [(changed_same _ [o] _).tr]
  exact request_len1 _ _ _ _ _ _
theorem ask_len1 (s : SoV) (sess num : Int) (o : OpV) : (askS s sess num [o]).1.tr.length ≤ s.tr.length + 1 := by
  unfold askS
  split
  · exact Nat.le_succ _
  · split
    · exact Nat.le_succ _
    · split
      · exact done_len1 _ sess num o
      · split
        · exact Nat.le_succ _
        · split
          · exact Nat.le_succ _
          · exact done_len1 _ sess num o
theorem ask_ss (s : SoV) (sess num : Int) (ops : List OpV) : (askS s sess num ops).1.ss = s.ss ∨ (askS s sess num ops).1.ss = (touchS s.ss sess).1 := by
  unfold askS
  split
  · exact .inl rfl
  · split
    · exact .inl rfl
    · split
      · right; rw [done_live]
      · split
        · exact .inr rfl
        · split
          · exact .inr rfl
          · right; rw [done_live]
/-! SoloGone: the state between its calls. -/
def oGa : OpV := ⟨5, ⟨#[47, 97]⟩, ⟨#[]⟩, 0, 0⟩
theorem oGa_good : goodO oGa = 0 := by decide +kernel
structure GoS (span : Int) (j : Nat) (s : SoV) : Prop where
  room : s.room = 100
  ss : s.ss = ⟨64, 0, 2, [⟨1, span, span⟩]⟩
  len : s.tr.length ≤ j
theorem go_open {span : Int} (h1 : 1 ≤ span) (h2 : span ≤ 50) : GoS span 0 (openO (soZ 100) span).1 ∧ (openO (soZ 100) span).2 = (1, 0) := by
  have h : openS (soZ 100).ss span = (⟨64, 0, 2, [⟨1, span, span⟩]⟩, 1, 0) := by
    unfold openS
    rw [if_neg (by omega), if_neg (by decide)]
    simp [soZ]
  unfold openO
  rw [h]
  exact ⟨⟨rfl, rfl, Nat.le_refl _⟩, rfl⟩
theorem go_touch (span : Int) : (touchS ⟨64, 0, 2, [⟨1, span, span⟩]⟩ 1).1 = ⟨64, 0, 2, [⟨1, span, span⟩]⟩ := by
  have hf : findS [⟨1, span, span⟩] 1 = some 0 := by simp [findS, isS]
  unfold touchS
  simp only [hf]
  simp [setTill]
theorem GoS.ask {span : Int} {j : Nat} {s : SoV} (h : GoS span j s) (num : Int) (o : OpV) : GoS span (j + 1) (askS s 1 num [o]).1 := by
  refine ⟨by rw [ask_room]; exact h.room, ?_, Nat.le_trans (ask_len1 s 1 num o) (Nat.succ_le_succ h.len)⟩
  rcases ask_ss s 1 num [o] with e | e
  · rw [e]; exact h.ss
  · rw [e, h.ss]; exact go_touch span
/-- The session is over. -/
structure OverS (s : SoV) : Prop where
  room : s.room = 100
  l : s.ss.l = []
  len : s.tr.length ≤ 20
  of : ofBL s.tr 1 = []
theorem over_end {s : SoV} (hr : Rising (keysR s.tr)) (h1 : s.room = 100) (h2 : s.ss.l = []) (h3 : s.tr.length ≤ 20) : OverS (endS s 1) := by
  obtain ⟨e1, e2, e3, _⟩ := end_tr s 1
  exact ⟨e2.trans h1, by rw [e3]; exact h2, Nat.le_trans (end_len _ _) h3, by rw [e1]; exact (purge_none hr 1).1⟩
theorem GoS.close {span : Int} {j : Nat} {s : SoV} (h : GoS span j s) (hj : j ≤ 20) (hr : Rising (keysR s.tr)) : OverS (closeO s 1).1 ∧ (closeO s 1).2 = 0 := by
  have hc : closeS s.ss 1 = (⟨64, 0, 2, []⟩, 0) := by
    rw [h.ss]
    have hf : findS [⟨1, span, span⟩] 1 = some 0 := by simp [findS, isS]
    unfold closeS
    simp only [hf]
    rfl
  unfold closeO
  rw [hc, if_neg (by simp)]
  exact ⟨over_end hr h.room rfl (Nat.le_trans h.len hj), rfl⟩
/-- Behind i ticks. -/
def goL (span : Int) (i : Nat) : List SeV := if (i : Int) < span then [⟨1, span, span⟩] else []
structure GoT (span : Int) (i : Nat) (s : SoV) : Prop where
  room : s.room = 100
  ss : s.ss = ⟨64, i, 2, goL span i⟩
  len : s.tr.length ≤ 20
  of : span ≤ i → ofBL s.tr 1 = []
theorem GoS.ticks {span : Int} {j : Nat} {s : SoV} (h : GoS span j s) (hj : j ≤ 20) (h1 : 1 ≤ span) : GoT span 0 s := by
  refine ⟨h.room, ?_, Nat.le_trans h.len hj, fun h2 => by omega⟩
  rw [h.ss]
  unfold goL
  rw [if_pos (by omega)]; rfl
theorem GoT.tick {span : Int} {i : Nat} {s : SoV} (h : GoT span i s) (hi : (i : Int) < span) (hr : Rising (keysR s.tr)) : GoT span (i + 1) (tickO s).1 ∧ (tickO s).2.length ≤ 1 := by
  have hl : goL span i = [⟨1, span, span⟩] := by unfold goL; rw [if_pos hi]
  by_cases hb : ((i : Int) + 1) < span
  · have ht : tickS s.ss = (⟨64, (i : Int) + 1, 2, [⟨1, span, span⟩]⟩, []) := by
      rw [h.ss, hl]
      have ho : overS ((i : Int) + 1) ⟨1, span, span⟩ = false := decide_eq_false (by show ¬ span ≤ _; omega)
      unfold tickS
      simp only [List.filter_cons, List.filter_nil, ho]
      rfl
    unfold tickO
    rw [ht]
    refine ⟨⟨h.room, ?_, h.len, fun h2 => by omega⟩, Nat.zero_le _⟩
    show (⟨64, (i : Int) + 1, 2, [⟨1, span, span⟩]⟩ : SsV) = _
    unfold goL
    rw [if_pos (by omega)]
    rfl
  · have ht : tickS s.ss = (⟨64, (i : Int) + 1, 2, []⟩, [1]) := by
      rw [h.ss, hl]
      have ho : overS ((i : Int) + 1) ⟨1, span, span⟩ = true := decide_eq_true (by show span ≤ _; omega)
      unfold tickS
      simp only [List.filter_cons, List.filter_nil, ho]
      rfl
    unfold tickO
    rw [ht]
    have hO := over_end (s := { s with ss := ⟨64, (i : Int) + 1, 2, []⟩ }) hr h.room rfl h.len
    obtain ⟨_, _, e3, _⟩ := end_tr { s with ss := ⟨64, (i : Int) + 1, 2, []⟩ } 1
    refine ⟨⟨hO.room, ?_, hO.len, fun _ => hO.of⟩, Nat.le_refl _⟩
    show (endS { s with ss := ⟨64, (i : Int) + 1, 2, []⟩ } 1).ss = _
    rw [e3]
    unfold goL
    rw [if_neg (by omega)]
    rfl
theorem GoT.over {span : Int} {i : Nat} {s : SoV} (h : GoT span i s) (hi : ¬ (i : Int) < span) : OverS s :=
  ⟨h.room, by rw [h.ss]; unfold goL; rw [if_neg hi], h.len, h.of (by omega)⟩
theorem OverS.dead {s : SoV} (h : OverS s) (id : Int) : findS s.ss.l id = none ∧ liveS s.ss id = false := by
  have : findS s.ss.l id = none := by rw [h.l]; rfl
  exact ⟨this, by unfold liveS; rw [this]; rfl⟩
theorem OverS.ask {s : SoV} (h : OverS s) : askS s 1 99 [oGa] = (s, failRp 99 11 (-1) 1) := by
  rw [askS_none (by rw [good_one oGa_good, if_neg (by omega)]) (h.dead 1).2]
  rfl
theorem OverS.watch {s : SoV} (h : OverS s) (x : Wt) : watchO s x = (s, 11) := by
  unfold watchO
  rw [if_pos (h.dead _).2]
theorem OverS.close {s : SoV} (h : OverS s) (id : Int) : closeO s id = (s, 11) := by
  have hc : closeS s.ss id = (s.ss, 11) := by
    unfold closeS
    rw [(h.dead id).1]
  unfold closeO
  rw [hc, if_pos (show (11 : Int) ≠ 0 by decide)]
end Go.Proofs.YtnkhmkcpdgmjmaaGreatDoor

/- Walks of package aviarylaw21: SoloGone. -/
namespace Go.Proofs.YtnkhmkcpdgmjmaaGreatDoor
set_option maxRecDepth 100000
open Go.RowKit Av

def GoRel (w : World) (g n : Nat) (span : Int) (s11 : Value) (wr : World) : Prop := ∃ (j : Nat) (s : SoV), j ≤ n ∧ s11 = .int .i64 j ∧ SoS w wr g (1 + j) s ∧ GoS span j s
def GtRel (w : World) (g : Nat) (span : Int) (s12 : Value) (wr : World) : Prop := ∃ (i N : Nat) (s : SoV), (i : Int) ≤ span ∧ s12 = .int .i64 i ∧ N ≤ 30 + 2 * i ∧ SoS w wr g N s ∧ GoT span i s
theorem SoS.rise {w0 w : World} {g N : Nat} {s : SoV} (h : SoS w0 w g N s) : Rising (keysR s.tr) := by
  obtain ⟨B, hr, _⟩ := h
  exact hr.tr.srt.rise
set_option maxHeartbeats 12800000 in
theorem soloGone_any (v0 : Value) (span : Int) (closed : Bool) (os : List OpV) (w : World) (hG : GT w) (h0 : OpsAt w v0 os) :
    Calls Tryz.prog 4 #[v0, .int .i64 span, .bool closed] w fun e w' => e = .returned (.bool true) ∧ Ext w w' := by
  have HG := Lib.hid hG
  have HAW := Lib.hid (awake21_any w hG)
  have HO1 := Lib.hid h0
  obtain ⟨a1, c1, rfl, _, hm1, hop1⟩ := OpsAt.open h0
  have HOP1 := Lib.hid hop1
  unfold maxLen at hm1
  clear h0 hop1 hG
  go_enter Tryz.func4, Tryz.ntmps4
  go_wp2_with (fail)
  refine HAW.out.mono ?_
  rintro e w1 ⟨rfl, hx1⟩
  have HX1 := Lib.hid hx1
  have HG := Lib.hid (HG.out.ext hx1)
  have HOO := Lib.hid (HO1.out.ext hx1)
  clear hx1
  go_wp2_with (fail)
  refine (long21_any _ os w1 HOO.out).mono ?_
  rintro e w2 ⟨r, rfl, hr, rfl⟩
  have HR := Lib.hid hr
  clear hr
  cases r with
  | true =>
    go_wp2_with (fail)
    go_ret
    exact ⟨rfl, HX1.out⟩
  | false =>
    have HSZ := Lib.hid (opsS_of (HR.out rfl))
    have ho20 := (HR.out rfl).1
    clear HR
    by_cases hs1 : span < 1
    · go_wp2_with (fail)
      go_ret
      exact ⟨rfl, HX1.out⟩
    by_cases hs2 : 50 < span
    · go_wp2_with (fail)
      go_ret
      exact ⟨rfl, HX1.out⟩
    obtain ⟨hgo, hopn⟩ := go_open (span := span) (by omega) (by omega)
    have HGO := Lib.hid hgo
    have HOPN := Lib.hid hopn
    clear hgo hopn
    go_wp2_with (fail)
    refine (soS_new 100 w1 (by decide) (by decide)).mono ?_
    rintro e w2 ⟨g, rfl, h3, hx2⟩
    have H1 := Lib.hid h3
    clear h3 hx2
    go_wp2_with (fail)
    refine (soS_open H1.out (by decide) span).mono ?_
    rintro e w3 ⟨rfl, h3, ho2⟩
    rw [HOPN.out]
    have H2 := Lib.hid h3
    clear h3 ho2 H1 HAW
    go_wp2_with (fail)
    go_loopw [11] (fun s11 wr => GoRel w1 g os.length span s11 wr) (fun s11 _ => os.length - (intOf s11).toNat)
    case atStart => exact ⟨0, _, Nat.zero_le _, rfl, H2.out, HGO.out⟩
    case round =>
      clear H2 HGO HOPN
      obtain ⟨j, s, hj, rfl, hs, hgs⟩ := hrel
      have HS := Lib.hid hs
      have HGS := Lib.hid hgs
      clear hs hgs
      by_cases hlt : j < os.length
      · obtain ⟨b1, off1, rfl, _, hc1⟩ := HOP1.out (by omega)
        obtain ⟨q0, q1, q2, q3, q4⟩ := hc1 j hlt
        have hxw := HX1.out.trans HS.out.ex
        have r0 := hxw.cell q0 (fun f => f)
        have r1 := hxw.cell q1 (fun f => f)
        have r2 := hxw.cell q2 (fun f => f)
        have r3 := hxw.cell q3 (fun f => f)
        have r4 := hxw.cell q4 (fun f => f)
        have hz : OpsS [os[j]] := fun o ho => HSZ.out o (by rw [List.mem_singleton.1 ho]; exact List.getElem_mem _)
        have HZ := Lib.hid hz
        clear hc1 q0 q1 q2 q3 q4 hxw hz
        generalize os[j] = o at *
        have hW1 : wrap64 ((j : Int) + 1) = j + 1 := by unfold wrap64; omega
        go_wp2_with (fail)
        obtain ⟨hxA, hoA, hsA⟩ := ops1 wr o _ rfl
        have HXA := Lib.hid hxA
        have HOA := Lib.hid hoA
        have HQSZ := Lib.hid hsA
        clear hxA hoA hsA
        refine (ask21_any 1 ((j : Int) + 1) _ 1 1 _).mono ?_
        rintro e w5 ⟨rfl, hx3⟩
        have HASK := Lib.hid (soS_ask HS.out (by omega) HG.out (HXA.out.trans hx3) (.slice (some ⟨(wr).heap.size, 0, none⟩) 1 1) [o] 1 ((j : Int) + 1) (HOA.out.ext hx3) HZ.out (fun i hi => by
          have e2 : (wr).heap.size = i := by simpa [Value.ownBlock] using hi
          have h1 := Nat.lt_of_lt_of_le HQSZ.out hx3.size
          omega))
        clear hx3 HXA HOA HQSZ
        go_wp2_with (fail)
        refine HASK.out.mono ?_
        rintro e w6 ⟨u, rfl, hu1, hs1, ho1⟩
        clear HASK
        have HS1 := Lib.hid hs1
        have HGS1 := Lib.hid (HGS.out.ask ((j : Int) + 1) o)
        clear hs1 ho1 hu1
        go_wp2_with (fail)
        go_light
        refine ⟨⟨j + 1, _, ?_, ?_, HS1.out, HGS1.out⟩, ?_⟩
        · omega
        · go_num
        · simp [intOf]; omega
      · cases closed with
        | true =>
          go_wp2_with (fail)
          have hcl := HGS.out.close (by omega) HS.out.rise
          refine (soS_close HS.out (by omega) HG.out 1 (by rw [HGS.out.room]; decide) (Nat.le_trans (ofBL_len _ _) (Nat.le_trans HGS.out.len (by omega)))).mono ?_
          rintro e w5 ⟨rfl, h4, _⟩
          rw [hcl.2]
          have HOV := Lib.hid hcl.1
          have HS5 := Lib.hid h4
          clear hcl h4 HGS HS
          generalize (closeO s 1).1 = s' at *
          go_wp2_with (fail)
          obtain ⟨hxA, hoA, hsA⟩ := ops1 w5 oGa _ rfl
          have HXA := Lib.hid hxA
          have HOA := Lib.hid hoA
          have HQSZ := Lib.hid hsA
          clear hxA hoA hsA
          refine (ask21_any 1 99 _ 1 1 _).mono ?_
          rintro e wA2 ⟨rfl, hx3⟩
          have HASK := Lib.hid (soS_ask HS5.out (by omega) HG.out (HXA.out.trans hx3) (.slice (some ⟨(w5).heap.size, 0, none⟩) 1 1) [oGa] 1 99 (HOA.out.ext hx3) (by intro x hx; rw [List.mem_singleton.1 hx]; decide) (fun i hi => by
            have e2 : (w5).heap.size = i := by simpa [Value.ownBlock] using hi
            have h1 := Nat.lt_of_lt_of_le HQSZ.out hx3.size
            omega))
          clear hx3 HXA HOA HQSZ
          go_wp2_with (fail)
          refine HASK.out.mono ?_
          rintro e wB2 ⟨u, rfl, hu1, hs1, ho1⟩
          clear HASK
          rw [(HOV).out.ask] at hu1 hs1 ⊢
          have HOA := Lib.hid ho1
          obtain ⟨rsl, hrsl, hxe⟩ := hu1
          obtain ⟨ua, uc, rfl⟩ := hrsl.slice
          have HU0 : Hid (RpAt wB2 0 (.slice ua rsl.length uc) (failRp 99 11 (-1) 1)) := ⟨rsl, hrsl, hxe⟩
          clear hrsl hxe
          generalize rsl.length = un at *
          unfold rplA
          obtain ⟨wC2, hWD⟩ : ∃ W, (wB2).alloc (.cells #[.int .i64 ((failRp 99 11 (-1) 1)).num, .int .i64 ((failRp 99 11 (-1) 1)).zxid, .int .i64 ((failRp 99 11 (-1) 1)).err, .int .i64 ((failRp 99 11 (-1) 1)).at_, .slice ua un uc] rplT) = W := ⟨_, rfl⟩
          have hxD : Ext wB2 wC2 := by rw [← hWD]; exact (Kp.refl _ _).alloc _
          have BA : Hid (Blk wC2 (wB2).heap.size #[.int .i64 ((failRp 99 11 (-1) 1)).num, .int .i64 ((failRp 99 11 (-1) 1)).zxid, .int .i64 ((failRp 99 11 (-1) 1)).err, .int .i64 ((failRp 99 11 (-1) 1)).at_, .slice ua un uc] rplT) := by
            show Blk _ _ _ _
            rw [← hWD]; exact heap_alloc_new wB2 _
          have HUA := Lib.hid (HU0.out.ext hxD)
          have HS9 := Lib.hid ((hs1).ext hxD)
          have HXD := Lib.hid hxD
          have HWD := Lib.hid hWD
          clear ho1 hs1 HU0 hxD hWD
          have hba := BA.out
          have a0 := hba.cell 0 _ rfl
          have a1 := hba.cell 1 _ rfl
          have a2 := hba.cell 2 _ rfl
          have a3 := hba.cell 3 _ rfl
          have a4 := hba.cell 4 _ rfl
          clear hba
          go_upto_region 19 with (fail)
          rw [HWD.out]
          go_wp2_with (fail)
          refine (soS_tree HS9.out (by omega)).mono ?_
          rintro e wT ⟨tb, tm, tc, rfl, ht, hxt⟩
          have hOF := tsOf ht.ts ht.good.snd (by rw [(HOV).out.room]; decide) 1
          have hln : (ofS (pl tc) (pathsP (pl tc)) 1).length = 0 := by
            have h1 := ofBL_of ht.srt ht.ts.pk.1 1
            rw [(HOV).out.of] at h1
            have h2 := congrArg List.length h1
            rw [List.length_map] at h2
            exact h2.symm
          rw [List.length_eq_zero_iff.1 hln] at hOF
          have HOF := Lib.hid hOF
          have HXT := Lib.hid hxt
          clear ht hxt hOF hln
          go_wp2_with (fail)
          refine HOF.out.mono ?_
          rintro e wO ⟨v, rfl, hv, hxo⟩
          rw [List.length_nil] at hv
          obtain ⟨va, vc, rfl⟩ := owns_slice hv
          have HSO := Lib.hid (HS9.out.ext (HXT.out.trans hxo))
          have a2' := (HXT.out.trans hxo).cell a2 (fun f => f)
          clear hv hxo HOF HXT a0 a1 a2 a3 a4
          go_wp2_with (fail)
          refine (soS_watch HSO.out (by omega) (HG.out.ext HSO.out.ex).gl ⟨1, ⟨#[47, 97]⟩, 1⟩ (by decide)).mono ?_
          rintro e wW ⟨rfl, h4, _⟩
          rw [(HOV).out.watch] at h4 ⊢
          have HSW := Lib.hid h4
          clear h4
          go_wp2_with (fail)
          refine (soS_close HSW.out (by omega) HG.out 1 (by rw [(HOV).out.room]; decide) (by rw [(HOV).out.of]; decide)).mono ?_
          rintro e wX ⟨rfl, h4, _⟩
          rw [(HOV).out.close] at h4 ⊢
          have HSX := Lib.hid h4
          clear h4
          go_wp2_with (fail)
          go_ret
          exact ⟨rfl, HX1.out.trans HSX.out.ex⟩
        | false =>
          have hgt := HGS.out.ticks (by omega) (by omega)
          have HGT := Lib.hid hgt
          clear hgt HGS
          go_wp2_with (fail)
          go_loopw [12] (fun s12 wr => GtRel w1 g span s12 wr) (fun s12 _ => (span - intOf s12).toNat)
          case atStart => exact ⟨0, _, s, by omega, rfl, by omega, HS.out, HGT.out⟩
          case round =>
            clear HS HGT
            obtain ⟨i, N, s, hi, rfl, hN, hs, hgt⟩ := hrel
            have HS := Lib.hid hs
            have HGT := Lib.hid hgt
            clear hs hgt
            by_cases hlt2 : (i : Int) < span
            · have hst := HGT.out.tick hlt2 HS.out.rise
              have hW2 : wrap64 ((i : Int) + 1) = i + 1 := by unfold wrap64; omega
              go_wp2_with (fail)
              refine (soS_tick HS.out (by omega) HG.out (by rw [HGT.out.room]; decide) HGT.out.len).mono ?_
              rintro e w5 ⟨v, rfl, _, h4, _⟩
              have HS5 := Lib.hid h4
              have HGT5 := Lib.hid hst.1
              have htl := hst.2
              clear hst h4
              go_wp2_with (fail)
              go_light
              refine ⟨⟨i + 1, _, _, ?_, ?_, ?_, HS5.out, HGT5.out⟩, ?_⟩
              · omega
              · go_num
              · omega
              · simp [intOf]; omega
            · have HOV := Lib.hid (HGT.out.over hlt2)
              clear HGT
              go_wp2_with (fail)
              obtain ⟨hxA, hoA, hsA⟩ := ops1 wr oGa _ rfl
              have HXA := Lib.hid hxA
              have HOA := Lib.hid hoA
              have HQSZ := Lib.hid hsA
              clear hxA hoA hsA
              refine (ask21_any 1 99 _ 1 1 _).mono ?_
              rintro e wA2 ⟨rfl, hx3⟩
              have HASK := Lib.hid (soS_ask HS.out (by omega) HG.out (HXA.out.trans hx3) (.slice (some ⟨(wr).heap.size, 0, none⟩) 1 1) [oGa] 1 99 (HOA.out.ext hx3) (by intro x hx; rw [List.mem_singleton.1 hx]; decide) (fun i hi => by
                have e2 : (wr).heap.size = i := by simpa [Value.ownBlock] using hi
                have h1 := Nat.lt_of_lt_of_le HQSZ.out hx3.size
                omega))
              clear hx3 HXA HOA HQSZ
              go_wp2_with (fail)
              refine HASK.out.mono ?_
              rintro e wB2 ⟨u, rfl, hu1, hs1, ho1⟩
              clear HASK
              rw [(HOV).out.ask] at hu1 hs1 ⊢
              have HOA := Lib.hid ho1
              obtain ⟨rsl, hrsl, hxe⟩ := hu1
              obtain ⟨ua, uc, rfl⟩ := hrsl.slice
              have HU0 : Hid (RpAt wB2 0 (.slice ua rsl.length uc) (failRp 99 11 (-1) 1)) := ⟨rsl, hrsl, hxe⟩
              clear hrsl hxe
              generalize rsl.length = un at *
              unfold rplA
              obtain ⟨wC2, hWD⟩ : ∃ W, (wB2).alloc (.cells #[.int .i64 ((failRp 99 11 (-1) 1)).num, .int .i64 ((failRp 99 11 (-1) 1)).zxid, .int .i64 ((failRp 99 11 (-1) 1)).err, .int .i64 ((failRp 99 11 (-1) 1)).at_, .slice ua un uc] rplT) = W := ⟨_, rfl⟩
              have hxD : Ext wB2 wC2 := by rw [← hWD]; exact (Kp.refl _ _).alloc _
              have BA : Hid (Blk wC2 (wB2).heap.size #[.int .i64 ((failRp 99 11 (-1) 1)).num, .int .i64 ((failRp 99 11 (-1) 1)).zxid, .int .i64 ((failRp 99 11 (-1) 1)).err, .int .i64 ((failRp 99 11 (-1) 1)).at_, .slice ua un uc] rplT) := by
                show Blk _ _ _ _
                rw [← hWD]; exact heap_alloc_new wB2 _
              have HUA := Lib.hid (HU0.out.ext hxD)
              have HS9 := Lib.hid ((hs1).ext hxD)
              have HXD := Lib.hid hxD
              have HWD := Lib.hid hWD
              clear ho1 hs1 HU0 hxD hWD
              have hba := BA.out
              have a0 := hba.cell 0 _ rfl
              have a1 := hba.cell 1 _ rfl
              have a2 := hba.cell 2 _ rfl
              have a3 := hba.cell 3 _ rfl
              have a4 := hba.cell 4 _ rfl
              clear hba
              go_upto_region 19 with (fail)
              rw [HWD.out]
              go_wp2_with (fail)
              refine (soS_tree HS9.out (by omega)).mono ?_
              rintro e wT ⟨tb, tm, tc, rfl, ht, hxt⟩
              have hOF := tsOf ht.ts ht.good.snd (by rw [(HOV).out.room]; decide) 1
              have hln : (ofS (pl tc) (pathsP (pl tc)) 1).length = 0 := by
                have h1 := ofBL_of ht.srt ht.ts.pk.1 1
                rw [(HOV).out.of] at h1
                have h2 := congrArg List.length h1
                rw [List.length_map] at h2
                exact h2.symm
              rw [List.length_eq_zero_iff.1 hln] at hOF
              have HOF := Lib.hid hOF
              have HXT := Lib.hid hxt
              clear ht hxt hOF hln
              go_wp2_with (fail)
              refine HOF.out.mono ?_
              rintro e wO ⟨v, rfl, hv, hxo⟩
              rw [List.length_nil] at hv
              obtain ⟨va, vc, rfl⟩ := owns_slice hv
              have HSO := Lib.hid (HS9.out.ext (HXT.out.trans hxo))
              have a2' := (HXT.out.trans hxo).cell a2 (fun f => f)
              clear hv hxo HOF HXT a0 a1 a2 a3 a4
              go_wp2_with (fail)
              refine (soS_watch HSO.out (by omega) (HG.out.ext HSO.out.ex).gl ⟨1, ⟨#[47, 97]⟩, 1⟩ (by decide)).mono ?_
              rintro e wW ⟨rfl, h4, _⟩
              rw [(HOV).out.watch] at h4 ⊢
              have HSW := Lib.hid h4
              clear h4
              go_wp2_with (fail)
              refine (soS_close HSW.out (by omega) HG.out 1 (by rw [(HOV).out.room]; decide) (by rw [(HOV).out.of]; decide)).mono ?_
              rintro e wX ⟨rfl, h4, _⟩
              rw [(HOV).out.close] at h4 ⊢
              have HSX := Lib.hid h4
              clear h4
              go_wp2_with (fail)
              go_ret
              exact ⟨rfl, HX1.out.trans HSX.out.ex⟩
end Go.Proofs.YtnkhmkcpdgmjmaaGreatDoor
