/- Texts put together: AvSesD, AvSesE, AvRoom, AvSesF. -/
import Derived.Test.YtnlefnhdhigecaaGreatDoorAvG18
import Derived.Test.YtnlefnhdhigecaaGreatDoorAvG2
import Derived.Shelf.AbstractIn
import Derived.Test.YtnlefnhdhigecaaGreatDoorAvG21
import Derived.Test.YtnlefnhdhigecaaGreatDoorAvHDagX
import Derived.Deep.RegionHeld3
import Derived.Deep.AppendLies

/- Walks: slices.IndexFunc, slices.DeleteFunc at sessions, with a closure that has a memory of its own. -/
namespace Go.Proofs.YtnlefnhdhigecaaGreatDoor
set_option maxRecDepth 100000
open Go.RowKit Av

/-- What a closure that is asked of one watch after the other does: Inv: what stands behind so many; cur: the block of its own that it may write besides S0; rb: the row's block. -/
structure AskedS (g : Nat) (lb : Array Value) (p : SeV → Bool) (S0 : Nat → Prop) (base rb : Nat) (Inv : List SeV → Option Nat → World → Prop) : Prop where
  eg : ∀ args w, (callFunc g args).run Tryz.prog w = .ok (.enter g args) w
  call : ∀ seen cur x W, seen.length < 100000 → Inv seen cur W → Calls Tryz.prog g (#[.agg (scell x).toArray] ++ lb) W fun e w' => e = .returned (.bool (p x)) ∧ ∃ cur', Inv (seen ++ [x]) cur' w' ∧ Kp (fun i => S0 i ∨ cur = some i) W w'
  kp : ∀ seen cur W W', Inv seen cur W → Kp (fun i => i = rb) W W' → Inv seen cur W'
  cur : ∀ seen cur W i, Inv seen cur W → cur = some i → base ≤ i ∧ i < W.heap.size ∧ i ≠ rb
  s0 : ∀ i, S0 i → i ≠ rb ∧ i < base
/-- Where the search ends. -/
def FoundS (p : SeV → Bool) (Inv : List SeV → Option Nat → World → Prop) (xs : List SeV) (e : Ending) (w' : World) : Prop :=
  (e = .returned (.int .i64 (-1)) ∧ (∀ x ∈ xs, p x = false) ∧ ∃ cur, Inv xs cur w') ∨ ∃ k : Nat, ∃ hk : k < xs.length, e = .returned (.int .i64 k) ∧ (∀ x ∈ xs.take k, p x = false) ∧ p xs[k] = true ∧ ∃ cur, Inv (xs.take (k + 1)) cur w'
def IFRelS (p : SeV → Bool) (S0 : Nat → Prop) (base : Nat) (Inv : List SeV → Option Nat → World → Prop) (xs : List SeV) (w : World) (i : Value) (wr : World) : Prop :=
  ∃ k : Nat, k ≤ xs.length ∧ i = .int .i64 k ∧ (∀ x ∈ xs.take k, p x = false) ∧ (∃ cur, Inv (xs.take k) cur wr) ∧ Kp (fun i => S0 i ∨ base ≤ i) w wr
set_option maxHeartbeats 1600000 in
theorem indexFuncS_any {g : Nat} {lb : Array Value} {p : SeV → Bool} {S0 : Nat → Prop} {base rb : Nat} {Inv : List SeV → Option Nat → World → Prop} (hA : AskedS g lb p S0 base rb Inv) (ad : Option Addr) (xs : List SeV) (cap : Nat) (w : World)
    (had : xs ≠ [] → ad = some ⟨rb, 0, none⟩ ∧ rb < base ∧ RowB w rb 206 3 cap (xs.flatMap scell)) (hm : xs.length ≤ 100000) (h0 : ∃ cur, Inv [] cur w) :
    Calls Tryz.prog 168 #[.slice ad xs.length cap, .func (.func g) #[] lb] w fun e w' => FoundS p Inv xs e w' ∧ Kp (fun i => S0 i ∨ base ≤ i) w w' := by
  have eg := hA.eg
  have HAD := Lib.hid had
  have H0 := Lib.hid h0
  have HA := Lib.hid hA
  clear had h0 hA
  go_enter Tryz.func168, Tryz.ntmps168
  go_wp2_with (fail)
  go_loopw [8] (fun i wr => IFRelS p S0 base Inv xs w i wr) (fun i _ => xs.length - (intOf i).toNat)
  case atStart => exact ⟨0, Nat.zero_le _, rfl, by simp, by simpa using H0.out, Kp.refl _ _⟩
  case round =>
    obtain ⟨k, hk, rfl, hall, ⟨cur, hinv⟩, hkp⟩ := hrel
    have HALL := Lib.hid hall
    have HK := Lib.hid hkp
    have HI := Lib.hid hinv
    clear hall hkp hinv
    by_cases hlt : k < xs.length
    · have hne : xs ≠ [] := by rintro rfl; simp at hlt
      obtain ⟨rfl, hrb, hrow⟩ := HAD.out hne
      have hrow2 : RowB wr rb 206 3 cap (xs.flatMap scell) := hrow.kp HK.out (fun f => Or.elim f (fun h => (HA.out.s0 rb h).1 rfl) (fun h => by omega))
      have c0 := hrow2.cell (i := k * 3) (v := .int .i64 xs[k].id) (rowK_cell scell 3 (fun _ => rfl) xs k hlt 0 (by decide))
      have c1 := hrow2.cell (i := k * 3 + 1) (v := .int .i64 xs[k].span) (rowK_cell scell 3 (fun _ => rfl) xs k hlt 1 (by decide))
      have c2 := hrow2.cell (i := k * 3 + 2) (v := .int .i64 xs[k].till) (rowK_cell scell 3 (fun _ => rfl) xs k hlt 2 (by decide))
      have HC := Lib.hid (HA.out.call (xs.take k) cur xs[k] wr (by rw [List.length_take]; omega) HI.out)
      have HCUR := Lib.hid (HA.out.cur (xs.take k) cur wr)
      have hcon : Calls Tryz.prog g (#[.agg #[.int .i64 xs[k].id, .int .i64 xs[k].span, .int .i64 xs[k].till]] ++ lb) wr fun e w' => e = .returned (.bool (p xs[k])) ∧ ∃ cur', Inv (xs.take (k + 1)) cur' w' ∧ Kp (fun i => S0 i ∨ base ≤ i) w w' := by
        refine HC.out.mono ?_
        rintro e w' ⟨rfl, cur', h1, h2⟩
        refine ⟨rfl, cur', by rw [List.take_succ_eq_append_getElem hlt]; exact h1, HK.out.next h2 ?_⟩
        rintro i hi (h | h)
        · exact .inl h
        · exact .inr (HCUR.out i HI.out h).1
      have HCON := Lib.hid hcon
      clear hcon hrow hrow2 hrb HC HCUR
      cases hp : p xs[k] with
      | true =>
        have HP := Lib.hid hp
        rw [hp] at HCON
        clear hp
        go_wp2_with (go_at_fn g; refine HCON.out.mono ?_; rintro e w1 ⟨rfl, cur', h1, h2⟩; have H1 := Lib.hid h1; have H2 := Lib.hid h2; clear h1 h2)
        go_ret
        go_light
        exact ⟨.inr ⟨k, hlt, rfl, HALL.out, HP.out, cur', H1.out⟩, H2.out⟩
      | false =>
        have HP := Lib.hid hp
        rw [hp] at HCON
        clear hp
        go_wp2_with (go_at_fn g; refine HCON.out.mono ?_; rintro e w1 ⟨rfl, cur', h1, h2⟩; have H1 := Lib.hid h1; have H2 := Lib.hid h2; clear h1 h2)
        go_light
        refine ⟨⟨k + 1, by omega, by go_num, fun x hx => ?_, ⟨cur', H1.out⟩, H2.out⟩, by simp [intOf]; omega⟩
        rw [List.take_succ_eq_append_getElem hlt] at hx
        rcases List.mem_append.1 hx with hx | hx
        · exact HALL.out x hx
        · simp only [List.mem_singleton] at hx; subst hx; exact HP.out
    · have e1 : xs.take k = xs := List.take_of_length_le (by omega)
      rw [e1] at HALL HI
      clear e1 HAD
      go_wp2_with (fail)
      go_ret
      go_light
      exact ⟨.inl ⟨rfl, HALL.out, cur, HI.out⟩, HK.out⟩
end Go.Proofs.YtnlefnhdhigecaaGreatDoor

/- Walks: slices.DeleteFunc at sessions. -/
namespace Go.Proofs.YtnlefnhdhigecaaGreatDoor
set_option maxRecDepth 100000
open Go.RowKit Av

theorem keptS_snoc {p : SeV → Bool} {xs : List SeV} {j : Nat} (hj : j < xs.length) : (xs.take (j + 1)).filter (fun x => !p x) = (xs.take j).filter (fun x => !p x) ++ (if p xs[j] then [] else [xs[j]]) := by
  rw [List.take_succ_eq_append_getElem hj, List.filter_append]
  cases h : p xs[j] <;> simp [h]
structure DelStS (p : SeV → Bool) (xs dk : List SeV) (i j : Nat) : Prop where
  hj : j ≤ xs.length
  hi : i = ((xs.take j).filter (fun x => !p x)).length
  lt : i < j
  len : dk.length = xs.length
  low : dk.take i = (xs.take j).filter (fun x => !p x)
  high : dk.drop j = xs.drop j
theorem DelStS.at {p : SeV → Bool} {xs dk : List SeV} {i j : Nat} (h : DelStS p xs dk i j) (hlt : j < xs.length) : dk[j]'(by rw [h.len]; exact hlt) = xs[j] := by
  have h1 := h.high
  rw [List.drop_eq_getElem_cons (by rw [h.len]; exact hlt), List.drop_eq_getElem_cons hlt] at h1
  exact (List.cons.inj h1).1
theorem DelStS.skip {p : SeV → Bool} {xs dk : List SeV} {i j : Nat} (h : DelStS p xs dk i j) (hlt : j < xs.length) (hp : p xs[j] = true) : DelStS p xs dk i (j + 1) := by
  have hk : (xs.take (j + 1)).filter (fun x => !p x) = (xs.take j).filter (fun x => !p x) := by rw [keptS_snoc hlt, hp, if_pos rfl, List.append_nil]
  refine ⟨hlt, by rw [hk]; exact h.hi, by have := h.lt; omega, h.len, by rw [hk]; exact h.low, ?_⟩
  have := congrArg (List.drop 1) h.high
  simpa [List.drop_drop] using this
theorem DelStS.keep {p : SeV → Bool} {xs dk : List SeV} {i j : Nat} (h : DelStS p xs dk i j) (hlt : j < xs.length) (hp : p xs[j] = false) : DelStS p xs (dk.set i xs[j]) (i + 1) (j + 1) := by
  have hk : (xs.take (j + 1)).filter (fun x => !p x) = (xs.take j).filter (fun x => !p x) ++ [xs[j]] := by rw [keptS_snoc hlt, hp]; rfl
  have hlt2 := h.lt
  have hlen := h.len
  refine ⟨hlt, by rw [hk, List.length_append, ← h.hi]; rfl, by omega, by rw [List.length_set]; exact h.len, ?_, ?_⟩
  · rw [hk, ← h.low, List.take_set, List.take_succ_eq_append_getElem (by omega : i < dk.length), List.set_append_right _ _ (by rw [List.length_take]; omega)]
    congr 1
    rw [List.length_take, Nat.min_eq_left (by omega), Nat.sub_self]; rfl
  · have h2 : (dk.set i xs[j]).drop (j + 1) = dk.drop (j + 1) := by rw [List.drop_set_of_lt (by omega)]
    rw [h2]
    have := congrArg (List.drop 1) h.high
    simpa [List.drop_drop] using this
end Go.Proofs.YtnlefnhdhigecaaGreatDoor

/- An append into a row's own spare places, told cell by cell. No program. -/
namespace Av
set_option maxRecDepth 100000
open Go Go.RowKit
theorem set_same1 {l : List Value} {i : Nat} {v : Value} (h : l[i]? = some v) : l.set i v = l := by
  obtain ⟨hi, rfl⟩ := List.getElem?_eq_some_iff.1 h
  exact List.set_getElem_self hi
end Av

/- Walks: sessions: New, find, Live, Touch, Open. -/
namespace Go.Proofs.YtnlefnhdhigecaaGreatDoor
set_option maxRecDepth 100000
open Go.RowKit Av

abbrev ssT : TypeId := 201
abbrev seT : TypeId := 206
abbrev sesT : TypeId := 199
theorem se_facts : ElemOk Tryz.prog sesT seT 3 := ⟨by kernel_rfl, by kernel_rfl⟩
/-- Sessions at block b, the row in block ro. -/
def SesR (w : World) (b : Nat) (ro : Option Nat) (s : SsV) : Prop :=
  ∃ v, Blk w b #[.int .i64 s.room, .int .i64 s.now, .int .i64 s.next, v] ssT ∧ w.ownsRow 0 seT 3 v s.l.length (s.l.flatMap scell) ∧ v.ownBlock = ro ∧ ∀ i, ro = some i → i ≠ b
theorem SesR.kp {S : Nat → Prop} {w w' : World} {b : Nat} {ro : Option Nat} {s : SsV} (h : SesR w b ro s) (k : Kp S w w') (hb : ¬ S b) (hr : ∀ i, ro = some i → ¬ S i) : SesR w' b ro s := by
  obtain ⟨v, h1, h2, h3, h4⟩ := h
  exact ⟨v, h1.kp k hb, ownsRow.kp h2 k (fun i hi => hr i (by rw [← h3, hi])), h3, h4⟩
theorem SesR.ext {w w' : World} {b : Nat} {ro : Option Nat} {s : SsV} (h : SesR w b ro s) (k : Ext w w') : SesR w' b ro s := h.kp k (fun f => f) (fun _ _ f => f)
theorem SesR.lt {w : World} {b : Nat} {ro : Option Nat} {s : SsV} (h : SesR w b ro s) : b < w.heap.size ∧ ∀ i, ro = some i → i < w.heap.size := by
  obtain ⟨v, h1, h2, h3, h4⟩ := h
  refine ⟨h1.lt, fun i hi => ?_⟩
  subst h3
  obtain ⟨_, ⟨rfl, _⟩ | ⟨g, cap, cur, rfl, _, hg, _⟩⟩ := h2
  · simp [Value.ownBlock] at hi
  · simp only [Value.ownBlock, Option.some.injEq] at hi
    subst hi
    exact (Array.getElem?_eq_some_iff.1 hg).1
theorem SesR.open {w : World} {b : Nat} {ro : Option Nat} {s : SsV} (h : SesR w b ro s) : ∃ a c, Blk w b #[.int .i64 s.room, .int .i64 s.now, .int .i64 s.next, .slice a s.l.length c] ssT ∧ w.ownsRow 0 seT 3 (.slice a s.l.length c) s.l.length (s.l.flatMap scell) ∧ (Value.slice a s.l.length c).ownBlock = ro ∧ (∀ i, ro = some i → i ≠ b) ∧ (∀ x, a = some x → ro = some x.block) := by
  obtain ⟨v, h1, h2, h3, h4⟩ := h
  obtain ⟨a, c, rfl, _⟩ := Sl.open (Sl.of_owns h2)
  refine ⟨a, c, h1, h2, h3, h4, fun x hx => ?_⟩
  subst hx
  rw [← h3]; rfl
theorem SesR.mk {w : World} {b : Nat} {ro : Option Nat} {s : SsV} {v : Value} (h1 : Blk w b #[.int .i64 s.room, .int .i64 s.now, .int .i64 s.next, v] ssT) (h2 : w.ownsRow 0 seT 3 v s.l.length (s.l.flatMap scell)) (h3 : v.ownBlock = ro) (h4 : ∀ i, ro = some i → i ≠ b) : SesR w b ro s := ⟨v, h1, h2, h3, h4⟩
set_option maxHeartbeats 800000 in
theorem sesNew_any (w : World) : Calls Tryz.prog 76 #[.int .i64 64] w fun e w' => e = .returned (.tuple #[.pointer (some ⟨w.heap.size, 0, none⟩), .int .i64 0]) ∧ SesR w' w.heap.size none ⟨64, 0, 1, []⟩ ∧ Ext w w' := by
  go_enter Tryz.func76, Tryz.ntmps76
  go_wp2_with (fail)
  go_ret2
  refine ⟨by simp, SesR.mk (v := .slice none 0 0) (heap_alloc_new w _) ⟨rfl, .inl ⟨rfl, rfl⟩⟩ rfl (by simp), (Kp.refl _ _).alloc _⟩
/-- The closure of find. -/
def FiInv (sb : Nat) (s : Int) (rb : Nat) (base : Nat) (_seen : List SeV) (cur : Option Nat) (W : World) : Prop := cur = none ∧ W.cell? ⟨sb, 0, none⟩ = some (.int .i64 s) ∧ sb ≠ rb ∧ base ≤ W.heap.size
set_option maxHeartbeats 800000 in
theorem findAsk (sb : Nat) (s : Int) (rb base : Nat) : AskedS 169 #[.pointer (some ⟨sb, 0, none⟩)] (isS s) (fun _ => False) base rb (FiInv sb s rb base) := by
  refine ⟨enters_of Tryz.func169 (by kernel_rfl) rfl, ?_, ?_, ?_, ?_⟩
  · intro seen cur x W _ hI
    obtain ⟨rfl, hc, hne, hbs⟩ := hI
    obtain ⟨xi, xp, xt⟩ := x
    have hlt := World.block_lt_of_cell? W _ hc
    have HH := Lib.hid (show ∀ W', Ext W W' → FiInv sb s rb base (seen ++ [⟨xi, xp, xt⟩]) none W' from fun W' hx => ⟨rfl, hx.cell hc (fun f => f), hne, Nat.le_trans hbs hx.size⟩)
    have hcX : ∀ o : Obj, (W.alloc o).cell? ⟨sb, 0, none⟩ = some (.int .i64 s) := fun o => Lib.cell?_alloc_some o hc
    clear hbs hne
    go_enter Tryz.func169, Tryz.ntmps169
    go_wp2_with (fail)
    go_ret
    go_light
    refine ⟨ret_bool ?_, ⟨none, HH.out _ ((Kp.refl _ _).alloc _)⟩, (Kp.refl _ _).alloc _⟩
    first | rfl | (unfold isS; rw [Bool.eq_iff_iff]; simp)
  · intro seen cur W W' hI hk
    obtain ⟨rfl, hc, hne, hbs⟩ := hI
    exact ⟨rfl, hk.cell hc hne, hne, Nat.le_trans hbs hk.size⟩
  · intro seen cur W i hI he
    rw [hI.1] at he; cases he
  · intro i f; exact f.elim
def idxF (l : List SeV) (id : Int) : Int := match findS l id with
  | none => -1
  | some k => k
set_option maxHeartbeats 1600000 in
theorem sesFind_any (b : Nat) (ro : Option Nat) (s : SsV) (id : Int) (w : World) (h : SesR w b ro s) (hn : s.l.length ≤ 100000) :
    Calls Tryz.prog 130 #[.pointer (some ⟨b, 0, none⟩), .int .i64 id] w fun e w' => e = .returned (.int .i64 (idxF s.l id)) ∧ Ext w w' := by
  obtain ⟨hlt, hrl⟩ := h.lt
  obtain ⟨a, c, hb, hown, hro, hrb, had⟩ := h.open
  obtain ⟨W, hW⟩ : ∃ W, w.alloc (.cells #[.int .i64 id] 2) = W := ⟨_, rfl⟩
  have hx : Ext w W := by rw [← hW]; exact (Kp.refl _ _).alloc _
  have hs : Blk W w.heap.size #[.int .i64 id] 2 := by rw [← hW]; exact heap_alloc_new w _
  have hsz : W.heap.size = w.heap.size + 1 := by rw [← hW]; simp
  have c1 := (hb.kp hx (fun f => f)).cell 3 _ rfl
  have hcon : Calls Tryz.prog 168 #[.slice a s.l.length c, .func (.func 169) #[] #[.pointer (some ⟨w.heap.size, 0, none⟩)]] W fun e w' => e = .returned (.int .i64 (idxF s.l id)) ∧ Ext w w' := by
    have hne : w.heap.size ≠ ro.getD W.heap.size := by
      cases hr : ro with
      | none => simp; omega
      | some r => have := hrl r hr; simp; omega
    refine (indexFuncS_any (findAsk w.heap.size id (ro.getD W.heap.size) W.heap.size) a s.l c W (fun hn => ?_) hn ⟨none, rfl, hs.cell 0 _ rfl, hne, Nat.le_refl _⟩).mono ?_
    · have hown2 := ownsRow.ext hown hx
      cases ha : a with
      | none =>
        rw [ha] at hown2
        obtain ⟨_, h2 | ⟨g, c, cur, hv, _⟩⟩ := hown2
        · exact absurd (List.eq_nil_of_length_eq_zero h2.2) hn
        · simp at hv
      | some x =>
        rw [ha] at hown2
        obtain ⟨r, rfl, h1, _⟩ := RowB.of_owns hown2
        have h2 := had _ ha
        have h3 := hrl _ h2
        simp only at h2 h3
        rw [h2]
        exact ⟨rfl, by simp; omega, h1⟩
    · rintro e w' ⟨hf, hk⟩
      have hx' : Ext w w' := hx.trans (hk.mono (fun i hi e => by
        rcases e with e | e
        · exact e
        · omega))
      rcases hf with ⟨rfl, hall, _⟩ | ⟨k, hk, rfl, hall, hp, _⟩
      · exact ⟨by unfold idxF; rw [findS_none hall], hx'⟩
      · exact ⟨by unfold idxF; rw [findS_at hk hall hp], hx'⟩
  have HCON := Lib.hid hcon
  clear h hb hown hcon hx hs hrb hrl hlt hsz hro had
  go_enter Tryz.func130, Tryz.ntmps130
  go_wp2_with (fail)
  refine HCON.out.mono ?_
  rintro e w1 ⟨rfl, hx1⟩
  have HX1 := Lib.hid hx1
  clear hx1
  go_wp2_with (fail)
  go_ret
  exact ⟨rfl, HX1.out⟩
set_option maxHeartbeats 800000 in
theorem sesLive_any (b : Nat) (ro : Option Nat) (s : SsV) (id : Int) (w : World) (h : SesR w b ro s) (hn : s.l.length ≤ 100000) :
    Calls Tryz.prog 85 #[.pointer (some ⟨b, 0, none⟩), .int .i64 id] w fun e w' => e = .returned (.bool (liveS s id)) ∧ Ext w w' := by
  have HF := Lib.hid (sesFind_any b ro s id w h hn)
  have HL : Hid ((findS s.l id = none ∧ liveS s id = false ∧ idxF s.l id = -1) ∨ ∃ k : Nat, findS s.l id = some k ∧ liveS s id = true ∧ idxF s.l id = k) := by
    unfold liveS idxF
    cases findS s.l id with
    | none => exact .inl ⟨rfl, rfl, rfl⟩
    | some k => exact .inr ⟨k, rfl, rfl, rfl⟩
  clear h
  rcases HL.out with ⟨_, h2, h3⟩ | ⟨k, _, h2, h3⟩
  all_goals
    rw [h3] at HF
    rw [h2]
    clear h2 h3 HL
    go_enter Tryz.func85, Tryz.ntmps85
    go_wp2_with (fail)
    refine HF.out.mono ?_
    rintro e w1 ⟨rfl, hx1⟩
    have HX1 := Lib.hid hx1
    clear hx1
    go_wp2_with (fail)
    go_ret
    go_light
    exact ⟨ret_bool (by simp), HX1.out⟩
end Go.Proofs.YtnlefnhdhigecaaGreatDoor
