/- Texts put together: AvWWatE, AvRowS, AvWWatF, AvWWatG, AvWWatH. -/
import Derived.Test.YtnlefnhdhigecaaGreatDoorAvG29
import Derived.Test.YtnlefnhdhigecaaGreatDoorAvG2
import Derived.Shelf.SlSortCmp.NoneTotal
import Derived.Ground.SlsfProg
import Derived.Test.YtnlefnhdhigecaaGreatDoorShelfW
import Derived.Test.YtnlefnhdhigecaaGreatDoorAvG8
import Derived.Deep.RegionHeld3
import Derived.Deep.AppendLies

/- Walks: slices.DeleteFunc at watches. -/
namespace Go.Proofs.YtnlefnhdhigecaaGreatDoor
set_option maxRecDepth 100000
open Go.RowKit Av

theorem kept_snoc {p : Wt → Bool} {xs : List Wt} {j : Nat} (hj : j < xs.length) : (xs.take (j + 1)).filter (fun x => !p x) = (xs.take j).filter (fun x => !p x) ++ (if p xs[j] then [] else [xs[j]]) := by
  rw [List.take_succ_eq_append_getElem hj, List.filter_append]
  cases h : p xs[j] <;> simp [h]
theorem kept_start {p : Wt → Bool} {xs : List Wt} {k : Nat} (hk : k < xs.length) (hall : ∀ x ∈ xs.take k, p x = false) (hp : p xs[k] = true) : (xs.take (k + 1)).filter (fun x => !p x) = xs.take k := by
  rw [kept_snoc hk, hp, if_pos rfl, List.append_nil, List.filter_eq_self]
  intro x hx; rw [hall x hx]; rfl
structure DelSt (p : Wt → Bool) (xs dk : List Wt) (i j : Nat) : Prop where
  hj : j ≤ xs.length
  hi : i = ((xs.take j).filter (fun x => !p x)).length
  lt : i < j
  len : dk.length = xs.length
  low : dk.take i = (xs.take j).filter (fun x => !p x)
  high : dk.drop j = xs.drop j
theorem DelSt.at {p : Wt → Bool} {xs dk : List Wt} {i j : Nat} (h : DelSt p xs dk i j) (hlt : j < xs.length) : dk[j]'(by rw [h.len]; exact hlt) = xs[j] := by
  have h1 := h.high
  rw [List.drop_eq_getElem_cons (by rw [h.len]; exact hlt), List.drop_eq_getElem_cons hlt] at h1
  exact (List.cons.inj h1).1
theorem DelSt.skip {p : Wt → Bool} {xs dk : List Wt} {i j : Nat} (h : DelSt p xs dk i j) (hlt : j < xs.length) (hp : p xs[j] = true) : DelSt p xs dk i (j + 1) := by
  have hk : (xs.take (j + 1)).filter (fun x => !p x) = (xs.take j).filter (fun x => !p x) := by rw [kept_snoc hlt, hp, if_pos rfl, List.append_nil]
  refine ⟨hlt, by rw [hk]; exact h.hi, by have := h.lt; omega, h.len, by rw [hk]; exact h.low, ?_⟩
  have := congrArg (List.drop 1) h.high
  simpa [List.drop_drop] using this
theorem DelSt.keep {p : Wt → Bool} {xs dk : List Wt} {i j : Nat} (h : DelSt p xs dk i j) (hlt : j < xs.length) (hp : p xs[j] = false) : DelSt p xs (dk.set i xs[j]) (i + 1) (j + 1) := by
  have hk : (xs.take (j + 1)).filter (fun x => !p x) = (xs.take j).filter (fun x => !p x) ++ [xs[j]] := by rw [kept_snoc hlt, hp]; rfl
  have hlt2 := h.lt
  have hlen := h.len
  refine ⟨hlt, by rw [hk, List.length_append, ← h.hi]; rfl, by omega, by rw [List.length_set]; exact h.len, ?_, ?_⟩
  · rw [hk, ← h.low, List.take_set, List.take_succ_eq_append_getElem (by omega : i < dk.length), List.set_append_right _ _ (by rw [List.length_take]; omega)]
    congr 1
    rw [List.length_take, Nat.min_eq_left (by omega), Nat.sub_self]; rfl
  · have h2 : (dk.set i xs[j]).drop (j + 1) = dk.drop (j + 1) := by rw [List.drop_set_of_lt (by omega)]
    rw [h2]
    have := congrArg (List.drop 1) h.high
    simpa [List.drop_drop] using this
def DFRel (p : Wt → Bool) (S0 : Nat → Prop) (base rb cap : Nat) (Inv : List Wt → Option Nat → World → Prop) (xs : List Wt) (w : World) (s5 s6 : Value) (wr : World) : Prop :=
  ∃ (i j : Nat) (dk : List Wt), s5 = .int .i64 i ∧ s6 = .int .i64 j ∧ DelSt p xs dk i j ∧ RowB wr rb 214 3 cap (dk.flatMap wcell) ∧ (∃ cur, Inv (xs.take j) cur wr) ∧ Kp (fun i => (S0 i ∨ base ≤ i) ∨ i = rb) w wr
/-- What comes of it. -/
def DeldW (p : Wt → Bool) (base : Nat) (Inv : List Wt → Option Nat → World → Prop) (xs : List Wt) (ad : Option Addr) (cap : Nat) (e : Ending) (w' : World) : Prop :=
  e = .returned (.slice ad (xs.filter fun x => !p x).length cap) ∧ w'.ownsRow base 214 3 (.slice ad (xs.filter fun x => !p x).length cap) (xs.filter fun x => !p x).length ((xs.filter fun x => !p x).flatMap wcell) ∧ ∃ cur, Inv xs cur w'
set_option maxHeartbeats 3200000 in
theorem deleteFunc_any {g : Nat} {lb : Array Value} {p : Wt → Bool} {S0 : Nat → Prop} {base rb : Nat} {Inv : List Wt → Option Nat → World → Prop} (hA : Asked g lb p S0 base rb Inv) (rbase : Nat) (ad : Option Addr) (xs : List Wt) (cap : Nat) (w : World)
    (hown : w.ownsRow rbase 214 3 (.slice ad xs.length cap) xs.length (xs.flatMap wcell)) (had : ∀ a, ad = some a → a.block = rb) (hrb : ad ≠ none → rb < base) (hb : base ≤ w.heap.size) (hm : xs.length ≤ 100000) (h0 : ∃ cur, Inv [] cur w) :
    Calls Tryz.prog 176 #[.slice ad xs.length cap, .func (.func g) #[] lb] w fun e w' => DeldW p rbase Inv xs ad cap e w' ∧ Kp (fun i => (S0 i ∨ base ≤ i) ∨ i = rb) w w' := by
  have hrow : ∀ a, ad = some a → ad = some ⟨rb, 0, none⟩ ∧ RowB w rb 214 3 cap (xs.flatMap wcell) ∧ xs.length ≤ cap ∧ cap ≤ maxLen ∧ rbase ≤ rb := by
    intro a ha
    subst ha
    obtain ⟨b, rfl, h1, _, h3, h4, h5⟩ := RowB.of_owns hown
    have := had _ rfl
    simp only at this
    subst this
    exact ⟨rfl, h1, h3, h4, h5⟩
  have hsome : xs ≠ [] → ∃ a, ad = some a := by
    intro hne
    cases ad with
    | some a => exact ⟨a, rfl⟩
    | none =>
      exfalso
      obtain ⟨_, h2 | ⟨g, c, cur, hv, _⟩⟩ := hown
      · exact hne (List.eq_nil_of_length_eq_zero h2.2)
      · simp at hv
  have eg := hA.eg
  have HIF := Lib.hid (indexFunc_any hA ad xs cap w (fun hne => by
    obtain ⟨a, ha⟩ := hsome hne
    obtain ⟨h1, h2, _⟩ := hrow a ha
    exact ⟨h1, hrb (by rw [ha]; simp), h2⟩) hm h0)
  have hown1 : ∀ w1, Kp (fun i => S0 i ∨ base ≤ i) w w1 → w1.ownsRow rbase 214 3 (.slice ad xs.length cap) xs.length (xs.flatMap wcell) := by
    intro w1 hk
    refine ownsRow.kp hown hk ?_
    intro b hb h
    cases ad with
    | none => simp [Value.ownBlock] at hb
    | some a =>
      have hab : a.block = b := by simpa [Value.ownBlock] using hb
      have := had a rfl
      rw [hab] at this
      subst this
      have hrb := hrb (by simp)
      rcases h with h | h
      · exact (hA.s0 _ h).1 rfl
      · omega
  have HOWN := Lib.hid hown1
  have HROW := Lib.hid hrow
  have HSOME := Lib.hid hsome
  have HA := Lib.hid hA
  have HHB := Lib.hid hb
  clear hown hown1 had hrow hsome hA h0
  go_enter Tryz.func176, Tryz.ntmps176
  go_wp2_with (fail)
  refine HIF.out.mono ?_
  rintro e w1 ⟨hf, hk1⟩
  have HK1 := Lib.hid hk1
  clear HIF hk1
  rcases hf with ⟨rfl, hall, hcur⟩ | ⟨k, hk, rfl, hall, hp, hcur⟩
  · have HALL := Lib.hid hall
    have HC := Lib.hid hcur
    clear hall hcur
    go_wp2_with (fail)
    go_ret
    refine ⟨?_, HK1.out.mono (fun i _ h => .inl h)⟩
    unfold DeldW
    rw [show xs.filter (fun x => !p x) = xs from List.filter_eq_self.2 (fun x hx => by rw [HALL.out x hx]; rfl)]
    refine ⟨rfl, ?_, HC.out⟩
    exact HOWN.out _ HK1.out
  · have hne : xs ≠ [] := by rintro rfl; simp at hk
    obtain ⟨a, rfl⟩ := HSOME.out hne
    have hrb := hrb (by simp)
    obtain ⟨h1, hrow, hcap, hcm, hrr⟩ := HROW.out a rfl
    simp only [Option.some.injEq] at h1
    subst h1
    have HC := Lib.hid hcur
    have HROW1 : Hid (RowB w1 rb 214 3 cap (xs.flatMap wcell)) := hrow.kp HK1.out (fun f => Or.elim f (fun h => (HA.out.s0 rb h).1 rfl) (fun h => by omega))
    have HD : Hid (DelSt p xs xs k (k + 1)) := by
      show DelSt p xs xs k (k + 1)
      have hks := kept_start hk hall hp
      exact ⟨hk, by rw [hks, List.length_take]; omega, Nat.lt_succ_self _, rfl, by rw [hks], rfl⟩
    have HRR := Lib.hid hrr
    have hne1 : ((k : Int) == -1) = false := beq_eq_false_iff_ne.2 (by omega)
    unfold maxLen at hcm
    clear hall hp hcur hrow HROW HSOME HOWN hrr
    go_wp2_with (fail)
    go_loopw [5, 6] (fun s5 s6 wr => DFRel p S0 base rb cap Inv xs w s5 s6 wr) (fun _ s6 _ => xs.length - (intOf s6).toNat)
    case atStart => exact ⟨k, k + 1, xs, rfl, by go_num, HD.out, HROW1.out, HC.out, HK1.out.mono (fun i _ h => .inl h)⟩
    case round =>
      clear HD HROW1 HC HK1 hk hne1
      obtain ⟨i, j, dk, rfl, rfl, hd, hrow, ⟨cur, hinv⟩, hkp⟩ := hrel
      have hij := hd.lt
      have hjn := hd.hj
      have HD := Lib.hid hd
      have HK := Lib.hid hkp
      have HI := Lib.hid hinv
      have HR := Lib.hid hrow
      clear hd hkp hinv hrow
      by_cases hlt : j < xs.length
      · have hlt2 : j < dk.length := by rw [HD.out.len]; exact hlt
        have hat := HD.out.at hlt
        have c0 := HR.out.cell (i := j * 3) (v := .int .i64 xs[j].sess) (by rw [← hat]; exact rowK_cell wcell 3 (fun _ => rfl) dk j hlt2 0 (by decide))
        have c1 := HR.out.cell (i := j * 3 + 1) (v := .string xs[j].path) (by rw [← hat]; exact rowK_cell wcell 3 (fun _ => rfl) dk j hlt2 1 (by decide))
        have c2 := HR.out.cell (i := j * 3 + 2) (v := .int .i64 xs[j].kind) (by rw [← hat]; exact rowK_cell wcell 3 (fun _ => rfl) dk j hlt2 2 (by decide))
        obtain ⟨x, hx⟩ : ∃ x, xs[j] = x := ⟨_, rfl⟩
        rw [hx] at c0 c1 c2
        have HX := Lib.hid hx
        clear hx hat
        obtain ⟨W2, hW2⟩ : ∃ W2, wr.alloc (.cells #[.int .i64 x.sess, .string x.path, .int .i64 x.kind] 214) = W2 := ⟨_, rfl⟩
        have hx2 : Ext wr W2 := by rw [← hW2]; exact (Kp.refl _ _).alloc _
        have hb2 : Blk W2 wr.heap.size #[.int .i64 x.sess, .string x.path, .int .i64 x.kind] 214 := by rw [← hW2]; exact heap_alloc_new wr _
        have hwr : w.heap.size ≤ wr.heap.size := HK.out.size
        have hcon : Calls Tryz.prog g (#[.agg #[.int .i64 x.sess, .string x.path, .int .i64 x.kind]] ++ lb) W2 fun e w' => e = .returned (.bool (p x)) ∧ (∃ cur', Inv (xs.take (j + 1)) cur' w') ∧ Kp (fun i => (S0 i ∨ base ≤ i) ∨ i = rb) w w' ∧ RowB w' rb 214 3 cap (dk.flatMap wcell) ∧ Blk w' wr.heap.size #[.int .i64 x.sess, .string x.path, .int .i64 x.kind] 214 := by
          have hi2 := HA.out.kp _ _ wr W2 HI.out hx2.kp
          have hcu := HA.out.cur (xs.take j) cur wr
          refine (HA.out.call (xs.take j) cur x W2 (by rw [List.length_take]; omega) hi2).mono ?_
          rintro e w' ⟨rfl, cur', h1, h2⟩
          refine ⟨rfl, ⟨cur', by rw [List.take_succ_eq_append_getElem hlt, HX.out]; exact h1⟩, (HK.out.ext hx2).next h2 ?_, (HR.out.kp hx2 (fun f => f)).kp h2 ?_, hb2.kp h2 ?_⟩
          · rintro i hi (h | h)
            · exact .inl (.inl h)
            · exact .inl (.inr (hcu i HI.out h).1)
          · intro f
            rcases f with h | h
            · exact (HA.out.s0 _ h).1 rfl
            · exact (hcu rb HI.out h).2.2 rfl
          · intro f
            rcases f with h | h
            · have := (HA.out.s0 _ h).2; have := HHB.out; omega
            · exact absurd (hcu _ HI.out h).2.1 (Nat.lt_irrefl _)
        have HCON := Lib.hid hcon
        have hil : i < dk.length := by omega
        have HD0 := Lib.hid (rowK_cell wcell 3 (fun _ => rfl) dk i hil)
        have g0 := hb2.cell 0 _ rfl
        have g1 := hb2.cell 1 _ rfl
        have g2 := hb2.cell 2 _ rfl
        clear hcon hx2 hb2 hwr hlt2
        go_upto_region 8 with (fail)
        cases hp : p x with
        | true =>
          have HP := Lib.hid hp
          rw [hp] at HCON
          clear hp hW2
          go_wp2_with (go_at_fn g; refine HCON.out.mono ?_; rintro e w2 ⟨rfl, h1, h2, h3, h4⟩; have H1 := Lib.hid h1; have H2 := Lib.hid h2; have H3 := Lib.hid h3; clear h1 h2 h3 h4)
          go_light
          exact ⟨⟨i, j + 1, dk, rfl, by go_num, HD.out.skip hlt (by rw [HX.out]; exact HP.out), H3.out, H1.out, H2.out⟩, by simp [intOf]; omega⟩
        | false =>
          have HP := Lib.hid hp
          rw [hp] at HCON
          clear hp hW2
          go_wp2_with (go_at_fn g; refine HCON.out.mono ?_; rintro e w2 ⟨rfl, h1, h2, h3, h4⟩; have H1 := Lib.hid h1; have H2 := Lib.hid h2; have H3 := Lib.hid h3; have e0 := h4.cell 0 _ rfl; have e1 := h4.cell 1 _ rfl; have e2 := h4.cell 2 _ rfl; have d0 := h3.cell (i := i * 3) (v := .int .i64 dk[i].sess) (HD0.out 0 (by decide)); have d1 := h3.cell (i := i * 3 + 1) (v := .string dk[i].path) (HD0.out 1 (by decide)); have d2 := h3.cell (i := i * 3 + 2) (v := .int .i64 dk[i].kind) (HD0.out 2 (by decide)); have r0 := h3.free (i * 3); have r1 := h3.free (i * 3 + 1); have r2 := h3.free (i * 3 + 2); clear h1 h2 h3 h4)
          go_light
          obtain ⟨cur', hi'⟩ := H1.out
          refine ⟨⟨i + 1, j + 1, dk.set i x, by go_num, by go_num, ?_, ?_, ⟨cur', HA.out.kp _ _ w2 _ hi' (kp_set3 (S := fun i => i = rb) (Kp.refl _ _) rb _ _ _ _ rfl)⟩, kp_set3 H2.out rb _ _ _ _ (.inr rfl)⟩, by simp [intOf]; omega⟩
          · have := HD.out.keep hlt (by rw [HX.out]; exact HP.out)
            rwa [HX.out] at this
          · have := ((H3.out.set (i * 3) (.int .i64 x.sess)).set (i * 3 + 1) (.string x.path)).set (i * 3 + 2) (.int .i64 x.kind)
            rwa [flat_set3 wcell x _ _ _ rfl (fun _ => rfl)] at this
      · have hj2 : j = xs.length := by omega
        subst hj2
        have hlen := HD.out.len
        have hfl := flat_len wcell 3 (fun _ => rfl) dk
        obtain ⟨vs, hvl, hclr⟩ := run_clear_rows (P := Tryz.prog) wr 202 214 _ 3 rfl (by decide) Tryz.underlying202 Tryz.zeroValue214 (by intro v hv; simp [Value.cells] at hv; rcases hv with rfl | rfl | rfl <;> rfl) rb (i * 3) (xs.length - i) (cap - i) (by omega)
          (fun q hq => by
            have : i * 3 + q < (dk.flatMap wcell).length := by rw [hfl]; omega
            rw [HR.out.cell (List.getElem?_eq_getElem this)]; rfl)
          (fun q _ => HR.out.free _)
        have HV := Lib.hid hvl
        clear hlen hfl
        go_wp2_with (fail)
        go_ret
        obtain ⟨cur', hi'⟩ : ∃ cur', Inv xs cur' wr := ⟨cur, by have := HI.out; rwa [List.take_length] at this⟩
        have hk : dk.take i = xs.filter (fun x => !p x) := by have := HD.out.low; rwa [List.take_length] at this
        have hil : i = (xs.filter fun x => !p x).length := by have := HD.out.hi; rwa [List.take_length] at this
        have hrow := RowB.setCells vs (i * 3) HR.out
        have hlen := HD.out.len
        have ho := hrow.owns (m := i) (base := rbase) (by rw [setMs_len, flat_len wcell 3 (fun _ => rfl)]; omega) (by omega) (by unfold maxLen; omega) HRR.out
        rw [setMs_take _ _ _ _ (Nat.le_refl _), flat_take wcell 3 (fun _ => rfl), hk] at ho
        refine ⟨⟨by rw [← hil]; rfl, ?_, cur', HA.out.kp _ _ wr _ hi' (kp_setCells _ _ _)⟩, HK.out.next (kp_setCells vs wr (i * 3)) (fun q _ e => .inr e)⟩
        rw [← hil]
        exact ho
end Go.Proofs.YtnlefnhdhigecaaGreatDoor

/- A row that the library sorts in place. No program. -/
namespace Av
set_option maxRecDepth 100000
open Go Go.RowKit Go.Sort Go.Proofs
theorem flatK_list {α : Type} [Inhabited α] (f : α → List Value) (K : Nat) (h0 : 0 < K) (hf : ∀ x, (f x).length = K) (xs : List α) : (flatK f K xs.toArray).toList = xs.flatMap f := by
  apply List.ext_getElem
  · rw [flat_len f K hf]; simp
  · intro t h1 h2
    have ht : t < xs.length * K := by rw [flat_len f K hf] at h2; exact h2
    have hd : t / K < xs.length := (Nat.div_lt_iff_lt_mul h0).2 ht
    have hm : t % K < K := Nat.mod_lt _ h0
    have e1 := rowK_cell f K hf xs (t / K) hd (t % K) hm
    have et : t / K * K + t % K = t := by rw [Nat.mul_comm]; exact Nat.div_add_mod t K
    rw [et, List.getElem?_eq_getElem h2, List.getElem?_eq_getElem (by rw [hf]; exact hm)] at e1
    have e2 := Option.some.inj e1
    rw [e2]
    have e3 := get_flatK f K xs.toArray t (by simpa using ht)
    rw [getElem!_pos (flatK f K xs.toArray) t (by simpa using ht), getElem!_pos xs.toArray (t / K) (by simpa using hd)] at e3
    rw [Array.getElem_toList, e3]
    simp only [List.getElem_toArray]
    rw [getElem!_pos (f xs[t / K]) (t % K) (by rw [hf]; exact hm)]
theorem RowB.holds {α : Type} [Inhabited α] {f : α → List Value} {K : Nat} (h0 : 0 < K) (hf : ∀ x, (f x).length = K) {w : World} {b cap : Nat} {e : TypeId} {xs : List α} (h : RowB w b e K cap (xs.flatMap f)) : HoldsK f K w b 0 xs.toArray := by
  intro j hj
  have hl := flatK_list f K h0 hf xs
  refine ⟨?_, h.free _⟩
  rw [Nat.zero_add]
  refine h.cell ?_
  rw [← hl, getElem!_pos _ j hj, Array.getElem?_toList, Array.getElem?_eq_getElem hj]
  rfl
theorem RowB.sorted {α : Type} [Inhabited α] {f : α → List Value} {K : Nat} (h0 : 0 < K) (hf : ∀ x, (f x).length = K) {w : World} {b cap : Nat} {e : TypeId} {xs ys : List α} (h : RowB w b e K cap (xs.flatMap f)) (hl : ys.length = xs.length) (n : Nat) (os : Array Obj) :
    RowB (sortWorldK f K w b 0 n ys.toArray os) b e K cap (ys.flatMap f) ∧ Kp (fun i => i = b) w (sortWorldK f K w b 0 n ys.toArray os) := by
  have hlt := h.lt
  have hlen := h.len
  rw [flat_len f K hf, ← hl] at hlen
  have hfl := flatK_list f K h0 hf ys
  obtain ⟨cur, h1, h2, h3⟩ := h
  have hget : ∀ k, k < w.heap.size → (sortWorldK f K w b 0 n ys.toArray os).heap[k]? = (w.heap.modify b (onCells (putCells id 0 (flatK f K ys.toArray))))[k]? := by
    intro k hk
    show ((w.heap.modify b (onCells (putCells id 0 (flatK f K ys.toArray)))) ++ os)[k]? = _
    rw [Array.getElem?_append_left (by simpa using hk)]
  constructor
  · refine ⟨putCells id 0 (flatK f K ys.toArray) cur, ?_, by simpa [putCells] using h2, ?_⟩
    · rw [hget b hlt, Array.getElem?_modify, if_pos rfl, h1]; rfl
    · rw [← hfl]
      apply List.ext_getElem?
      intro t
      rw [List.getElem?_take]
      by_cases ht : t < (flatK f K ys.toArray).toList.length
      · rw [if_pos ht]
        have ht2 : t < (flatK f K ys.toArray).size := by simpa using ht
        have ht3 : t < cur.size := by have : (flatK f K ys.toArray).size = ys.length * K := by simp
                                      omega
        rw [Array.getElem?_toList, Array.getElem?_toList, Array.getElem?_eq_getElem ht2]
        simp only [putCells, Array.getElem?_mapIdx, Array.getElem?_eq_getElem ht3, Option.map_some]
        rw [if_pos ⟨Nat.zero_le _, by omega⟩, Nat.sub_zero, getElem!_pos _ t ht2]
        rfl
      · rw [if_neg ht, List.getElem?_eq_none (by omega)]
  · refine ⟨rfl, rfl, rfl, ?_, fun k hk hs => ?_⟩
    · show w.heap.size ≤ ((w.heap.modify b _) ++ os).size
      simp
    · rw [hget k hk, Array.getElem?_modify, if_neg (fun e => hs e.symm)]
end Av

/- Walks: slices.SortFunc at watches. -/
namespace Go.Proofs.YtnlefnhdhigecaaGreatDoor
set_option maxRecDepth 100000
open Go.RowKit Av Go.Shelf Go.Sort
theorem wcell_one (x : Wt) (v : Value) (hv : v ∈ wcell x) : v.oneCell' = true := by
  simp [wcell] at hv
  rcases hv with rfl | rfl | rfl <;> rfl
theorem ltOf_ordW (x y : Wt) : ltOf ordW x y = ltW x y := ordW_lt x y
theorem ltOf_ordW' : ltOf ordW = ltW := funext fun x => funext fun y => ordW_lt x y
theorem swoW : SWO (ltOf ordW) where
  irrefl x := by rw [ltOf_ordW]; exact ltW_irrefl x
  trans x y z h1 h2 := by rw [ltOf_ordW] at *; exact ltW_trans h1 h2
  ntrans x y z h1 h2 := by rw [ltOf_ordW] at *; exact ltW_ntrans h1 h2
theorem sort_any (ad : Option Addr) (cap : Nat) (xs : List Wt) (w : World) (base : Nat) (hown : w.ownsRow base 214 3 (.slice ad xs.length cap) xs.length (xs.flatMap wcell)) (hn : xs.length ≤ 100000) :
    Calls Tryz.prog 210 #[.slice ad xs.length cap, .func (.func 211) #[] #[]] w fun e w' =>
      e = .returned (.tuple #[]) ∧ w'.ownsRow base 214 3 (.slice ad (sortW xs).length cap) (sortW xs).length ((sortW xs).flatMap wcell) ∧ Kp (fun i => ∃ a, ad = some a ∧ a.block = i) w w' := by
  cases xs with
  | nil =>
    have hcon := AnyF.slices_SortFunc_none { Tryz.sortFW with } ad cap (.func (.func 211) #[] #[]) w
    change Calls Tryz.prog 210 _ _ _ at hcon
    refine hcon.mono ?_
    rintro e w' ⟨rfl, rfl⟩
    refine ⟨rfl, ?_, Kp.refl _ _⟩
    have : sortW [] = [] := List.eq_nil_of_length_eq_zero (sortW_len [])
    rw [this]; exact hown
  | cons x r =>
    obtain ⟨a, rfl⟩ : ∃ a, ad = some a := by
      cases ad with
      | some a => exact ⟨a, rfl⟩
      | none => obtain ⟨_, h | ⟨g, c, cur, hv, _⟩⟩ := hown
                · simp at h
                · simp at hv
    obtain ⟨b, rfl, hrow, hlen, hnc, hcm, hbb⟩ := RowB.of_owns hown
    generalize hxs : x :: r = xs at *
    have eg : ∀ args w, (callFunc 211 args).run Tryz.prog w = .ok (.enter 211 args) w := enters_of Tryz.func211 (by kernel_rfl) rfl
    have hcmp : CmpLays Tryz.prog 211 #[] wcell 3 ordW b 0 xs.toArray.size w := fun m os dk _ x y => (order_any x y _).mono fun e w' h => ⟨h.1, h.2.grow⟩
    have hcon := AnyQ.slices_SortFunc_total Tryz.sortFW 3 Tryz.isAgg214 Tryz.sizeOf214 wcell (fun _ => rfl) wcell_one ordW swoW 211 #[] b 0 cap xs.toArray w eg hcmp (RowB.holds (f := wcell) (K := 3) (by decide) (fun _ => rfl) hrow) hrow.lt (by simp; omega) (fun x y h1 h2 => ltW_total (by rw [← ltOf_ordW]; exact h1) (by rw [← ltOf_ordW]; exact h2))
    change Calls Tryz.prog 210 #[.slice (some ⟨b, 0, none⟩) xs.length cap, .func (.func 211) #[] #[]] _ _ at hcon
    refine hcon.mono ?_
    rintro e w' ⟨rfl, n, os, rfl⟩
    have hs : (xs.toArray.toList.mergeSort fun x y => !(ltOf ordW) y x) = sortW xs := by
      unfold sortW; rw [ltOf_ordW']
    rw [hs]
    obtain ⟨h1, h2⟩ := RowB.sorted (f := wcell) (K := 3) (by decide) (fun _ => rfl) hrow (sortW_len xs) n os
    refine ⟨rfl, ?_, h2.mono (fun i _ e => ⟨_, rfl, e.symm⟩)⟩
    have := h1.owns (m := (sortW xs).length) (base := base) (by rw [flat_len wcell 3 (fun _ => rfl)]; exact Nat.le_refl _) (by rw [sortW_len]; exact hnc) hcm hbb
    rwa [flat_take wcell 3 (fun _ => rfl), List.take_length] at this
end Go.Proofs.YtnlefnhdhigecaaGreatDoor

/- Walks: watches: New, Len, Drop. -/
namespace Go.Proofs.YtnlefnhdhigecaaGreatDoor
set_option maxRecDepth 100000
open Go.RowKit Av

abbrev wlT : TypeId := 204
/-- Watches at block b, the row in block ro. -/
def WL (w : World) (b : Nat) (ro : Option Nat) (room : Nat) (l : List Wt) : Prop :=
  ∃ v, Blk w b #[.int .i64 room, v] wlT ∧ w.ownsRow 0 214 3 v l.length (l.flatMap wcell) ∧ v.ownBlock = ro ∧ ∀ i, ro = some i → i ≠ b
theorem WL.kp {S : Nat → Prop} {w w' : World} {b room : Nat} {ro : Option Nat} {l : List Wt} (h : WL w b ro room l) (k : Kp S w w') (hb : ¬ S b) (hr : ∀ i, ro = some i → ¬ S i) : WL w' b ro room l := by
  obtain ⟨v, h1, h2, h3, h4⟩ := h
  exact ⟨v, h1.kp k hb, ownsRow.kp h2 k (fun i hi => hr i (by rw [← h3, hi])), h3, h4⟩
theorem WL.ext {w w' : World} {b room : Nat} {ro : Option Nat} {l : List Wt} (h : WL w b ro room l) (k : Ext w w') : WL w' b ro room l := h.kp k (fun f => f) (fun _ _ f => f)
theorem WL.lt {w : World} {b room : Nat} {ro : Option Nat} {l : List Wt} (h : WL w b ro room l) : b < w.heap.size ∧ ∀ i, ro = some i → i < w.heap.size := by
  obtain ⟨v, h1, h2, h3, h4⟩ := h
  refine ⟨h1.lt, fun i hi => ?_⟩
  subst h3
  obtain ⟨_, ⟨rfl, _⟩ | ⟨g, cap, cur, rfl, _, hg, _⟩⟩ := h2
  · simp [Value.ownBlock] at hi
  · simp only [Value.ownBlock, Option.some.injEq] at hi
    subst hi
    exact (Array.getElem?_eq_some_iff.1 hg).1
theorem WL.open {w : World} {b room : Nat} {ro : Option Nat} {l : List Wt} (h : WL w b ro room l) : ∃ a c, Blk w b #[.int .i64 room, .slice a l.length c] wlT ∧ w.ownsRow 0 214 3 (.slice a l.length c) l.length (l.flatMap wcell) ∧ (Value.slice a l.length c).ownBlock = ro ∧ (∀ i, ro = some i → i ≠ b) ∧ (∀ x, a = some x → ro = some x.block) := by
  obtain ⟨v, h1, h2, h3, h4⟩ := h
  obtain ⟨a, c, rfl, _⟩ := Sl.open (Sl.of_owns h2)
  refine ⟨a, c, h1, h2, h3, h4, fun x hx => ?_⟩
  subst hx
  rw [← h3]; rfl
theorem WL.mk {w : World} {b room : Nat} {ro : Option Nat} {l : List Wt} {v : Value} (h1 : Blk w b #[.int .i64 room, v] wlT) (h2 : w.ownsRow 0 214 3 v l.length (l.flatMap wcell)) (h3 : v.ownBlock = ro) (h4 : ∀ i, ro = some i → i ≠ b) : WL w b ro room l := ⟨v, h1, h2, h3, h4⟩
set_option maxHeartbeats 800000 in
theorem watNew_any (room : Nat) (w : World) (h1 : 1 ≤ room) (h2 : room ≤ 1000) : Calls Tryz.prog 77 #[.int .i64 room] w fun e w' => e = .returned (.tuple #[.pointer (some ⟨w.heap.size, 0, none⟩), .int .i64 0]) ∧ WL w' w.heap.size none room [] ∧ Ext w w' := by
  have a1 : ¬ (room : Int) < 1 := by omega
  have a2 : ¬ (1000 : Int) < room := by omega
  go_enter Tryz.func77, Tryz.ntmps77
  go_wp2_with (fail)
  go_ret2
  refine ⟨by simp, WL.mk (v := .slice none 0 0) (heap_alloc_new w _) ⟨rfl, .inl ⟨rfl, rfl⟩⟩ rfl (by simp), (Kp.refl _ _).alloc _⟩
end Go.Proofs.YtnlefnhdhigecaaGreatDoor

/- Walks: watches: the closure of Fire. -/
namespace Go.Proofs.YtnlefnhdhigecaaGreatDoor
set_option maxRecDepth 100000
open Go.RowKit Av

abbrev evT : TypeId := 166
abbrev evsT : TypeId := 75
theorem ev_facts : ElemOk Tryz.prog evsT evT 3 := ⟨by kernel_rfl, by kernel_rfl⟩
theorem wt_one (xs : List Wt) : ∀ y ∈ xs.flatMap wcell, y.oneCell' = true := by
  intro y hy
  obtain ⟨e, _, he⟩ := List.mem_flatMap.1 hy
  exact wcell_one e y he
/-- What Fire's closure leans on. -/
structure FInv (pb ub cb ob : Nat) (p up : ByteArray) (ch : Int) (rb base : Nat) (seen : List Wt) (cur : Option Nat) (W : World) : Prop where
  pc : W.cell? ⟨pb, 0, none⟩ = some (.string p)
  uc : W.cell? ⟨ub, 0, none⟩ = some (.string up)
  cc : W.cell? ⟨cb, 0, none⟩ = some (.int .i64 ch)
  out : ∃ v, Blk W ob #[v] evsT ∧ W.ownsRow base evT 3 v (toldW (evG p up ch) seen).length ((toldW (evG p up ch) seen).flatMap wcell) ∧ cur = v.ownBlock
  ne : (ob ≠ pb ∧ ob ≠ ub ∧ ob ≠ cb) ∧ (pb < base ∧ ub < base ∧ cb < base ∧ ob < base) ∧ (pb ≠ rb ∧ ub ≠ rb ∧ cb ≠ rb ∧ ob ≠ rb) ∧ rb < base ∧ base ≤ W.heap.size
theorem own_at {w : World} {base k n : Nat} {e : TypeId} {v : Value} {xs : List Value} (h : w.ownsRow base e k v n xs) {i : Nat} (hi : v.ownBlock = some i) : base ≤ i ∧ i < w.heap.size := by
  obtain ⟨_, ⟨rfl, _⟩ | ⟨g, cap, cur, rfl, hb, hg, _⟩⟩ := h
  · simp [Value.ownBlock] at hi
  · simp only [Value.ownBlock, Option.some.injEq] at hi
    subst hi
    exact ⟨hb, (Array.getElem?_eq_some_iff.1 hg).1⟩
theorem FInv.kp {pb ub cb ob : Nat} {p up : ByteArray} {ch : Int} {rb base : Nat} {seen : List Wt} {cur : Option Nat} {W W' : World} {S : Nat → Prop} (h : FInv pb ub cb ob p up ch rb base seen cur W) (k : Kp S W W') (hs : ∀ i, S i → i = rb ∨ W.heap.size ≤ i) : FInv pb ub cb ob p up ch rb base seen cur W' := by
  obtain ⟨hp, hu, hc, ⟨v, h1, h2, h3⟩, hne⟩ := h
  obtain ⟨⟨n1, n2, n3⟩, ⟨m1, m2, m3, m4⟩, ⟨k1, k2, k3, k4⟩, hrb, hb⟩ := hne
  have key : ∀ i, i < base → i ≠ rb → ¬ S i := fun i hi hn hS => (hs i hS).elim (fun h => hn h) (fun h => by omega)
  refine ⟨k.cell hp (key pb m1 k1), k.cell hu (key ub m2 k2), k.cell hc (key cb m3 k3), ⟨v, h1.kp k (key ob m4 k4), ownsRow.kp h2 k (fun i hi hS => ?_), h3⟩, ⟨n1, n2, n3⟩, ⟨m1, m2, m3, m4⟩, ⟨k1, k2, k3, k4⟩, hrb, Nat.le_trans hb k.size⟩
  have := own_at h2 hi
  rcases hs i hS with h | h <;> omega
set_option maxHeartbeats 1600000 in
theorem fireAsk (pb ub cb ob : Nat) (p up : ByteArray) (ch : Int) (rb base : Nat) : Asked 212 #[.pointer (some ⟨pb, 0, none⟩), .pointer (some ⟨ub, 0, none⟩), .pointer (some ⟨cb, 0, none⟩), .pointer (some ⟨ob, 0, none⟩)] (fun x => decide (evG p up ch x ≠ 0)) (fun i => i = ob ∧ ob ≠ rb ∧ ob < base) base rb (FInv pb ub cb ob p up ch rb base) := by
  refine ⟨enters_of Tryz.func212 (by kernel_rfl) rfl, ?_, ?_, ?_, ?_⟩
  · intro seen cur x W hn hI
    have HI := Lib.hid hI
    have HTS := Lib.hid (toldW_snoc (evG p up ch) seen x)
    have htl : (toldW (evG p up ch) seen).length ≤ seen.length := List.length_filterMap_le _ _
    obtain ⟨r, hr⟩ : ∃ r, evG p up ch x = r := ⟨_, rfl⟩
    rw [hr] at HTS
    have HEV := Lib.hid (fun W => event_any x p up ch W)
    rw [hr] at HEV
    have HR := Lib.hid hr
    simp only [hr]
    obtain ⟨W1, hW1⟩ : ∃ W1, W.alloc (.cells (wcell x).toArray 214) = W1 := ⟨_, rfl⟩
    have hx1 : Ext W W1 := by rw [← hW1]; exact (Kp.refl _ _).alloc _
    have hb1 : Blk W1 W.heap.size (wcell x).toArray 214 := by rw [← hW1]; exact heap_alloc_new W _
    have hi1 := hI.kp (S := fun _ => False) hx1 (fun _ f => f.elim)
    have q1 := hi1.pc
    have q2 := hi1.uc
    have q3 := hi1.cc
    have HI1 := Lib.hid hi1
    have HX1 := Lib.hid hx1
    have HB1 := Lib.hid hb1
    obtain ⟨xs, xp, xk⟩ := x
    have b0 := hb1.cell 0 _ rfl
    have b1 := hb1.cell 1 _ rfl
    have b2 := hb1.cell 2 _ rfl
    clear hI hi1 hx1 hb1 hr
    go_enter Tryz.func212, Tryz.ntmps212
    go_wp2_with (fail)
    refine (HEV.out _).mono ?_
    rintro e W2 ⟨rfl, hx2⟩
    have hi2 := HI1.out.kp (S := fun _ => False) hx2 (fun _ f => f.elim)
    have hb2 := HB1.out.kp hx2 (fun f => f)
    have HX2 := Lib.hid (HX1.out.trans hx2)
    have HI2 := Lib.hid hi2
    clear HI1 HX1 HB1 HEV hx2 q1 q2 q3 b0 b1 b2
    by_cases h0 : r = 0
    · subst h0
      have HT : Hid (toldW (evG p up ch) (seen ++ [⟨xs, xp, xk⟩]) = toldW (evG p up ch) seen) := by show _ = _; rw [HTS.out, if_pos rfl]
      clear hi2 hb2 HTS
      go_wp2_with (fail)
      go_ret
      go_light
      refine ⟨ret_bool (by simp), cur, ?_, Ext.kp HX2.out⟩
      have h := HI2.out
      obtain ⟨v, h1, h2, h3⟩ := h.out
      exact ⟨h.pc, h.uc, h.cc, ⟨v, h1, by rw [HT.out]; exact h2, h3⟩, h.ne⟩
    · have HT : Hid (toldW (evG p up ch) (seen ++ [⟨xs, xp, xk⟩]) = toldW (evG p up ch) seen ++ [⟨xs, xp, r⟩]) := by show _ = _; rw [HTS.out, if_neg h0]
      obtain ⟨v, hob, how, hcu⟩ := hi2.out
      obtain ⟨a3, l3, c3, hv3⟩ : ∃ a3 l3 c3, v = .slice a3 l3 c3 := by obtain ⟨a3, c3, e, _⟩ := Sl.open (Sl.of_owns how); exact ⟨_, _, _, e⟩
      subst hv3
      have o0 := hob.cell 0 _ rfl
      have b0 := hb2.cell 0 _ rfl
      have b1 := hb2.cell 1 _ rfl
      have HOB := Lib.hid hob
      have HOW := Lib.hid how
      have HCU := Lib.hid hcu
      have hone := wt_one [(⟨xs, xp, r⟩ : Wt)]
      clear hi2 hb2 HTS hob how hcu
      go_wp2_with (at_builtin; refine wpList_appK evsT evT 3 (by decide) ev_facts rfl _ _ rfl base _ _ _ rfl (ownsRow.ext HOW.out ((Kp.refl _ _).alloc _)) _ 1 ([(⟨xs, xp, r⟩ : Wt)].flatMap wcell) rfl (Sl.of_block (heap_alloc_new W2 _) rfl (by decide) (Nat.le_refl _)) Shp.some hone ?c1 ?c2 ?_)
      case c1 => omega
      case c2 => have := HI2.out.ne.2.2.2.2; simp; omega
      intro v' w' h1 k2
      obtain ⟨a4, l4, c4, hv4⟩ : ∃ a4 l4 c4, v' = .slice a4 l4 c4 := by obtain ⟨a4, c4, e, _⟩ := Sl.open (Sl.of_owns h1); exact ⟨_, _, _, e⟩
      subst hv4
      have hob1 : Blk w' ob #[.slice a3 l3 c3] evsT := (HOB.out.kp (S := fun _ => False) ((Kp.refl _ _).alloc _) (fun f => f)).kp k2 (fun e => by
        have h5 := (own_at HOW.out e).1
        have := HI2.out.ne.2.1.2.2.2
        omega)
      have o1 := hob1.cell 0 _ rfl
      have f1 := hob1.free 0
      have hin : FInv pb ub cb ob p up ch rb base seen cur (W2.alloc (.cells #[.int .i64 xs, .string xp, .int .i64 r] 166)) := HI2.out.kp (S := fun _ => False) ((Kp.refl _ _).alloc _) (fun _ f => f.elim)
      have hkw : Kp (fun i => (i = ob ∧ ob ≠ rb ∧ ob < base) ∨ cur = some i) W w' := Kp.next (S := fun i => (i = ob ∧ ob ≠ rb ∧ ob < base) ∨ cur = some i) (Ext.kp (HX2.out.alloc _)) k2 (fun i _ e => .inr (by rw [HCU.out]; exact e))
      have hq : w'.cell? ⟨pb, 0, none⟩ = some (.string p) ∧ w'.cell? ⟨ub, 0, none⟩ = some (.string up) ∧ w'.cell? ⟨cb, 0, none⟩ = some (.int .i64 ch) ∧ base ≤ w'.heap.size := by
        have m := HI2.out.ne.2.1
        have z : ∀ i, i < base → (Value.slice a3 l3 c3).ownBlock = some i → False := fun i hi e => by have := (own_at HOW.out e).1; omega
        exact ⟨k2.cell hin.pc (z pb m.1), k2.cell hin.uc (z ub m.2.1), k2.cell hin.cc (z cb m.2.2.1), Nat.le_trans hin.ne.2.2.2.2 k2.size⟩
      have HQ := Lib.hid hq
      have HKW := Lib.hid hkw
      have HOB1 := Lib.hid hob1
      have HOW1 := Lib.hid h1
      clear h1 k2 hob1 hin hkw hq o0 b0 b1 hone
      go_wp2_with (fail)
      go_ret
      go_light
      have hne := HI2.out.ne
      have hst : Kp (fun i => i = ob) w' (w'.setCell ⟨ob, 0, none⟩ (.slice a4 l4 c4)) := Kp.set1 (S := fun i => i = ob) (Kp.refl _ _) ob 0 _ rfl
      refine ⟨ret_bool (by simp [h0]), (Value.slice a4 l4 c4).ownBlock, ⟨hst.cell HQ.out.1 (fun e => hne.1.1 e.symm), hst.cell HQ.out.2.1 (fun e => hne.1.2.1 e.symm), hst.cell HQ.out.2.2.1 (fun e => hne.1.2.2 e.symm), ⟨.slice a4 l4 c4, HOB1.out.set 0 _, ?_, rfl⟩, hne.1, hne.2.1, hne.2.2.1, hne.2.2.2.1, Nat.le_trans HQ.out.2.2.2 hst.size⟩, HKW.out.set1 ob 0 _ (.inl ⟨rfl, hne.2.2.1.2.2.2, hne.2.1.2.2.2⟩)⟩
      rw [HT.out]
      have h6 : w'.ownsRow base evT 3 (.slice a4 l4 c4) (toldW (evG p up ch) seen ++ [(⟨xs, xp, r⟩ : Wt)]).length ((toldW (evG p up ch) seen ++ [(⟨xs, xp, r⟩ : Wt)]).flatMap wcell) := by
        rw [flatMap_snoc, List.length_append]; simpa using HOW1.out
      exact ownsRow.kp h6 hst (fun i hi e => by have := (own_at HOW1.out hi).1; have := hne.2.1.2.2.2; omega)
  · intro seen cur W W' hI hk
    exact hI.kp hk (fun i hi => .inl hi)
  · intro seen cur W i hI he
    obtain ⟨v, h1, h2, h3⟩ := hI.out
    have hb := own_at h2 (i := i) (by rw [← h3, he])
    exact ⟨hb.1, hb.2, by have := hI.ne.2.2.2.1; omega⟩
  · rintro i ⟨rfl, h1, h2⟩
    exact ⟨h1, h2⟩
end Go.Proofs.YtnlefnhdhigecaaGreatDoor
