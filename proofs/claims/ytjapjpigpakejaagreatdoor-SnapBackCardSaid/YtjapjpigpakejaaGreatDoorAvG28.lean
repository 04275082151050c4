/- Texts put together: AvWRead, AvWText. -/
import Derived.Test.YtjapjpigpakejaaGreatDoorAvG3
import Derived.Laws.BytesArg
import Derived.WalkSpells
import Derived.Laws.BitsLemmas
import Derived.Laws.IdiomStrings

/- Walks of package pack: what reads bytes. -/
namespace Go.Proofs.YtjapjpigpakejaaGreatDoor
set_option maxRecDepth 100000
open Go.RowKit Av

/-- A reader of package pack at block g: what is left, or that something was not there. -/
def RdAt (w : World) (g : Nat) (s : Rd) : Prop :=
  ∃ v, Blk w g #[v, .bool s.isNone] 141 ∧ BytesR w v (s.getD []) ∧ (∀ b, v.ownBlock = some b → b < g) ∧ (s = none → v = .slice none 0 0)
theorem RdAt.kp {S : Nat → Prop} {w w' : World} {g : Nat} {s : Rd} (h : RdAt w g s) (k : Kp S w w') (hg : ¬ S g) (hS : ∀ i, i < g → S i → False) : RdAt w' g s := by
  obtain ⟨v, h1, h2, h3, h4⟩ := h
  exact ⟨v, h1.kp k hg, h2.kp k (fun b hb _ hs => hS b (h3 b hb) hs), h3, h4⟩
theorem RdAt.ext {w w' : World} {g : Nat} {s : Rd} (h : RdAt w g s) (k : Ext w w') : RdAt w' g s := h.kp k (fun f => f) (fun _ _ f => f)
theorem RdAt.lt {w : World} {g : Nat} {s : Rd} (h : RdAt w g s) : g < w.heap.size := by obtain ⟨v, h1, _⟩ := h; exact h1.lt

set_option maxHeartbeats 400000 in
theorem spoil_any (g : Nat) (s : Rd) (w : World) (h : RdAt w g s) :
    Calls Tryz.prog 112 #[.pointer (some ⟨g, 0, none⟩)] w fun e w' => e = .returned (.tuple #[]) ∧ RdAt w' g none ∧ Kp (fun i => i = g) w w' := by
  obtain ⟨v, h1, h2, h3, h4⟩ := h
  have c0 := h1.cell 0 v rfl
  have c1 := h1.cell 1 (.bool s.isNone) rfl
  have f0 := h1.free 0
  have f1 := h1.free 1
  have hb : Blk ((w.setCell ⟨g, 0, none⟩ (.slice none 0 0)).setCell ⟨g, 1, none⟩ (.bool true)) g #[.slice none 0 0, .bool true] 141 := (h1.set 0 _).set 1 _
  have hk : Kp (fun i => i = g) w ((w.setCell ⟨g, 0, none⟩ (.slice none 0 0)).setCell ⟨g, 1, none⟩ (.bool true)) := Kp.set1 (Kp.set1 (Kp.refl (fun i => i = g) w) g 0 _ rfl) g 1 _ rfl
  have HB := Lib.hid hb
  have HK := Lib.hid hk
  clear h1 h2 h3 h4 hb hk
  go_enter Tryz.func112, Tryz.ntmps112
  go_wp2_with (fail)
  go_end0
  go_light
  exact ⟨rfl, ⟨_, HB.out, BytesR.nil _, by intro b hb; simp [Value.ownBlock] at hb, fun _ => rfl⟩, HK.out⟩

theorem or_byte (U : Nat) (b : UInt8) (h : U < 72057594037927936) : bits .or .u64 (IntKind.u64.wrap ((U : Int) * 256)) (IntKind.u64.wrap (b.toNat : Int)) = ((U * 256 + b.toNat : Nat) : Int) := by
  have hb : b.toNat < 256 := b.toNat_lt
  rw [IntWalk.u64_in _ (by omega), IntWalk.u64_in _ (by omega)]
  have e1 : ((U : Int) * 256) = ((U * 256 : Nat) : Int) := by omega
  rw [e1, (bits_nat .u64 64 (by decide) (fun n h0 h1 => IntWalk.u64_in n (by omega)) (U * 256) b.toNat (by omega) (by omega)).2]
  congr 1
  have := Nat.shiftLeft_add_eq_or_of_lt (a := U) (b := b.toNat) (i := 8) hb
  rw [Nat.shiftLeft_eq] at this
  exact this.symm
theorem fold8_lt (l : Bs) : fold8 l < 256 ^ l.length := (beN_fold8 l.length l rfl).2
theorem fold8_take (l : Bs) (k : Nat) (hk : k < l.length) : fold8 (l.take (k + 1)) = fold8 (l.take k) * 256 + l[k].toNat := by
  rw [List.take_succ_eq_append_getElem hk, fold8_snoc]
theorem fold8_small (l : Bs) (k : Nat) (hk : k < 8) : fold8 (l.take k) < 72057594037927936 := by
  have h1 := fold8_lt (l.take k)
  have h2 : (l.take k).length ≤ 7 := by rw [List.length_take]; omega
  have h3 : 256 ^ (l.take k).length ≤ 256 ^ 7 := Nat.pow_le_pow_right (by decide) h2
  omega
/-- What is left behind k bytes. -/
theorem rd_cut {w : World} {g b off c : Nat} {l : Bs} {v v' : Value} (h1 : Blk w g #[v, .bool false] 141) (hb : b < w.heap.size) (hc : ∀ i (hi : i < l.length), w.cell? ⟨b, off + i, none⟩ = some (byteV l[i])) (hm : l.length ≤ maxLen) (hg : b < g) (k : Nat) (_hk : k ≤ l.length) (hcc : l.length ≤ c)
    (hv : (l.length = k ∧ v' = .slice (some ⟨b, off, none⟩) (l.length - k) 0) ∨ v' = .slice (some ⟨b, off + k, none⟩) (l.length - k) (c - k)) : RdAt (w.setCell ⟨g, 0, none⟩ v') g (some (l.drop k)) ∧ Kp (fun i => i = g) w (w.setCell ⟨g, 0, none⟩ v') := by
  have hk1 : Kp (fun i => i = g) w (w.setCell ⟨g, 0, none⟩ v') := Kp.set1 (Kp.refl (fun i => i = g) w) g 0 _ rfl
  refine ⟨⟨v', h1.set 0 _, ?_, ?_, fun h => by cases h⟩, hk1⟩
  · have hlen : (l.drop k).length = l.length - k := List.length_drop
    rcases hv with ⟨h0, rfl⟩ | rfl
    · refine ⟨⟨by simp, by simp; omega, _, _, by simp; exact ⟨rfl, rfl⟩, by simp; omega, .inl (by simp; omega)⟩, Shp.some⟩
    · refine ⟨⟨by simp, by simp; omega, _, _, by simp; exact ⟨rfl, rfl⟩, by simp; omega, ?_⟩, Shp.some⟩
      right
      refine ⟨b, off + k, rfl, by rw [show (w.setCell ⟨g, 0, none⟩ _).heap.size = w.heap.size by simp [World.setCell]]; exact hb, fun i x hx => ?_⟩
      refine hk1.cell ?_ (fun e => Nat.ne_of_lt hg e)
      simp only [Option.getD_some] at hx
      rw [List.getElem?_map, List.getElem?_drop] at hx
      have hi : k + i < l.length := by
        rcases Nat.lt_or_ge (k + i) l.length with h | h
        · exact h
        · rw [List.getElem?_eq_none h] at hx; simp at hx
      rw [List.getElem?_eq_getElem hi] at hx
      simp only [Option.map_some, Option.some.injEq] at hx
      rw [← hx, Nat.add_assoc]
      exact hc (k + i) hi
  · rcases hv with ⟨h0, rfl⟩ | rfl
    · intro b' hb'; simp [Value.ownBlock] at hb'; omega
    · intro b' hb'; simp [Value.ownBlock] at hb'; omega
/-- The loop that reads eight bytes. -/
def GetRel (w : World) (l : Bs) (u i : Value) (wr : World) : Prop :=
  ∃ k : Nat, k ≤ 8 ∧ i = .int .i64 k ∧ u = .int .u64 (fold8 (l.take k) : Nat) ∧ w = wr
set_option maxHeartbeats 1600000 in
theorem rdI64_any (g : Nat) (s : Rd) (w : World) (h : RdAt w g s) :
    Calls Tryz.prog 111 #[.pointer (some ⟨g, 0, none⟩)] w fun e w' => e = .returned (.int .i64 (rdI s).1) ∧ RdAt w' g (rdI s).2 ∧ Kp (fun i => i = g) w w' := by
  have HSP := Lib.hid (spoil_any g s w h)
  obtain ⟨v, h1, h2, h3, h4⟩ := h
  have c0 := h1.cell 0 v rfl
  have c1 := h1.cell 1 (.bool s.isNone) rfl
  have f0 := h1.free 0
  obtain ⟨a, c, rfl, hcc, hm, hop⟩ := BytesR.open h2
  unfold maxLen at hm
  by_cases h8 : 8 ≤ (s.getD []).length
  · obtain ⟨l, rfl⟩ : ∃ l, s = some l := by
      cases s with
      | none => simp at h8
      | some l => exact ⟨l, rfl⟩
    simp only [Option.getD_some] at *
    obtain ⟨b, off, rfl, hb, hc⟩ := hop (by omega)
    have HC := Lib.hid hc
    have HR : Hid (rdI (some l) = (un8 (l.take 8), some (l.drop 8))) := by
      show _ = _
      show (if 8 ≤ l.length then (un8 (l.take 8), some (l.drop 8)) else (0, none)) = _
      rw [if_pos h8]
    have h8' : (8 : Int) ≤ l.length := by omega
    have HCUT := Lib.hid (fun v' k hk hcc hv => rd_cut (v' := v') (c := c) h1 hb hc (by unfold maxLen; omega) (h3 b rfl) k hk hcc hv)
    have hc8 : 8 ≤ c := by omega
    clear h1 h2 h3 h4 hop hc
    go_enter Tryz.func111, Tryz.ntmps111
    go_wp2_with (fail)
    go_loop [3, 20] (fun u i => GetRel w l u i w) (fun _ i => 8 - (intOf i).toNat)
    case atStart => exact ⟨0, by omega, rfl, rfl, rfl⟩
    case round =>
      obtain ⟨k, hk, rfl, rfl, _⟩ := hrel
      by_cases hlt : k < 8
      · have hkl : k < l.length := by omega
        have hcell := HC.out k hkl
        unfold byteV at hcell
        have HOB := Lib.hid (or_byte (fold8 (l.take k)) l[k] (fold8_small l k hlt))
        have HF := Lib.hid (fold8_take l k hkl)
        go_wp2_with (fail)
        go_light
        exact ⟨⟨k + 1, by omega, by go_num, by rw [HOB.out, HF.out], rfl⟩, by simp [intOf]; omega⟩
      · obtain rfl : k = 8 := by omega
        have hw64 : IntKind.i64.wrap (fold8 (l.take 8) : Nat) = un8 (l.take 8) := by unfold un8; rw [wrap64_eq, IntKind.wrap_i64]
        have HW := Lib.hid hw64
        clear hw64
        go_wp2_with (fail)
        all_goals
          go_ret
          go_light
          first
          | (have hrd := (HCUT.out _ 8 h8 hcc (.inl ⟨by omega, rfl⟩)); rw [HR.out]; exact ⟨rfl, hrd.1, hrd.2⟩)
          | (have hrd := (HCUT.out _ 8 h8 hcc (.inr rfl)); rw [HR.out]; exact ⟨rfl, hrd.1, hrd.2⟩)
  · have HR : Hid (rdI s = (0, none)) := by
      show _ = _
      cases s with
      | none => rfl
      | some l =>
        exact if_neg h8
    clear h1 h2 h3 h4 hop
    go_enter Tryz.func111, Tryz.ntmps111
    go_wp2_with (fail)
    refine (HSP.out).mono ?_
    rintro e w1 ⟨rfl, hr, hk⟩
    go_wp2_with (fail)
    go_ret
    go_light
    exact ⟨by rw [HR.out]; rfl, by rw [HR.out]; exact hr, hk⟩

set_option maxHeartbeats 800000 in
theorem rdCount_any (g : Nat) (s : Rd) (most : Int) (w : World) (h : RdAt w g s) :
    Calls Tryz.prog 87 #[.pointer (some ⟨g, 0, none⟩), .int .i64 most] w fun e w' => e = .returned (.int .i64 (rdC most s).1) ∧ RdAt w' g (rdC most s).2 ∧ Kp (fun i => i = g) w w' := by
  have HI := Lib.hid (rdI64_any g s w h)
  have hi64 : I64 (rdI s).1 := by
    cases s with
    | none => exact ⟨by decide, by decide⟩
    | some l =>
      show I64 (if 8 ≤ l.length then (un8 (l.take 8), some (l.drop 8)) else (0, none)).1
      split
      · rename_i h8; exact (be8_un8 _ (by simp; omega)).2
      · exact ⟨by decide, by decide⟩
  have HC : Hid (∀ v s', rdI s = (v, s') → rdC most s = if v < 0 ∨ most < v then (0, none) else (v, s')) := by
    show ∀ v s', _ → _
    intro v s' e
    unfold rdC
    rw [e]
  obtain ⟨⟨v, s'⟩, hv⟩ : ∃ p, rdI s = p := ⟨_, rfl⟩
  rw [hv] at HI hi64
  have HC' := Lib.hid (HC.out v s' hv)
  obtain ⟨i0, i1⟩ := hi64
  simp only at HI i0 i1
  clear hv HC h
  by_cases c1 : v < 0
  · have HR : Hid (rdC most s = (0, none)) := by show _ = _; rw [HC'.out, if_pos (.inl c1)]
    go_enter Tryz.func87, Tryz.ntmps87
    go_wp2_with (fail)
    refine (HI.out).mono ?_
    rintro e w1 ⟨rfl, hr, hk⟩
    go_wp2_with (fail)
    refine (spoil_any g s' w1 hr).mono ?_
    rintro e w2 ⟨rfl, hr2, hk2⟩
    go_wp2_with (fail)
    go_ret
    go_light
    exact ⟨by rw [HR.out]; rfl, by rw [HR.out]; exact hr2, hk.trans hk2⟩
  · by_cases c2 : most < v
    · have HR : Hid (rdC most s = (0, none)) := by show _ = _; rw [HC'.out, if_pos (.inr c2)]
      go_enter Tryz.func87, Tryz.ntmps87
      go_wp2_with (fail)
      refine (HI.out).mono ?_
      rintro e w1 ⟨rfl, hr, hk⟩
      go_wp2_with (fail)
      refine (spoil_any g s' w1 hr).mono ?_
      rintro e w2 ⟨rfl, hr2, hk2⟩
      go_wp2_with (fail)
      go_ret
      go_light
      exact ⟨by rw [HR.out]; rfl, by rw [HR.out]; exact hr2, hk.trans hk2⟩
    · have HR : Hid (rdC most s = (v, s')) := by show _ = _; rw [HC'.out, if_neg (by omega)]
      go_enter Tryz.func87, Tryz.ntmps87
      go_wp2_with (fail)
      refine (HI.out).mono ?_
      rintro e w1 ⟨rfl, hr, hk⟩
      go_wp2_with (fail)
      go_ret
      go_light
      exact ⟨by rw [HR.out]; rfl, by rw [HR.out]; exact hr, hk⟩

set_option maxHeartbeats 400000 in
theorem rdEnd_any (g : Nat) (s : Rd) (w : World) (h : RdAt w g s) :
    Calls Tryz.prog 90 #[.pointer (some ⟨g, 0, none⟩)] w fun e w' => e = .returned (.bool (decide (s = some []))) ∧ w = w' := by
  obtain ⟨v, h1, h2, h3, h4⟩ := h
  have c0 := h1.cell 0 v rfl
  have c1 := h1.cell 1 (.bool s.isNone) rfl
  obtain ⟨a, c, rfl, hcc, hm, hop⟩ := BytesR.open h2
  clear h1 h2 h3 h4 hop
  cases s with
  | none =>
    go_enter Tryz.func90, Tryz.ntmps90
    go_wp2_with (fail)
    go_ret
    go_light
    exact ⟨rfl, rfl⟩
  | some l =>
    simp only [Option.getD_some, Option.isNone_some] at *
    by_cases h0 : l.length = 0
    · obtain rfl : l = [] := List.length_eq_zero_iff.1 h0
      go_enter Tryz.func90, Tryz.ntmps90
      go_wp2_with (fail)
      go_ret
      go_light
      exact ⟨rfl, rfl⟩
    · have h0' : ((l.length : Int) == 0) = false := by rw [beq_eq_false_iff_ne]; omega
      have HR : Hid (decide ((some l : Rd) = some []) = false) := by
        show _ = _
        rw [decide_eq_false_iff_not]
        intro e
        simp only [Option.some.injEq] at e
        exact h0 (by rw [e]; rfl)
      clear h0
      go_enter Tryz.func90, Tryz.ntmps90
      go_wp2_with (fail)
      go_ret
      go_light
      exact ⟨ret_bool HR.out.symm, rfl⟩
end Go.Proofs.YtjapjpigpakejaaGreatDoor

/- Walks of package pack: Read, Text. -/
namespace Go.Proofs.YtjapjpigpakejaaGreatDoor
set_option maxRecDepth 100000
open Go.RowKit Av

theorem OwnBy.lt {w : World} {base : Nat} {v : Value} {bs : Bs} (h : OwnBy w base v bs) : ∀ b, v.ownBlock = some b → b < w.heap.size := by
  obtain ⟨_, h2⟩ := h
  rcases h2 with ⟨rfl, _⟩ | ⟨g, cap, cur, rfl, hb, hg, _⟩
  · intro b hb; simp [Value.ownBlock] at hb
  · intro b hb'
    simp [Value.ownBlock] at hb'
    subst hb'
    exact (Array.getElem?_eq_some_iff.1 hg).1
set_option maxHeartbeats 800000 in
theorem packRead_any (v : Value) (bs : Bs) (w : World) (hb : BytesR w v bs) (hl : bs.length ≤ 1000000000) :
    Calls Tryz.prog 86 #[v] w fun e w' => ∃ g, e = .returned (.pointer (some ⟨g, 0, none⟩)) ∧ w.heap.size ≤ g ∧ RdAt w' g (some bs) ∧ Ext w w' := by
  have HB := Lib.hid (hb.ext ((Kp.refl _ w).alloc (.cells #[] 5)))
  have HSH := Lib.hid hb.2
  have hw := OwnBy.empty w
  clear hb
  go_enter Tryz.func86, Tryz.ntmps86
  go_wp2_with (at_builtin; refine wpList_appK 66 5 1 (by decide) byte_facts rfl _ _ rfl w.heap.size _ _ _ rfl hw _ bs.length (bs.map byteV) rfl HB.out.1 HSH.out (byteV_one bs) ?c1 ?c2 ?_)
  case c1 => simp only [List.length_nil]; omega
  case c2 => simp
  intro v1 w1 h1 k1
  have h1' : OwnBy w1 w.heap.size v1 bs := by unfold OwnBy; simpa using h1
  have hx1 : Ext w w1 := ((Kp.refl (fun _ => False) w).alloc (.cells #[] 5)).next k1 (fun i hi e => by simp [Value.ownBlock] at e; omega)
  have hr : RdAt (w1.alloc (.cells #[v1, .bool false] 141)) w1.heap.size (some bs) :=
    ⟨v1, heap_alloc_new w1 _, h1'.bytes.ext ((Kp.refl _ w1).alloc _), fun b hb => OwnBy.lt h1' b hb, fun h => by cases h⟩
  have HR := Lib.hid hr
  have HX := Lib.hid (hx1.alloc (.cells #[v1, .bool false] 141))
  have hsz := hx1.size
  have hsl : ∃ a1 l1 c1, v1 = .slice a1 l1 c1 := by obtain ⟨a1, c1, e, _⟩ := BytesR.open h1'.bytes; exact ⟨_, _, _, e⟩
  clear hw h1 k1 h1' hr hx1
  obtain ⟨a1, l1, c1, rfl⟩ := hsl
  go_wp2_with (fail)
  go_ret
  go_light
  exact ⟨_, rfl, hsz, HR.out, HX.out⟩

theorem conv_any (w : World) (a : Option Addr) (k c : Nat) (l : Bs) (hk : k ≤ l.length) (ha : 0 < k → ∃ b off, a = some ⟨b, off, none⟩ ∧ ∀ j (hj : j < l.length), w.cell? ⟨b, off + j, none⟩ = some (byteV l[j])) :
    (convert 66 9 (.slice a k c)).run Tryz.prog w = .ok (.string ⟨(l.take k).toArray⟩) w := by
  have hlen : (l.take k).length = k := by rw [List.length_take]; omega
  cases a with
  | none =>
    have h0 : k = 0 := by
      rcases Nat.eq_zero_or_pos k with h | h
      · exact h
      · obtain ⟨b, off, e, _⟩ := ha h
        cases e
    subst h0
    rw [run_convert_bytes_string w _ _ 5 none 0 c Tryz.underlying66 Tryz.underlying5 Tryz.underlying9]
    simp [Conv.bytesToString, Sem.run_pure]
    rfl
  | some ad =>
    have := run_convert_bytes_back (P := Tryz.prog) w 66 9 5 ad c (l.take k) Tryz.underlying66 Tryz.underlying5 Tryz.underlying9 (fun j hj => by
      rw [hlen] at hj
      obtain ⟨b, off, e, hc⟩ := ha (by omega)
      obtain rfl : ad = ⟨b, off, none⟩ := by simpa using e
      rw [show (⟨b, off, none⟩ : Addr).add j = ⟨b, off + j, none⟩ by by_cases h : j = 0 <;> simp [Addr.add, h]]
      rw [hc j (by omega), List.getElem_take]
      rfl)
    rwa [hlen] at this
theorem rdC_none' {most v : Int} {s : Rd} (h : rdC most s = (v, none)) : v = 0 := by
  unfold rdC at h
  split at h
  · exact (Prod.mk.inj h).1.symm
  · cases s with
    | none => exact (Prod.mk.inj h).1.symm
    | some l =>
      change (if 8 ≤ l.length then (un8 (l.take 8), some (l.drop 8)) else (0, none)) = _ at h
      split at h
      · cases h
      · exact (Prod.mk.inj h).1.symm
theorem rdT_few {most : Int} {s : Rd} {n : Nat} {l : Bs} (h : rdC most s = ((n : Int), some l)) (hl : l.length < n) : rdT most s = ([], none) := by
  unfold rdT
  rw [h]
  show (if l.length < ((n : Int)).toNat then ([], none) else (l.take ((n : Int)).toNat, some (l.drop ((n : Int)).toNat))) = _
  rw [Int.toNat_natCast]
  exact if_pos hl

set_option maxHeartbeats 1600000 in
theorem rdText_any (g : Nat) (s : Rd) (most : Int) (w : World) (h : RdAt w g s) :
    Calls Tryz.prog 88 #[.pointer (some ⟨g, 0, none⟩), .int .i64 most] w fun e w' => e = .returned (.string ⟨(rdT most s).1.toArray⟩) ∧ RdAt w' g (rdT most s).2 ∧ Kp (fun i => i = g) w w' := by
  have HC := Lib.hid (rdCount_any g s most w h)
  clear h
  obtain ⟨⟨v, s'⟩, hv⟩ : ∃ p, rdC most s = p := ⟨_, rfl⟩
  rw [hv] at HC
  simp only at HC
  cases s' with
  | none =>
    obtain rfl := rdC_none' hv
    have HR : Hid (rdT most s = ([], none)) := by show _ = _; unfold rdT; rw [hv]
    clear hv
    go_enter Tryz.func88, Tryz.ntmps88
    go_wp2_with (fail)
    refine (HC.out).mono ?_
    rintro e w1 ⟨rfl, hr, hk⟩
    obtain ⟨v, b1, b2, b3, b4⟩ := hr
    obtain rfl := b4 rfl
    have c0 := b1.cell 0 _ rfl
    have f0 := b1.free 0
    have hcv := conv_any w1 none 0 0 [] (Nat.le_refl _) (fun h => absurd h (by decide))
    have hb : Blk (w1.setCell ⟨g, 0, none⟩ (.slice none 0 0)) g #[.slice none 0 0, .bool true] 141 := b1.set 0 _
    have HB := Lib.hid (show RdAt _ g none from ⟨_, hb, BytesR.nil _, b3, fun _ => rfl⟩)
    have HK := Lib.hid (Kp.set1 hk g 0 (.slice none 0 0) rfl)
    clear b1 b2 b3 b4 hb hk
    go_wp2_with (fail)
    go_ret
    go_light
    exact ⟨ret_val (by rw [HR.out]; rfl), by rw [HR.out]; exact HB.out, HK.out⟩
  | some l =>
    obtain ⟨n, rfl⟩ : ∃ n : Nat, v = n := ⟨v.toNat, by have := (rdC_some hv).2.2.1; omega⟩
    by_cases hn : l.length < n
    · have HR : Hid (rdT most s = ([], none)) := rdT_few hv hn
      clear hv
      go_enter Tryz.func88, Tryz.ntmps88
      go_wp2_with (fail)
      refine (HC.out).mono ?_
      rintro e w1 ⟨rfl, hr, hk⟩
      have HSP := Lib.hid (spoil_any g (some l) w1 hr)
      obtain ⟨v, b1, b2, b3, b4⟩ := hr
      have c0 := b1.cell 0 _ rfl
      obtain ⟨a, c, rfl, hcc, hm, hop⟩ := BytesR.open b2
      simp only [Option.getD_some] at *
      have hn' : (l.length : Int) < n := by omega
      clear b1 b2 b3 b4 hop
      go_wp2_with (fail)
      refine HSP.out.mono ?_
      rintro e w2 ⟨rfl, hr2, hk2⟩
      go_wp2_with (fail)
      go_ret
      go_light
      exact ⟨ret_val (by rw [HR.out]; rfl), by rw [HR.out]; exact hr2, hk.trans hk2⟩
    · have HR : Hid (rdT most s = (l.take n, some (l.drop n))) := rdT_of hv (by omega)
      clear hv
      go_enter Tryz.func88, Tryz.ntmps88
      go_wp2_with (fail)
      refine (HC.out).mono ?_
      rintro e w1 ⟨rfl, hr, hk⟩
      obtain ⟨v, b1, b2, b3, b4⟩ := hr
      have c0 := b1.cell 0 _ rfl
      have f0 := b1.free 0
      have hshp := b2.2
      obtain ⟨a, c, rfl, hcc, hm, hop⟩ := BytesR.open b2
      simp only [Option.getD_some, Option.isNone_some] at *
      have hn' : (n : Int) ≤ l.length := by omega
      have hnc : n ≤ c := by omega
      have hcv := conv_any w1 a n c l (by omega) (fun h => by obtain ⟨b, off, e, _, hc⟩ := hop (by omega); exact ⟨b, off, e, hc⟩)
      by_cases h0 : l.length = 0
      · obtain rfl : l = [] := List.length_eq_zero_iff.1 h0
        obtain rfl : n = 0 := by simp at hn'; omega
        have HK := Lib.hid (fun v' => Kp.set1 hk g 0 v' rfl)
        have HB : Hid (∀ v', BytesR w1 v' [] → v'.ownBlock = (Value.slice a 0 c).ownBlock → RdAt (w1.setCell ⟨g, 0, none⟩ v') g (some [])) := by
          show ∀ v', _
          intro v' hv1 hv2
          refine ⟨v', b1.set 0 _, ?_, by rw [hv2]; exact b3, fun h => by cases h⟩
          exact hv1.kp (Kp.set1 (Kp.refl (fun i => i = g) w1) g 0 v' rfl) (fun b hb _ => by rw [hv2] at hb; exact Nat.ne_of_lt (b3 b hb))
        clear b1 b2 b3 b4 hop hk
        rcases hshp with hs | ⟨ad, l', c', hs⟩
        · simp at hs
          obtain ⟨rfl, rfl⟩ := hs
          go_wp2_with (fail)
          go_ret
          go_light
          exact ⟨ret_val (by rw [HR.out]; rfl), by rw [HR.out]; exact HB.out _ (BytesR.nil _) rfl, HK.out _⟩
        · simp at hs
          obtain ⟨rfl, rfl, rfl⟩ := hs
          go_wp2_with (fail)
          all_goals
            go_ret
            go_light
            refine ⟨ret_val (by rw [HR.out]; rfl), ?_, HK.out _⟩
            rw [HR.out]
            refine HB.out _ ⟨⟨rfl, by decide, _, _, rfl, by omega, .inl rfl⟩, Shp.some⟩ ?_
            simp [Value.ownBlock]
      · obtain ⟨b, off, rfl, hb, hc⟩ := hop (by omega)
        have HCUT := Lib.hid (fun v' k hk hcc hv => rd_cut (v' := v') (c := c) b1 hb hc (by unfold maxLen at hm ⊢; omega) (b3 b rfl) k hk hcc hv)
        clear b1 b2 b3 b4 hop hc
        go_wp2_with (fail)
        all_goals
          go_ret
          go_light
          first
          | (have hrd := (HCUT.out _ n (by omega) hcc (.inl ⟨by omega, rfl⟩)); rw [HR.out]; exact ⟨rfl, hrd.1, hk.trans hrd.2⟩)
          | (have hrd := (HCUT.out _ n (by omega) hcc (.inr rfl)); rw [HR.out]; exact ⟨rfl, hrd.1, hk.trans hrd.2⟩)
end Go.Proofs.YtjapjpigpakejaaGreatDoor
