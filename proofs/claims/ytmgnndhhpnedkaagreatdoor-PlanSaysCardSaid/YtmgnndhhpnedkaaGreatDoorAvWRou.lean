/- Walks of package route: New, Of, Move. -/
import Derived.Test.YtmgnndhhpnedkaaGreatDoorAvWPathC
import Derived.Test.YtmgnndhhpnedkaaGreatDoorAvPlanLaw
import Derived.Test.YtmgnndhhpnedkaaGreatDoorAvApp2
namespace Go.Proofs.YtmgnndhhpnedkaaGreatDoor
set_option maxRecDepth 100000
open Go.RowKit Av

abbrev tbT : TypeId := 97
abbrev mvV (mv : Moved) : List (ByteArray × Value) := mv.map fun p => (p.1, Value.int .i64 p.2)
/-- A table at block b, its map at m. -/
structure TabAt (w : World) (b m sh : Nat) (mv : Moved) : Prop where
  blk : ∃ ver : Int, Blk w b #[.int .i64 sh, .int .i64 ver, .map (some m)] tbT
  map : MapK Value.string w m (mvV mv)
  ok : TabOk sh mv
  ne : b ≠ m
theorem TabAt.kp {S : Nat → Prop} {w w' : World} {b m sh : Nat} {mv : Moved} (h : TabAt w b m sh mv) (k : Kp S w w') (hb : ¬ S b) (hm : ¬ S m) : TabAt w' b m sh mv := by
  obtain ⟨ver, hv⟩ := h.blk
  exact ⟨⟨ver, hv.kp k hb⟩, h.map.kp k hm, h.ok, h.ne⟩
theorem TabAt.ext {w w' : World} {b m sh : Nat} {mv : Moved} (h : TabAt w b m sh mv) (k : Ext w w') : TabAt w' b m sh mv := h.kp k (fun f => f) (fun f => f)
theorem TabAt.lt {w : World} {b m sh : Nat} {mv : Moved} (h : TabAt w b m sh mv) : b < w.heap.size ∧ m < w.heap.size := by
  obtain ⟨ver, hv⟩ := h.blk
  exact ⟨hv.lt, h.map.lt⟩
theorem kSt : KOk Tryz.prog 9 Value.string := KOk.string Tryz.underlying9
theorem tMi : Tryz.prog.underlying 95 = some (.map 9 3) := Tryz.underlying95
theorem zInt (w : World) : (zeroValue 3).run Tryz.prog w = .ok (.int .i64 0) w := by kernel_rfl
set_option maxHeartbeats 800000 in
theorem rouNew_any (sh : Nat) (w : World) (h1 : 1 ≤ sh) (h4 : sh ≤ 4) : Calls Tryz.prog 25 #[.int .i64 sh] w fun e w' => e = .returned (.tuple #[.pointer (some ⟨w.heap.size + 1, 0, none⟩), .int .i64 0]) ∧ TabAt w' (w.heap.size + 1) w.heap.size sh [] ∧ Ext w w' := by
  have hmm := @run_makeMap Tryz.prog
  have a1 : ¬ (sh : Int) < 1 := by omega
  have a2 : ¬ (4 : Int) < (sh : Int) := by omega
  go_enter Tryz.func25, Tryz.ntmps25
  go_wp2_with (fail)
  go_ret2
  go_light
  refine ⟨rfl, ⟨⟨1, ?_⟩, ?_, ⟨h1, h4, by simp⟩, by omega⟩, ((Kp.refl _ _).alloc _).alloc _⟩
  · have := heap_alloc_new (w.alloc (.map #[] 0)) (.cells #[.int .i64 sh, .int .i64 1, .map (some w.heap.size)] tbT)
    rw [World.size_alloc] at this
    exact this
  · exact (MapK.new w).kp ((Kp.refl (fun _ => False) _).alloc _) (fun f => f)
theorem mget_mv (mv : Moved) (k : ByteArray) : mget (mvV mv) k = (mget mv k).map (Value.int .i64) := by
  induction mv with
  | nil => rfl
  | cons p r ih =>
    show mget ((p.1, Value.int .i64 p.2) :: mvV r) k = _
    unfold mget
    by_cases h : k = p.1
    · simp [h]
    · simp only [h, if_false]; exact ih
theorem topL_len (p : Bs) : (topL p).length ≤ 40 := by
  unfold topL
  cases h : partsL p with
  | nil => simp
  | cons x r =>
    have := (parts_name p x (by rw [h]; simp)).1
    simpa using (nameL_len x this).2
def OfRel (l : Bs) (s8 s27 : Value) : Prop := ∃ k : Nat, k ≤ l.length ∧ s27 = .int .i64 k ∧ s8 = .int .i64 (sumB (l.take k) : Int)
set_option maxHeartbeats 1600000 in
theorem rouOf_any (b m sh : Nat) (mv : Moved) (p : ByteArray) (w : World) (h : TabAt w b m sh mv) (hG : GL w) (hp : p.size ≤ maxLen) :
    Calls Tryz.prog 24 #[.pointer (some ⟨b, 0, none⟩), .string p] w fun e w' => e = .returned (.int .i64 (ofT sh mv p)) ∧ Ext w w' := by
  have HT := Lib.hid (pathTop_any p w hG hp)
  have HL := Lib.hid h
  obtain ⟨t, ht⟩ : ∃ t, topB p = t := ⟨_, rfl⟩
  have htl : t.data.toList = topL p.data.toList := by rw [← ht]; rfl
  have hto : ofT sh mv p = if t.data.toList = [] then -1 else (mget mv t).getD (((sumB t.data.toList % sh : Nat)) : Int) := by unfold ofT; rw [htl, ht]
  rw [show (⟨(topL p.data.toList).toArray⟩ : ByteArray) = t from ht] at HT
  rw [hto]
  have hsh := h.ok.sh1
  have hlen : t.size ≤ 40 := by rw [Lib.size_eq, htl]; exact topL_len _
  have HS : Hid (t.size = t.data.toList.length) := Lib.size_eq t
  clear h ht htl hto
  by_cases h0 : t.data.toList = []
  · rw [if_pos h0]
    have e0 : (t.toList == (⟨#[]⟩ : ByteArray).toList) = true := by rw [str_eq]; exact decide_eq_true (by apply bytes_eq; rw [h0])
    have e1 : t.toList = [] := by rw [Lib.toList_data]; exact h0
    have e2 : t.toList.isEmpty = true := by rw [e1]; rfl
    go_enter Tryz.func24, Tryz.ntmps24
    go_wp2_with (fail)
    refine HT.out.mono ?_
    rintro e w1 ⟨rfl, hx⟩
    go_wp2_with (fail)
    go_ret
    exact ⟨rfl, hx⟩
  · rw [if_neg h0]
    have e1 : ¬ t.toList = [] := by rw [Lib.toList_data]; exact h0
    have e2 : t.toList.isEmpty = false := by cases hh : t.toList with | nil => exact absurd hh e1 | cons _ _ => rfl
    go_enter Tryz.func24, Tryz.ntmps24
    go_wp2_with (fail)
    refine HT.out.mono ?_
    rintro e w1 ⟨rfl, hx⟩
    have HX := Lib.hid hx
    have hT1 := HL.out.ext hx
    obtain ⟨ver, hv⟩ := hT1.blk
    have hlk := MapK.lookup kSt tMi hT1.map (.int .i64 0) zInt t true
    rw [mget_mv] at hlk
    have c0 := hv.cell 0 _ rfl
    have c2 := hv.cell 2 _ rfl
    clear hx hT1 hv HT HL
    cases hm : mget mv t with
    | some s =>
      rw [hm] at hlk
      simp only [Option.map_some, Option.getD_some, Option.isSome_some, if_true] at hlk
      have HM := Lib.hid hm
      clear hm
      go_wp2_with (fail)
      go_ret
      exact ⟨by rw [HM.out]; rfl, HX.out⟩
    | none =>
      rw [hm] at hlk
      simp only [Option.map_none, Option.getD_none, Option.isSome_none, if_true] at hlk
      have HM := Lib.hid hm
      clear hm
      go_wp2_with (fail)
      go_loop [8, 27] (fun s8 s27 => OfRel t.data.toList s8 s27) (fun _ s27 => t.size - (intOf s27).toNat)
      case atStart => exact ⟨0, Nat.zero_le _, rfl, rfl⟩
      case round =>
        obtain ⟨k, hk, rfl, rfl⟩ := hrel
        have hsz := HS.out
        have hsb := sumB_le (t.data.toList.take k)
        rw [List.length_take] at hsb
        obtain ⟨n, hn⟩ : ∃ n, sumB (t.data.toList.take k) = n := ⟨_, rfl⟩
        rw [hn] at hsb
        rw [hn]
        have hnb : n ≤ 10200 := by omega
        by_cases hl : k < t.size
        · have hl' : k < t.data.toList.length := by omega
          have hgk : t.data.toList[k] = t[k] := by rw [Array.getElem_toList]; rfl
          have hb : t[k].toNat < 256 := t[k].toNat_lt
          have HN : Hid (sumB (t.data.toList.take (k + 1)) = n + t[k].toNat) := by show _ = _; rw [sumB_take _ hl', hn, hgk]
          have HH := Lib.hid hn
          clear hn hgk hsb hsz
          go_wp2_with (fail)
          go_light
          exact ⟨⟨k + 1, by omega, by go_num, by rw [HN.out]; go_num⟩, by simp [intOf]; omega⟩
        · have hkl : k = t.data.toList.length := by omega
          rw [hkl, List.take_length] at hn
          have HH := Lib.hid hn
          have hs0 : ((sh : Int) == 0) = false := beq_eq_false_iff_ne.2 (by omega)
          have e9 : (n : Int).tmod (sh : Int) = ((n % sh : Nat) : Int) := by rw [Int.tmod_eq_emod_of_nonneg (by omega)]; omega
          clear hn hsb hkl hsz
          go_wp2_with (fail)
          go_ret
          exact ⟨by rw [HM.out]; show _ = Ending.returned (Value.int .i64 ((sumB t.data.toList % sh : Nat) : Int)); rw [HH.out]; first | rfl | (go_light; rfl), HX.out⟩
end Go.Proofs.YtmgnndhhpnedkaaGreatDoor
