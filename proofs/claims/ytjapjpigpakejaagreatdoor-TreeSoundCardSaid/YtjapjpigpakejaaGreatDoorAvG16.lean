/- Texts put together: AvWPathB, AvWRefA. -/
import Derived.Test.YtjapjpigpakejaaGreatDoorAvG15
import Derived.StillTailTactics
import Derived.IntWalk

/- Walks of package path: Parts, Parent. -/
namespace Go.Proofs.YtjapjpigpakejaaGreatDoor
set_option maxRecDepth 100000
open Go.RowKit Av

/-- A slice of the pieces, of its own. -/
def PartsPost (w : World) (l : List Bs) (e : Ending) (w' : World) : Prop :=
  ∃ (v : Value) (ps : List ByteArray), e = .returned v ∧ ps.map (·.data.toList) = l ∧ Strs w' v ps ∧ Ext w w'

theorem extract_tail (p : ByteArray) (t : Bs) (h : p.data.toList = 47 :: t) : (p.extract 1 p.size).data.toList = t := by
  rw [Lib.extract_data, h, Lib.size_eq, h]; simp

set_option maxHeartbeats 400000 in
theorem Parts_any (p : ByteArray) (w : World) (hG : GL w) (hp : p.size ≤ maxLen) :
    Calls Tryz.prog 110 #[.string p] w fun e w' => PartsPost w (partsL p.data.toList) e w' := by
  have HGd := Lib.hid (Good_any p w hG hp)
  unfold maxLen at hp
  by_cases hg : goodL p.data.toList = true
  · obtain ⟨t, ht, h1, h2, h3, h4⟩ := good_head _ hg
    have h200 : p.size ≤ 200 := by rw [Lib.size_eq, ht]; simp; omega
    have h0 : 1 ≤ p.size := by rw [Lib.size_eq, ht]; simp
    have HX := Lib.hid (extract_tail p t ht)
    have H4 := Lib.hid h4
    have hsz : (p.extract 1 p.size).size < 4294967281 := by rw [Lib.size_eq, HX.out]; omega
    have HZ := Lib.hid hsz
    have HG := Lib.hid hg
    clear hg ht h1 h2 h3 h4 hsz
    go_enter Tryz.func110, Tryz.ntmps110
    go_wp2_with (fail)
    refine HGd.out.mono ?_
    rintro e w' ⟨rfl, hx⟩
    rw [HG.out]
    go_wp2_with (fail)
    refine (Split_any _ _ (hG.ext hx) HZ.out).mono ?_
    rintro e w1 ⟨b, ps, hps, rfl, hn, hb, hc, hx1⟩
    go_wp2_with (fail)
    go_ret
    go_light
    exact ⟨.slice (some ⟨b, 0, none⟩) ps.length ps.length, ps, rfl, by rw [hps, HX.out, H4.out], Strs.of_cells hn (Nat.le_refl _) hb (fun i hi => by rw [Nat.zero_add]; exact hc i hi), hx.ext hx1⟩
  · have HG : Hid (goodL p.data.toList = false) := by show goodL p.data.toList = false; simpa using hg
    clear hg
    go_enter Tryz.func110, Tryz.ntmps110
    go_wp2_with (fail)
    refine HGd.out.mono ?_
    rintro e w' ⟨rfl, hx⟩
    rw [HG.out]
    go_wp2_with (fail)
    go_ret
    exact ⟨.slice none 0 0, [], rfl, by simp [partsL, HG.out], Strs.nil _, hx⟩

theorem Join_any (v : Value) (xs : List ByteArray) (w : World) (h : Strs w v xs) (hn : xs.length ≤ 140737488355328) (hl : (Lib.join (xs.map (·.data.toList)) [47]).length ≤ 140737488355328) :
    Calls Tryz.prog 114 #[v, .string ⟨#[47]⟩] w fun e w' => e = .returned (.string ⟨(Lib.join (xs.map (·.data.toList)) [47]).toArray⟩) ∧ Ext w w' := by
  obtain ⟨a, c, rfl, hcc, hm, ho⟩ := Strs.open h
  by_cases h0 : 0 < xs.length
  · obtain ⟨b, off, rfl, hb, hc⟩ := ho h0
    refine (Tryz.strings_Join b off c xs ⟨#[47]⟩ w (fun j x hx => ?_) hb hn hcc hl).mono fun e w' hh => ⟨hh.1, Kp.of_below hh.2⟩
    obtain ⟨hj, rfl⟩ := List.getElem?_eq_some_iff.1 hx
    exact hc j hj
  · have : xs = [] := List.eq_nil_of_length_eq_zero (by omega)
    subst this
    exact (Tryz.strings_Join_none a c ⟨#[47]⟩ w).mono fun e w' hh => ⟨hh.1, hh.2 ▸ Kp.refl _ _⟩

theorem parent_none (p : Bs) (h : (partsL p).length < 2) : parentL p = none := by simp [parentL, h]
theorem parent_some (p : Bs) (h : 2 ≤ (partsL p).length) : parentL p = some (ofL (partsL p).dropLast) := by
  unfold parentL; rw [if_neg (by omega)]

set_option maxHeartbeats 400000 in
theorem Parent_any (p : ByteArray) (w : World) (hG : GL w) (hp : p.size ≤ maxLen) :
    Calls Tryz.prog 91 #[.string p] w fun e w' => e = .returned (.tuple #[.string (optS (parentL p.data.toList)), .bool (parentL p.data.toList).isSome]) ∧ Ext w w' := by
  have HPt := Lib.hid (Parts_any p w hG hp)
  by_cases hn : 2 ≤ (partsL p.data.toList).length
  · go_enter Tryz.func91, Tryz.ntmps91
    go_wp2_with (fail)
    refine HPt.out.mono ?_
    rintro e w1 ⟨v, ps, rfl, hps, hst, hx⟩
    have hl : ps.length = (partsL p.data.toList).length := by rw [← hps]; simp
    have h2 : 2 ≤ ps.length := by omega
    have h8 : ps.length ≤ 8 := by rw [hl]; exact parts_len _
    have HPS := Lib.hid hps
    obtain ⟨a', c', rfl, hcc, hm, hopen⟩ := Strs.open hst
    obtain ⟨b, off, rfl, hb, hc⟩ := hopen (by omega)
    have hd : ps.dropLast.map (·.data.toList) = (partsL p.data.toList).dropLast := by rw [← hps, List.map_dropLast]
    have hj : 47 :: Lib.join (ps.dropLast.map (·.data.toList)) [47] = ofL (partsL p.data.toList).dropLast := by
      rw [join_ofL _ (by intro e; have := congrArg List.length e; simp at this; omega), hd]
    have hjl := parent_len p.data.toList
    rw [← hj] at hjl
    have hs : Strs w1 (.slice (some ⟨b, off, none⟩) (ps.length - 1) c') ps.dropLast := by
      have e : ps.length - 1 = ps.dropLast.length := by simp
      rw [e]
      exact Strs.of_cells (by simp; omega) (by simp; omega) hb (fun i hi => by rw [List.getElem_dropLast]; exact hc i _)
    have hcon := Join_any _ _ _ hs (by simp; omega) (by simp only [List.length_cons] at hjl; omega)
    have HJ := Lib.hid (parent_some _ hn)
    generalize Lib.join (ps.dropLast.map (·.data.toList)) [47] = J at hj hjl hcon
    have HCON := Lib.hid hcon
    have HJ2 := Lib.hid hj
    have hjl' : J.length ≤ 199 := by simp only [List.length_cons] at hjl; omega
    clear hl hps hst hopen hn hc hj hjl hcon hs hd
    go_wp2_with (fail)
    refine HCON.out.mono ?_
    rintro e w2 ⟨rfl, hx2⟩
    go_wp2_with (fail)
    go_ret2
    go_light
    refine ⟨?_, hx.ext hx2⟩
    rw [HJ.out, ← HJ2.out]
    show Ending.returned (.tuple #[.string (⟨[47].toArray⟩ ++ ⟨J.toArray⟩), .bool true]) = _
    rw [bytes_append]; rfl
  · go_enter Tryz.func91, Tryz.ntmps91
    go_wp2_with (fail)
    refine HPt.out.mono ?_
    rintro e w1 ⟨v, ps, rfl, hps, hst, hx⟩
    have hl : ps.length = (partsL p.data.toList).length := by rw [← hps]; simp
    have h2 : ps.length < 2 := by omega
    obtain ⟨a', c', rfl, hcc, hm, hopen⟩ := Strs.open hst
    clear hl hps hst hopen
    go_wp2_with (fail)
    go_ret2
    exact ⟨by rw [parent_none _ (by omega)]; rfl, hx⟩

end Go.Proofs.YtjapjpigpakejaaGreatDoor

/- Walks of package aviaryref1: Cut, IsName. -/
namespace Go.Proofs.YtjapjpigpakejaaGreatDoor
set_option maxRecDepth 100000
open Go.RowKit Av

theorem str_facts : Tryz.prog.underlying 33 = some (.slice 9) ∧ (Tryz.prog.info? 9).map (fun i => (i.zero.map fun z => z.cells.size, i.size, decide (i.bytes ≤ 64))) = some (some 1, 1, true) := ⟨by kernel_rfl, by kernel_rfl⟩

/-- A slice of strings that a call owns from block base on. -/
def OwnS (w : World) (base : Nat) (v : Value) (xs : List ByteArray) : Prop := w.ownsRow base 9 1 v xs.length (xs.map Value.string)

theorem OwnS.cell {w : World} {base g cap n : Nat} {ps : List ByteArray} (h : OwnS w base (.slice (some ⟨g, 0, none⟩) n cap) ps) (i : Nat) (hi : i < ps.length) : w.cell? ⟨g, i, none⟩ = some (.string ps[i]) := by
  have hn : n = ps.length := by have := h.1; rcases h.2 with ⟨h', _⟩ | ⟨_, _, _, h', _⟩ <;> simp_all
  subst hn
  have := World.ownsRow.cellAt h i (by omega)
  rw [this, List.getElem?_map, List.getElem?_eq_getElem hi]; rfl
theorem OwnS.open {w : World} {base : Nat} {v : Value} {ps : List ByteArray} (h : OwnS w base v ps) (hn : 0 < ps.length) :
    ∃ g cap, v = .slice (some ⟨g, 0, none⟩) ps.length cap ∧ base ≤ g ∧ g < w.heap.size ∧ ps.length ≤ cap ∧ cap ≤ maxLen := by
  rcases h.2 with ⟨_, h0⟩ | ⟨g, cap, cur, h1, h2, h3, h4, h5, _⟩
  · omega
  · exact ⟨g, cap, h1, h2, (Array.getElem?_eq_some_iff.1 h3).1, h4, h5⟩
theorem OwnS.strs {w : World} {base : Nat} {v : Value} {ps : List ByteArray} (h : OwnS w base v ps) : Strs w v ps := Strs.of_owns h
theorem OwnS.set {w : World} {base g cap n : Nat} {ps : List ByteArray} (h : OwnS w base (.slice (some ⟨g, 0, none⟩) n cap) ps) (i : Nat) (x : ByteArray) :
    OwnS (w.setCell ⟨g, i, none⟩ (.string x)) base (.slice (some ⟨g, 0, none⟩) n cap) (ps.set i x) := by
  have hn : n = ps.length := by have := h.1; rcases h.2 with ⟨h', _⟩ | ⟨_, _, _, h', _⟩ <;> simp_all
  subst hn
  have := (World.ownsRow.stored h i (.string x)).1
  unfold OwnS
  rw [List.length_set, List.map_set]
  exact this

theorem set_last (ps : List ByteArray) (i : List Bs) (y z : Bs) (x : ByteArray) (h : ps.map (·.data.toList) = i ++ [y]) (h1 : ps.length - 1 < ps.length) (hx : x.data.toList = z) :
    (ps.set (ps.length - 1) (ps[ps.length - 1] ++ x)).map (·.data.toList) = i ++ [y ++ z] := by
  rcases List.eq_nil_or_concat ps with rfl | ⟨l, b, rfl⟩
  · simp at h1
  · simp only [List.concat_eq_append, List.map_append, List.map_cons, List.map_nil] at h ⊢
    obtain ⟨h2, h3⟩ := List.append_inj' h rfl
    simp only [List.cons.injEq, and_true] at h3
    subst h2
    simp [hx, h3]
/-- The loop of Cut: what stands behind k rounds. -/
def CutRel (s : ByteArray) (w : World) (l i : Value) (wr : World) : Prop :=
  ∃ k : Nat, k ≤ s.size ∧ i = .int .i64 k ∧ ∃ ps : List ByteArray, OwnS wr w.heap.size l ps ∧ ps.map (·.data.toList) = cut (s.data.toList.take k) ∧ Ext w wr

set_option maxHeartbeats 400000 in
theorem refCut_any (s : ByteArray) (w : World) (hs : s.size ≤ 200) :
    Calls Tryz.prog 76 #[.string s, .int .u8 47] w fun e w' => ∃ (v : Value) (ps : List ByteArray), e = .returned v ∧ ps.map (·.data.toList) = cut s.data.toList ∧ OwnS w' w.heap.size v ps ∧ Ext w w' := by
  have HS : Hid (s.size = s.data.toList.length) := Go.Lib.size_eq s
  go_enter Tryz.func76, Tryz.ntmps76
  go_wp2_with (fail)
  go_loopw [5, 6] (CutRel s w) (fun _ i _ => s.size - (intOf i).toNat)
  case atStart =>
    go_light
    refine ⟨0, Nat.zero_le _, rfl, [⟨#[]⟩], ?_, by simp [cut], (Kp.refl _ _).alloc _⟩
    exact ⟨rfl, .inr ⟨w.heap.size, 1, #[.string ⟨#[]⟩], rfl, Nat.le_refl _, heap_alloc_new w _, Nat.le_refl _, by decide, rfl, rfl⟩⟩
  case round =>
    obtain ⟨k, hk, rfl, ps, hown, hps, hx⟩ := hrel
    have hpl : ps.length = (cut (s.data.toList.take k)).length := by rw [← hps]; simp
    have hp1 : 1 ≤ ps.length := by rw [hpl]; exact cut_length_pos _
    have hp2 : ps.length ≤ 201 := by
      rw [hpl, cut_length]
      have := List.count_le_length (a := (47 : UInt8)) (l := s.data.toList.take k)
      have h2 : (s.data.toList.take k).length ≤ k := List.length_take_le _ _
      omega
    obtain ⟨g, cap, rfl, hg1, hg2, hcap, hcm⟩ := hown.open (by omega)
    have hHp : Hid (ps.map (·.data.toList) = cut (s.data.toList.take k)) := hps
    clear hps hpl
    unfold maxLen at hcm
    by_cases hlt : k < s.size
    · have hl : k < s.data.toList.length := by rw [← HS.out]; exact hlt
      have hgk : s.data.toList[k] = s[k] := by rw [Array.getElem_toList]; rfl
      have hts : s.data.toList.take (k + 1) = s.data.toList.take k ++ [s[k]] := by rw [List.take_succ_eq_append_getElem hl, hgk]
      by_cases h47 : s[k] = 47
      · have h47' : ((s[k].toNat : Int) == 47) = true := by rw [h47]; rfl
        have HT := Lib.hid hts
        have H4 := Lib.hid h47
        clear hgk hts h47
        go_wp2_with (at_builtin; refine wpList_app1 33 9 str_facts rfl _ _ rfl w.heap.size _ _ _ rfl (hown.alloc _) _ _ (.string ⟨#[]⟩) rfl ?c1 rfl ?c2 ?c3 ?_)
        case c1 => simp
        case c2 => omega
        case c3 => have := hx.size; simp; omega
        intro v' w' hown' hkp
        go_wp2
        go_roundw
        case rel =>
          go_light
          refine ⟨k + 1, by omega, by go_num, ps ++ [⟨#[]⟩], ?_, ?_, ?_⟩
          · unfold OwnS; simpa using hown'
          · rw [HT.out, H4.out, cut_snoc_stroke, ← hHp.out]; simp
          · exact (hx.alloc _).next hkp (fun i hi e => by simp [Value.ownBlock] at e; omega)
        case measure => simp [intOf]; omega
      · have h47' : ((s[k].toNat : Int) == 47) = false := by
          rw [beq_eq_false_iff_ne]; intro e; exact h47 (UInt8.toNat_inj.1 (by show s[k].toNat = 47; omega))
        have hcl := OwnS.cell hown (ps.length - 1) (by omega)
        have hfr := World.ownsRow.frozenAt hown (ps.length - 1)
        have hls : (ps[ps.length - 1]).size ≤ 200 := by
          have h1 : ps[ps.length - 1].data.toList ∈ cut (s.data.toList.take k) := by rw [← hHp.out]; exact List.mem_map_of_mem (List.getElem_mem _)
          have h2 := cut_len_le _ _ h1
          have h3 : (s.data.toList.take k).length ≤ k := List.length_take_le _ _
          rw [Lib.size_eq]; omega
        have HT := Lib.hid hts
        have H4 := Lib.hid h47
        have HN := Lib.hid hown
        have hgk' : s.data.toList[k] = s[k] := hgk
        clear hgk hts h47 hown
        have q1 : 1 ≤ (ps.length : Int) := by omega
        have q2 : (ps.length : Int) - 1 < ps.length := by omega
        have q3 : (k : Int) + 1 ≤ s.size := by omega
        have q4 : k + 1 ≤ s.size := by omega
        have e1 : IntKind.i64.wrap ((ps.length : Int) - 1) = (ps.length : Int) - 1 := IntWalk.i64_in _ (by omega)
        have e2 : ((ps.length : Int) - 1).toNat = ps.length - 1 := by omega
        have e3 : IntKind.i64.wrap ((k : Int) + 1) = (k : Int) + 1 := IntWalk.i64_in _ (by omega)
        have e4 : ((k : Int) + 1).toNat = k + 1 := by omega
        have hsl : ∀ wx, (Instr.slice 9 (.string s) (some (.int .i64 (k : Int))) (some (.int .i64 ((k : Int) + 1))) none).run Tryz.prog wx = .ok (.string (s.extract k (k + 1))) wx := fun wx => by
          have := run_slice_string (P := Tryz.prog) wx 9 s .i64 .i64 (k : Int) ((k : Int) + 1) Tryz.underlying9 (by omega) (by omega) (by omega)
          simpa [e4] using this
        have hxd : (s.extract k (k + 1)).data.toList = [s[k]] := by
          rw [Lib.extract_data, ← hgk']
          simp [List.drop_eq_getElem_cons hl]
        have hxs : (s.extract k (k + 1)).size = 1 := by rw [Lib.size_eq, hxd]; rfl
        generalize s.extract k (k + 1) = x at hsl hxd hxs
        have hcat : ∀ wx, (Op.stringOp .add ps[ps.length - 1] x).run Tryz.prog wx = .ok (.string (ps[ps.length - 1] ++ x)) wx := fun wx => run_string_add_sum (P := Tryz.prog) wx _ _ (by omega)
        have HXD := Lib.hid hxd
        have HGK := Lib.hid hgk'
        clear hxd hxs hgk'
        go_wp2_with (fail)
        go_still_tail 17, (by kernel_rfl)
        rw [show ({ heap := wr.heap, tape := wr.tape, drawn := wr.drawn + 1, os := wr.os, output := wr.output } : World) = wr.drew from rfl]
        go_wp2
        go_light
        refine ⟨⟨k + 1, by omega, rfl, ps.set (ps.length - 1) (ps[ps.length - 1] ++ x), (HN.out.set _ _), ?_, ?_⟩, by simp [intOf]; omega⟩
        · obtain ⟨i, y, c1, c2⟩ := cut_snoc (s.data.toList.take k) s[k] H4.out
          rw [HT.out, c2]
          exact set_last ps i y _ x (hHp.out.trans c1) _ HXD.out
        · exact (hx.setCell _ _ (fun h => by simp at h; omega)).drew
    · have hke : k = s.size := by omega
      have HK := Lib.hid hke
      have HN := Lib.hid hown
      clear hke hown
      go_wp2
      go_ret
      go_light
      refine ⟨_, ps, rfl, ?_, HN.out, hx⟩
      rw [hHp.out, HK.out, HS.out, List.take_length]
end Go.Proofs.YtjapjpigpakejaaGreatDoor
