/- Texts put together: AvWRefA, AvWRefB, AvWRefC. -/
import Derived.Test.YtdagikbdpeblhaaGreatDoorAvG8
import Derived.StillTailTactics
import Derived.IntWalk

/- Walks of package aviaryref1: Cut, IsName. -/
namespace Go.Proofs.YtdagikbdpeblhaaGreatDoor
set_option maxRecDepth 100000
open Go.RowKit Av

theorem str_facts : Tryz.prog.underlying 36 = some (.slice 9) ∧ (Tryz.prog.info? 9).map (fun i => (i.zero.map fun z => z.cells.size, i.size, decide (i.bytes ≤ 64))) = some (some 1, 1, true) := ⟨by kernel_rfl, by kernel_rfl⟩

/-- A slice of strings that a call owns from block base on. -/
def OwnS (w : World) (base : Nat) (v : Value) (xs : List ByteArray) : Prop := w.ownsRow base 9 1 v xs.length (xs.map Value.string)

theorem OwnS.cell {w : World} {base g cap n : Nat} {ps : List ByteArray} (h : OwnS w base (.slice (some ⟨g, 0, none⟩) n cap) ps) (i : Nat) (hi : i < ps.length) : w.cell? ⟨g, i, none⟩ = some (.string ps[i]) := by
  have hn : n = ps.length := by have := h.1; rcases h.2 with ⟨h', _⟩ | ⟨_, _, _, h', _⟩ <;> simp_all
  subst hn
  have := World.ownsRow.cellAt h i (by omega)
  rw [this, List.getElem?_map, List.getElem?_eq_getElem hi]; rfl
theorem OwnS.open {w : World} {base : Nat} {v : Value} {ps : List ByteArray} (h : OwnS w base v ps) (hn : 0 < ps.length) :
    ∃ g cap, v = .slice (some ⟨g, 0, none⟩) ps.length cap ∧ base ≤ g ∧ g < w.heap.size ∧ ps.length ≤ cap ∧ cap ≤ maxLen := by
  rcases h.2 with ⟨_, h0⟩ | ⟨g, cap, cur, h1, h2, h3, h4, h5, _⟩
  · omega
  · exact ⟨g, cap, h1, h2, (Array.getElem?_eq_some_iff.1 h3).1, h4, h5⟩
theorem OwnS.strs {w : World} {base : Nat} {v : Value} {ps : List ByteArray} (h : OwnS w base v ps) : Strs w v ps := Strs.of_owns h
theorem OwnS.set {w : World} {base g cap n : Nat} {ps : List ByteArray} (h : OwnS w base (.slice (some ⟨g, 0, none⟩) n cap) ps) (i : Nat) (x : ByteArray) :
    OwnS (w.setCell ⟨g, i, none⟩ (.string x)) base (.slice (some ⟨g, 0, none⟩) n cap) (ps.set i x) := by
  have hn : n = ps.length := by have := h.1; rcases h.2 with ⟨h', _⟩ | ⟨_, _, _, h', _⟩ <;> simp_all
  subst hn
  have := (World.ownsRow.stored h i (.string x)).1
  unfold OwnS
  rw [List.length_set, List.map_set]
  exact this

theorem set_last (ps : List ByteArray) (i : List Bs) (y z : Bs) (x : ByteArray) (h : ps.map (·.data.toList) = i ++ [y]) (h1 : ps.length - 1 < ps.length) (hx : x.data.toList = z) :
    (ps.set (ps.length - 1) (ps[ps.length - 1] ++ x)).map (·.data.toList) = i ++ [y ++ z] := by
  rcases List.eq_nil_or_concat ps with rfl | ⟨l, b, rfl⟩
  · simp at h1
  · simp only [List.concat_eq_append, List.map_append, List.map_cons, List.map_nil] at h ⊢
    obtain ⟨h2, h3⟩ := List.append_inj' h rfl
    simp only [List.cons.injEq, and_true] at h3
    subst h2
    simp [hx, h3]
/-- The loop of Cut: what stands behind k rounds. -/
def CutRel (s : ByteArray) (w : World) (l i : Value) (wr : World) : Prop :=
  ∃ k : Nat, k ≤ s.size ∧ i = .int .i64 k ∧ ∃ ps : List ByteArray, OwnS wr w.heap.size l ps ∧ ps.map (·.data.toList) = cut (s.data.toList.take k) ∧ Ext w wr

set_option maxHeartbeats 400000 in
theorem refCut_any (s : ByteArray) (w : World) (hs : s.size ≤ 200) :
    Calls Tryz.prog 141 #[.string s, .int .u8 47] w fun e w' => ∃ (v : Value) (ps : List ByteArray), e = .returned v ∧ ps.map (·.data.toList) = cut s.data.toList ∧ OwnS w' w.heap.size v ps ∧ Ext w w' := by
  have HS : Hid (s.size = s.data.toList.length) := Go.Lib.size_eq s
  go_enter Tryz.func141, Tryz.ntmps141
  go_wp2_with (fail)
  go_loopw [5, 6] (CutRel s w) (fun _ i _ => s.size - (intOf i).toNat)
  case atStart =>
    go_light
    refine ⟨0, Nat.zero_le _, rfl, [⟨#[]⟩], ?_, by simp [cut], (Kp.refl _ _).alloc _⟩
    exact ⟨rfl, .inr ⟨w.heap.size, 1, #[.string ⟨#[]⟩], rfl, Nat.le_refl _, heap_alloc_new w _, Nat.le_refl _, by decide, rfl, rfl⟩⟩
  case round =>
    obtain ⟨k, hk, rfl, ps, hown, hps, hx⟩ := hrel
    have hpl : ps.length = (cut (s.data.toList.take k)).length := by rw [← hps]; simp
    have hp1 : 1 ≤ ps.length := by rw [hpl]; exact cut_length_pos _
    have hp2 : ps.length ≤ 201 := by
      rw [hpl, cut_length]
      have := List.count_le_length (a := (47 : UInt8)) (l := s.data.toList.take k)
      have h2 : (s.data.toList.take k).length ≤ k := List.length_take_le _ _
      omega
    obtain ⟨g, cap, rfl, hg1, hg2, hcap, hcm⟩ := hown.open (by omega)
    have hHp : Hid (ps.map (·.data.toList) = cut (s.data.toList.take k)) := hps
    clear hps hpl
    unfold maxLen at hcm
    by_cases hlt : k < s.size
    · have hl : k < s.data.toList.length := by rw [← HS.out]; exact hlt
      have hgk : s.data.toList[k] = s[k] := by rw [Array.getElem_toList]; rfl
      have hts : s.data.toList.take (k + 1) = s.data.toList.take k ++ [s[k]] := by rw [List.take_succ_eq_append_getElem hl, hgk]
      by_cases h47 : s[k] = 47
      · have h47' : ((s[k].toNat : Int) == 47) = true := by rw [h47]; rfl
        have HT := Lib.hid hts
        have H4 := Lib.hid h47
        clear hgk hts h47
        go_wp2_with (at_builtin; refine wpList_app1 36 9 str_facts rfl _ _ rfl w.heap.size _ _ _ rfl (hown.alloc _) _ _ (.string ⟨#[]⟩) rfl ?c1 rfl ?c2 ?c3 ?_)
        case c1 => simp
        case c2 => omega
        case c3 => have := hx.size; simp; omega
        intro v' w' hown' hkp
        go_wp2
        go_roundw
        case rel =>
          go_light
          refine ⟨k + 1, by omega, by go_num, ps ++ [⟨#[]⟩], ?_, ?_, ?_⟩
          · unfold OwnS; simpa using hown'
          · rw [HT.out, H4.out, cut_snoc_stroke, ← hHp.out]; simp
          · exact (hx.alloc _).next hkp (fun i hi e => by simp [Value.ownBlock] at e; omega)
        case measure => simp [intOf]; omega
      · have h47' : ((s[k].toNat : Int) == 47) = false := by
          rw [beq_eq_false_iff_ne]; intro e; exact h47 (UInt8.toNat_inj.1 (by show s[k].toNat = 47; omega))
        have hcl := OwnS.cell hown (ps.length - 1) (by omega)
        have hfr := World.ownsRow.frozenAt hown (ps.length - 1)
        have hls : (ps[ps.length - 1]).size ≤ 200 := by
          have h1 : ps[ps.length - 1].data.toList ∈ cut (s.data.toList.take k) := by rw [← hHp.out]; exact List.mem_map_of_mem (List.getElem_mem _)
          have h2 := cut_len_le _ _ h1
          have h3 : (s.data.toList.take k).length ≤ k := List.length_take_le _ _
          rw [Lib.size_eq]; omega
        have HT := Lib.hid hts
        have H4 := Lib.hid h47
        have HN := Lib.hid hown
        have hgk' : s.data.toList[k] = s[k] := hgk
        clear hgk hts h47 hown
        have q1 : 1 ≤ (ps.length : Int) := by omega
        have q2 : (ps.length : Int) - 1 < ps.length := by omega
        have q3 : (k : Int) + 1 ≤ s.size := by omega
        have q4 : k + 1 ≤ s.size := by omega
        have e1 : IntKind.i64.wrap ((ps.length : Int) - 1) = (ps.length : Int) - 1 := IntWalk.i64_in _ (by omega)
        have e2 : ((ps.length : Int) - 1).toNat = ps.length - 1 := by omega
        have e3 : IntKind.i64.wrap ((k : Int) + 1) = (k : Int) + 1 := IntWalk.i64_in _ (by omega)
        have e4 : ((k : Int) + 1).toNat = k + 1 := by omega
        have hsl : ∀ wx, (Instr.slice 9 (.string s) (some (.int .i64 (k : Int))) (some (.int .i64 ((k : Int) + 1))) none).run Tryz.prog wx = .ok (.string (s.extract k (k + 1))) wx := fun wx => by
          have := run_slice_string (P := Tryz.prog) wx 9 s .i64 .i64 (k : Int) ((k : Int) + 1) Tryz.underlying9 (by omega) (by omega) (by omega)
          simpa [e4] using this
        have hxd : (s.extract k (k + 1)).data.toList = [s[k]] := by
          rw [Lib.extract_data, ← hgk']
          simp [List.drop_eq_getElem_cons hl]
        have hxs : (s.extract k (k + 1)).size = 1 := by rw [Lib.size_eq, hxd]; rfl
        generalize s.extract k (k + 1) = x at hsl hxd hxs
        have hcat : ∀ wx, (Op.stringOp .add ps[ps.length - 1] x).run Tryz.prog wx = .ok (.string (ps[ps.length - 1] ++ x)) wx := fun wx => run_string_add_sum (P := Tryz.prog) wx _ _ (by omega)
        have HXD := Lib.hid hxd
        have HGK := Lib.hid hgk'
        clear hxd hxs hgk'
        go_wp2_with (fail)
        go_still_tail 17, (by kernel_rfl)
        rw [show ({ heap := wr.heap, tape := wr.tape, drawn := wr.drawn + 1, os := wr.os, output := wr.output } : World) = wr.drew from rfl]
        go_wp2
        go_light
        refine ⟨⟨k + 1, by omega, rfl, ps.set (ps.length - 1) (ps[ps.length - 1] ++ x), (HN.out.set _ _), ?_, ?_⟩, by simp [intOf]; omega⟩
        · obtain ⟨i, y, c1, c2⟩ := cut_snoc (s.data.toList.take k) s[k] H4.out
          rw [HT.out, c2]
          exact set_last ps i y _ x (hHp.out.trans c1) _ HXD.out
        · exact (hx.setCell _ _ (fun h => by simp at h; omega)).drew
    · have hke : k = s.size := by omega
      have HK := Lib.hid hke
      have HN := Lib.hid hown
      clear hke hown
      go_wp2
      go_ret
      go_light
      refine ⟨_, ps, rfl, ?_, HN.out, hx⟩
      rw [hHp.out, HK.out, HS.out, List.take_length]
end Go.Proofs.YtdagikbdpeblhaaGreatDoor

/- Walks of package aviaryref1: IsName, Of. -/
namespace Go.Proofs.YtdagikbdpeblhaaGreatDoor
set_option maxRecDepth 100000
open Go.RowKit Av

def signR (c : UInt8) : Bool := sign c && (c != 47)
def nameR (l : Bs) : Bool := nameL l && l.all signR

theorem nameR_eq (l : Bs) (h : (47 : UInt8) ∉ l) : nameR l = nameL l := by
  unfold nameR
  by_cases hn : nameL l = true
  · have h2 := hn
    simp only [nameL, Bool.and_eq_true] at h2
    rw [hn, Bool.true_and, List.all_eq_true]
    intro c hc
    have h3 := List.all_eq_true.1 h2.1.1.1.1 c hc
    have : c ≠ 47 := fun e => h (e ▸ hc)
    simp [signR, h3, this]
  · simp [hn]
theorem nameR_no (l : Bs) (h : nameL l = false) : nameR l = false := by simp [nameR, h]
theorem nameL_of (l : Bs) (h1 : 1 ≤ l.length) (h2 : l.length ≤ 40) (h3 : l ≠ [46]) (h4 : l ≠ [46, 46]) : nameL l = l.all sign := by
  have e1 : decide (1 ≤ l.length) = true := decide_eq_true h1
  have e2 : decide (l.length ≤ 40) = true := decide_eq_true h2
  have e3 : (l != [46]) = true := by simpa using h3
  have e4 : (l != [46, 46]) = true := by simpa using h4
  simp only [nameL, e1, e2, e3, e4, Bool.and_true]
theorem all_signR (l : Bs) (h : l.all signR = true) : l.all sign = true := by
  rw [List.all_eq_true] at h ⊢
  intro c hc
  have := h c hc
  simp only [signR, Bool.and_eq_true] at this
  exact this.1
theorem all_snocR (l : Bs) (k : Nat) (h : k < l.length) : (l.take (k + 1)).all signR = ((l.take k).all signR && signR l[k]) := by
  rw [List.take_succ_eq_append_getElem h]; simp only [List.all_append, List.all_cons, List.all_nil, Bool.and_true]
theorem not_allR (l : Bs) (k : Nat) (h : k < l.length) (hs : signR l[k] = false) : l.all signR = false := by
  rw [List.all_eq_false]; exact ⟨l[k], List.getElem_mem h, by simp [hs]⟩

set_option maxHeartbeats 400000 in
theorem refIsName_any (s : ByteArray) (w : World) (hs : s.size ≤ maxLen) :
    Calls Tryz.prog 60 #[.string s] w fun e w' => e = .returned (.bool (nameR s.data.toList)) ∧ w = w' := by
  unfold maxLen at hs
  have HS : Hid (s.size = s.data.toList.length) := Go.Lib.size_eq s
  have HE : Hid (s.toList = s.data.toList) := Go.Lib.toList_data s
  by_cases h1 : 1 ≤ s.size
  · by_cases h2 : s.size ≤ 40
    · by_cases h3 : s.data.toList = [46]
      · have hres : nameR s.data.toList = false := by rw [h3]; rfl
        have HR := Lib.hid hres
        have h3' : s.toList = [46] := by rw [HE.out, h3]
        clear hres h3
        go_enter Tryz.func60, Tryz.ntmps60
        go_wp2
        go_ret
        exact ⟨ret_bool HR.out.symm, rfl⟩
      · by_cases h4 : s.data.toList = [46, 46]
        · have hres : nameR s.data.toList = false := by rw [h4]; rfl
          have HR := Lib.hid hres
          have h4' : s.toList = [46, 46] := by rw [HE.out, h4]
          clear hres h3 h4
          go_enter Tryz.func60, Tryz.ntmps60
          go_wp2
          go_ret
          exact ⟨ret_bool HR.out.symm, rfl⟩
        · have hnm := nameL_of s.data.toList (by rw [← HS.out]; exact h1) (by rw [← HS.out]; exact h2) h3 h4
          have HN := Lib.hid hnm
          have h3' : ¬ s.toList = [46] := by rw [HE.out]; exact h3
          have h4' : ¬ s.toList = [46, 46] := by rw [HE.out]; exact h4
          have h3b : (s.toList == [46]) = false := by simpa using h3'
          have h4b : (s.toList == [46, 46]) = false := by simpa using h4'
          clear h3 h4 hnm
          go_enter Tryz.func60, Tryz.ntmps60
          go_wp2
          go_loop [3] (fun i => ∃ k : Nat, k ≤ s.size ∧ i = .int .i64 k ∧ (s.data.toList.take k).all signR = true) (fun i => s.size - (intOf i).toNat)
          case atStart => exact ⟨0, Nat.zero_le _, rfl, rfl⟩
          case round =>
            obtain ⟨k, hk, rfl, ht⟩ := hrel
            have HT := Lib.hid ht; clear ht
            by_cases hlt : k < s.size
            · have hl : k < s.data.toList.length := by rw [← HS.out]; exact hlt
              have hg : s.data.toList[k] = s[k] := by rw [Array.getElem_toList]; rfl
              by_cases hsg : signR s[k] = true
              · have hb : 33 ≤ s[k].toNat ∧ s[k].toNat ≤ 126 ∧ ¬ s[k].toNat = 47 := by
                  simp only [signR, sign, Bool.and_eq_true, decide_eq_true_eq, UInt8.le_iff_toNat_le, bne_iff_ne] at hsg
                  exact ⟨hsg.1.1, hsg.1.2, fun e => hsg.2 (UInt8.toNat_inj.1 e)⟩
                obtain ⟨hb1, hb2, hb3⟩ := hb
                have hb4 : ((s[k].toNat : Int) == 47) = false := by rw [beq_eq_false_iff_ne]; omega
                have HG := Lib.hid hsg
                have HX := Lib.hid hg
                clear hsg hg hb3
                go_wp2
                go_round
                case rel => exact ⟨k + 1, by omega, by go_num, by rw [all_snocR _ _ hl, HT.out, HX.out, HG.out]; rfl⟩
                case measure => simp [intOf]; omega
              · have hb : s[k].toNat < 33 ∨ 126 < s[k].toNat ∨ (33 ≤ s[k].toNat ∧ s[k].toNat ≤ 126 ∧ s[k].toNat = 47) := by
                  simp only [signR, sign, Bool.and_eq_true, decide_eq_true_eq, UInt8.le_iff_toNat_le, bne_iff_ne] at hsg
                  have h33 : (33 : UInt8).toNat = 33 := rfl
                  have h126 : (126 : UInt8).toNat = 126 := rfl
                  rcases Nat.lt_or_ge s[k].toNat 33 with h | h
                  · exact .inl h
                  · rcases Nat.lt_or_ge 126 s[k].toNat with h' | h'
                    · exact .inr (.inl h')
                    · refine .inr (.inr ⟨h, h', ?_⟩)
                      by_cases e : s[k] = 47
                      · rw [e]; rfl
                      · exact absurd ⟨⟨by omega, by omega⟩, e⟩ hsg
                have hres : nameR s.data.toList = false := by
                  simp only [nameR, not_allR _ _ hl (by rw [hg]; simpa using hsg), Bool.and_false]
                have HR := Lib.hid hres
                clear hsg hg hres
                rcases hb with hb | hb | ⟨hb, hb', hb''⟩
                · go_wp2
                  go_ret
                  exact ⟨ret_bool (by rw [HR.out]), rfl⟩
                · go_wp2
                  go_ret
                  exact ⟨ret_bool (by rw [HR.out]), rfl⟩
                · have hb4 : ((s[k].toNat : Int) == 47) = true := by rw [beq_iff_eq]; omega
                  clear hb''
                  go_wp2
                  go_ret
                  exact ⟨ret_bool (by rw [HR.out]), rfl⟩
            · have hall : s.data.toList.all signR = true := by
                have := HT.out
                rwa [List.take_of_length_le (by rw [← HS.out]; omega)] at this
              have HA := Lib.hid hall
              clear hall
              go_wp2
              go_ret
              exact ⟨ret_bool (by rw [nameR, HN.out, all_signR _ HA.out, HA.out]; rfl), rfl⟩
    · have hres : nameR s.data.toList = false := nameR_no _ (by
        have : decide (s.data.toList.length ≤ 40) = false := decide_eq_false (by rw [← HS.out]; exact h2)
        simp only [nameL, this, Bool.and_false, Bool.false_and])
      have HR := Lib.hid hres
      clear hres
      go_enter Tryz.func60, Tryz.ntmps60
      go_wp2
      go_ret
      exact ⟨ret_bool HR.out.symm, rfl⟩
  · have hres : nameR s.data.toList = false := nameR_no _ (by
      have : decide (1 ≤ s.data.toList.length) = false := decide_eq_false (by rw [← HS.out]; exact h1)
      simp only [nameL, this, Bool.and_false, Bool.false_and])
    have HR := Lib.hid hres
    clear hres
    go_enter Tryz.func60, Tryz.ntmps60
    go_wp2
    go_ret
    exact ⟨ret_bool HR.out.symm, rfl⟩

theorem ofL_snoc (l : List Bs) (k : Nat) (h : k < l.length) : ofL (l.take (k + 1)) = ofL (l.take k) ++ 47 :: l[k] := by
  rw [List.take_succ_eq_append_getElem h]; simp only [ofL, List.flatMap_append, List.flatMap_cons, List.flatMap_nil, List.append_nil]
theorem ofL_take_le (l : List Bs) (k : Nat) : (ofL (l.take k)).length ≤ (ofL l).length := by
  conv => rhs; rw [← List.take_append_drop k l]
  simp only [ofL, List.flatMap_append, List.length_append]
  omega

set_option maxHeartbeats 400000 in
theorem refOf_any (v : Value) (xs : List ByteArray) (w : World) (h : Strs w v xs) (hl : (ofL (xs.map (·.data.toList))).length ≤ 1000000) :
    Calls Tryz.prog 142 #[v] w fun e w' => e = .returned (.string ⟨(ofL (xs.map (·.data.toList))).toArray⟩) ∧ w = w' := by
  obtain ⟨a, c, rfl, hcc, hm, hop⟩ := Strs.open h
  have HO := Lib.hid hop
  unfold maxLen at hm
  clear hop h
  go_enter Tryz.func142, Tryz.ntmps142
  go_wp2
  go_loop [3, 4] (fun s i => ∃ k : Nat, k ≤ xs.length ∧ i = .int .i64 k ∧ s = .string ⟨(ofL ((xs.map (·.data.toList)).take k)).toArray⟩) (fun _ i => xs.length - (intOf i).toNat)
  case atStart => exact ⟨0, Nat.zero_le _, rfl, by simp [ofL]⟩
  case round =>
    obtain ⟨k, hk, rfl, rfl⟩ := hrel
    by_cases hlt : k < xs.length
    · obtain ⟨b, off, rfl, hb, hc⟩ := HO.out (by omega)
      have hcell := hc k hlt
      have hk' : k < (xs.map (·.data.toList)).length := by simpa using hlt
      have hsn := ofL_snoc (xs.map (·.data.toList)) k hk'
      have hle := ofL_take_le (xs.map (·.data.toList)) (k + 1)
      rw [hsn] at hle
      have hg : (xs.map (·.data.toList))[k] = xs[k].data.toList := by simp
      rw [hg] at hsn hle
      simp only [List.length_append, List.length_cons] at hle
      have hsz : xs[k].size = xs[k].data.toList.length := Lib.size_eq _
      generalize ofL ((xs.map (·.data.toList)).take k) = A at hsn hle
      have hA : A.length ≤ 1000000 := by omega
      have hX : xs[k].size ≤ 1000000 := by omega
      have hAX : A.length + 1 + xs[k].size ≤ 1000000 := by omega
      have c1 : ∀ wx, (Op.stringOp .add ⟨A.toArray⟩ ⟨#[47]⟩).run Tryz.prog wx = .ok (.string ⟨(A ++ [47]).toArray⟩) wx := fun wx => by
        rw [run_string_add_sum (P := Tryz.prog) wx _ _ (by simp [ByteArray.size]; omega)]
        rw [show (⟨#[47]⟩ : ByteArray) = ⟨[47].toArray⟩ from rfl, bytes_append]
      have c2 : ∀ wx, (Op.stringOp .add ⟨(A ++ [47]).toArray⟩ xs[k]).run Tryz.prog wx = .ok (.string ⟨(A ++ 47 :: xs[k].data.toList).toArray⟩) wx := fun wx => by
        rw [run_string_add_sum (P := Tryz.prog) wx _ _ (by show (A ++ [47]).toArray.size + _ ≤ _; simp only [List.size_toArray, List.length_append, List.length_cons, List.length_nil]; omega)]
        conv => lhs; rw [← bytes_self xs[k]]
        rw [bytes_append]; simp
      have HSN := Lib.hid hsn
      clear hsn hle hg hc hA hX hAX hsz
      go_wp2
      go_light
      exact ⟨⟨k + 1, by omega, by go_num, by rw [HSN.out]⟩, by simp [intOf]; omega⟩
    · have hke : (xs.map (·.data.toList)).take k = xs.map (·.data.toList) := List.take_of_length_le (by simp; omega)
      have HK := Lib.hid hke
      clear hke
      go_wp2
      go_ret
      exact ⟨ret_val (by rw [HK.out]; rfl), rfl⟩
end Go.Proofs.YtdagikbdpeblhaaGreatDoor

/- Walks of package aviaryref1: Parts, Good, Top, Parent. -/
namespace Go.Proofs.YtdagikbdpeblhaaGreatDoor
set_option maxRecDepth 100000
open Go.RowKit Av

theorem parts_no (p : Bs) (h : goodL p = false) : partsL p = [] := by simp [partsL, h]
theorem parts_cut (t : Bs) (h : t.length < 200) : partsL (47 :: t) = if (cut t).length ≤ 8 then (if (cut t).all nameL then cut t else []) else [] := by
  unfold partsL
  rw [good_cons t h]
  by_cases h8 : (cut t).length ≤ 8
  · by_cases ha : (cut t).all nameL = true
    · simp [h8, ha]
    · have : (cut t).all nameL = false := by simpa using ha
      simp [h8, this]
  · simp [h8]

set_option maxHeartbeats 800000 in
theorem refParts_any (p : ByteArray) (w : World) (hp : p.size ≤ maxLen) :
    Calls Tryz.prog 99 #[.string p] w fun e w' => PartsPost w (partsL p.data.toList) e w' := by
  unfold maxLen at hp
  have HS : Hid (p.size = p.data.toList.length) := Go.Lib.size_eq p
  by_cases h1 : 2 ≤ p.size
  · by_cases h2 : p.size ≤ 200
    · obtain ⟨c, t, hct⟩ : ∃ c t, p.data.toList = c :: t := by
        cases h : p.data.toList with
        | nil => exact absurd (show p.size = 0 by rw [HS.out, h]; rfl) (by omega)
        | cons c t => exact ⟨c, t, rfl⟩
      have h0 : 0 < p.size := by omega
      have hg0 : p[0] = c := by
        have : p.data.toList[0]'(by rw [hct]; simp) = p[0] := by rw [Array.getElem_toList]; rfl
        rw [← this]; simp [hct]
      by_cases h47 : c = 47
      · subst h47
        have hz : ((p[0].toNat : Int) == 47) = true := by rw [hg0]; rfl
        have hz' : ((p[0].toNat : Int) != 47) = false := by rw [hg0]; rfl
        have HX := Lib.hid (extract_tail p t hct)
        have htl : t.length + 1 = p.size := by rw [HS.out, hct]; simp
        have hsz : (p.extract 1 p.size).size ≤ 200 := by rw [Lib.size_eq, HX.out]; omega
        have HZ := Lib.hid hsz
        have HC := Lib.hid hct
        have HP := Lib.hid (parts_cut t (by omega))
        have HTL := Lib.hid htl
        clear hg0 hct htl hsz
        go_enter Tryz.func99, Tryz.ntmps99
        go_wp2_with (fail)
        refine (refCut_any _ _ HZ.out).mono ?_
        rintro e w1 ⟨v, ps, rfl, hps, hown, hx⟩
        rw [HX.out] at hps
        have hst := hown.strs
        obtain ⟨a', c', rfl, hcc, hm, hop⟩ := Strs.open hst
        have hl : (cut t).length = ps.length := by rw [← hps]; simp
        have HPS := Lib.hid hps
        have HST := Lib.hid hst
        have HO := Lib.hid hop
        have HL := Lib.hid hl
        unfold maxLen at hm
        clear hps hst hop hl hown
        by_cases h8 : ps.length ≤ 8
        · go_wp2_with (fail)
          go_loop [4] (fun i => ∃ k : Nat, k ≤ ps.length ∧ i = .int .i64 k ∧ ((cut t).take k).all nameL = true) (fun i => ps.length - (intOf i).toNat)
          case atStart => exact ⟨0, Nat.zero_le _, rfl, rfl⟩
          case round =>
            obtain ⟨k, hk, rfl, hall⟩ := hrel
            have HA := Lib.hid hall
            clear hall
            by_cases hlt : k < ps.length
            · obtain ⟨b, off, rfl, hb, hc⟩ := HO.out (by omega)
              have hcell := hc k hlt
              obtain ⟨hk', hpk⟩ := piece ps _ HPS.out k hlt
              have hmem : (cut t)[k] ∈ cut t := List.getElem_mem hk'
              have hsz : ps[k].size ≤ maxLen := by
                have h1 := cut_len_le t _ hmem
                have h3 := HTL.out
                rw [Lib.size_eq, hpk]; unfold maxLen; omega
              have hnr : nameR ps[k].data.toList = nameL ps[k].data.toList := nameR_eq _ (by rw [hpk]; exact cut_free t _ hmem)
              have HCON := Lib.hid (refIsName_any ps[k] w1 hsz)
              have HK := Lib.hid hpk
              have HNR := Lib.hid hnr
              clear hsz hpk hmem hc hnr
              by_cases hnm : nameL ps[k].data.toList = true
              · have hn2 : nameR ps[k].data.toList = true := by rw [HNR.out]; exact hnm
                go_wp2_with (go_at_call 60; refine HCON.out.mono ?_; rintro e w' ⟨rfl, rfl⟩)
                go_round
                case rel => exact ⟨k + 1, by omega, by go_num, by rw [all_name_snoc _ _ hk', HA.out, ← HK.out, hnm]; rfl⟩
                case measure => simp [intOf]; omega
              · have hn2 : nameR ps[k].data.toList = false := by rw [HNR.out]; simpa using hnm
                have hn3 : nameL ps[k].data.toList = false := by simpa using hnm
                clear hnm
                go_wp2_with (go_at_call 60; refine HCON.out.mono ?_; rintro e w' ⟨rfl, rfl⟩)
                go_ret
                go_light
                have : (cut t).all nameL = false := by
                  rw [List.all_eq_false]; exact ⟨_, List.getElem_mem hk', by rw [← HK.out, hn3]; simp⟩
                exact ⟨.slice none 0 0, [], rfl, by rw [HC.out, HP.out, this]; simp, Strs.nil _, hx⟩
            · have hke : k = ps.length := by omega
              have HKE := Lib.hid hke
              clear hke
              go_wp2
              go_ret
              go_light
              have := HA.out
              rw [HKE.out, ← HL.out, List.take_length] at this
              exact ⟨_, ps, rfl, by rw [HPS.out, HC.out, HP.out, this, HL.out]; simp [h8], HST.out, hx⟩
        · go_wp2_with (fail)
          go_ret
          go_light
          exact ⟨.slice none 0 0, [], rfl, by rw [HC.out, HP.out, HL.out]; simp [h8], Strs.nil _, hx⟩
      · have hz' : ((p[0].toNat : Int) != 47) = true := by
          rw [hg0, bne_iff_ne]; intro e; exact h47 (UInt8.toNat_inj.1 (by show c.toNat = 47; omega))
        have HP := Lib.hid (parts_no p.data.toList (good_no _ (by rw [hct]; simpa using h47)))
        clear hg0 hct h47
        go_enter Tryz.func99, Tryz.ntmps99
        go_wp2_with (fail)
        go_ret
        exact ⟨.slice none 0 0, [], rfl, HP.out.symm, Strs.nil _, Kp.refl _ _⟩
    · have HP := Lib.hid (parts_no p.data.toList (good_long _ (by rw [← HS.out]; omega)))
      go_enter Tryz.func99, Tryz.ntmps99
      go_wp2_with (fail)
      go_ret
      exact ⟨.slice none 0 0, [], rfl, HP.out.symm, Strs.nil _, Kp.refl _ _⟩
  · have hgl : goodL p.data.toList = false := by
      cases h : goodL p.data.toList with
      | false => rfl
      | true => have := good_len _ h; rw [← HS.out] at this; omega
    have HP := Lib.hid (parts_no _ hgl)
    clear hgl
    go_enter Tryz.func99, Tryz.ntmps99
    go_wp2_with (fail)
    go_ret
    exact ⟨.slice none 0 0, [], rfl, HP.out.symm, Strs.nil _, Kp.refl _ _⟩

set_option maxHeartbeats 400000 in
theorem refGood_any (p : ByteArray) (w : World) (hp : p.size ≤ maxLen) :
    Calls Tryz.prog 58 #[.string p] w fun e w' => e = .returned (.bool (goodL p.data.toList)) ∧ Ext w w' := by
  have HPt := Lib.hid (refParts_any p w hp)
  go_enter Tryz.func58, Tryz.ntmps58
  go_wp2_with (fail)
  refine HPt.out.mono ?_
  rintro e w1 ⟨v, ps, rfl, hps, hst, hx⟩
  obtain ⟨a', c', rfl, hcc, hm, hop⟩ := Strs.open hst
  have hl : (partsL p.data.toList).length = ps.length := by rw [← hps]; simp
  clear hst hop hps
  go_wp2_with (fail)
  go_ret
  go_light
  refine ⟨ret_bool ?_, hx⟩
  rw [Bool.eq_iff_iff, good_iff_parts]
  constructor
  · intro h e
    rw [e] at hl
    simp at h hl
    omega
  · intro h
    have : 0 < (partsL p.data.toList).length := List.length_pos_iff.2 h
    simp; omega

set_option maxHeartbeats 400000 in
theorem refParent_any (p : ByteArray) (w : World) (hp : p.size ≤ maxLen) :
    Calls Tryz.prog 100 #[.string p] w fun e w' => e = .returned (.tuple #[.string (optS (parentL p.data.toList)), .bool (parentL p.data.toList).isSome]) ∧ Ext w w' := by
  have HPt := Lib.hid (refParts_any p w hp)
  by_cases hn : 2 ≤ (partsL p.data.toList).length
  · go_enter Tryz.func100, Tryz.ntmps100
    go_wp2_with (fail)
    refine HPt.out.mono ?_
    rintro e w1 ⟨v, ps, rfl, hps, hst, hx⟩
    have hl : ps.length = (partsL p.data.toList).length := by rw [← hps]; simp
    have h2 : 2 ≤ ps.length := by omega
    have h8 : ps.length ≤ 8 := by rw [hl]; exact parts_len _
    obtain ⟨a', c', rfl, hcc, hm, hopen⟩ := Strs.open hst
    obtain ⟨b, off, rfl, hb, hc⟩ := hopen (by omega)
    have hd : ps.dropLast.map (·.data.toList) = (partsL p.data.toList).dropLast := by rw [← hps, List.map_dropLast]
    have hs : Strs w1 (.slice (some ⟨b, off, none⟩) (ps.length - 1) c') ps.dropLast := by
      have e : ps.length - 1 = ps.dropLast.length := by simp
      rw [e]
      exact Strs.of_cells (by simp; omega) (by simp; omega) hb (fun i hi => by rw [List.getElem_dropLast]; exact hc i _)
    have hpl := parent_len p.data.toList
    have HCON := Lib.hid (refOf_any _ _ _ hs (by rw [hd]; omega))
    have HJ := Lib.hid (parent_some _ hn)
    have HD := Lib.hid hd
    clear hl hps hst hopen hn hc hs hd hpl
    go_wp2_with (fail)
    refine HCON.out.mono ?_
    rintro e w2 ⟨rfl, rfl⟩
    go_wp2_with (fail)
    go_ret2
    go_light
    refine ⟨?_, hx⟩
    rw [HJ.out, ← HD.out, List.map_dropLast]; rfl
  · go_enter Tryz.func100, Tryz.ntmps100
    go_wp2_with (fail)
    refine HPt.out.mono ?_
    rintro e w1 ⟨v, ps, rfl, hps, hst, hx⟩
    have hl : ps.length = (partsL p.data.toList).length := by rw [← hps]; simp
    have h2 : ps.length < 2 := by omega
    obtain ⟨a', c', rfl, hcc, hm, hopen⟩ := Strs.open hst
    clear hl hps hst hopen
    go_wp2_with (fail)
    go_ret2
    exact ⟨by rw [parent_none _ (by omega)]; rfl, hx⟩
end Go.Proofs.YtdagikbdpeblhaaGreatDoor
