/- Walks of package path: Parts, Parent. -/
import Derived.Test.YtkpcmbgnaenbhaaDoorAvWPath
import Derived.Test.YtkpcmbgnaenbhaaDoorAvLock
namespace Go.Proofs.YtkpcmbgnaenbhaaDoor
set_option maxRecDepth 100000
open Go.RowKit Av

/-- A slice of the pieces, of its own. -/
def PartsPost (w : World) (l : List Bs) (e : Ending) (w' : World) : Prop :=
  ∃ (v : Value) (ps : List ByteArray), e = .returned v ∧ ps.map (·.data.toList) = l ∧ Strs w' v ps ∧ Ext w w'

theorem extract_tail (p : ByteArray) (t : Bs) (h : p.data.toList = 47 :: t) : (p.extract 1 p.size).data.toList = t := by
  rw [Lib.extract_data, h, Lib.size_eq, h]; simp

set_option maxHeartbeats 400000 in
theorem Parts_any (p : ByteArray) (w : World) (hG : GL w) (hp : p.size ≤ maxLen) :
    Calls Tryd.prog 32 #[.string p] w fun e w' => PartsPost w (partsL p.data.toList) e w' := by
  have HGd := Lib.hid (Good_any p w hG hp)
  unfold maxLen at hp
  by_cases hg : goodL p.data.toList = true
  · obtain ⟨t, ht, h1, h2, h3, h4⟩ := good_head _ hg
    have h200 : p.size ≤ 200 := by rw [Lib.size_eq, ht]; simp; omega
    have h0 : 1 ≤ p.size := by rw [Lib.size_eq, ht]; simp
    have HX := Lib.hid (extract_tail p t ht)
    have H4 := Lib.hid h4
    have hsz : (p.extract 1 p.size).size < 4294967281 := by rw [Lib.size_eq, HX.out]; omega
    have HZ := Lib.hid hsz
    have HG := Lib.hid hg
    clear hg ht h1 h2 h3 h4 hsz
    go_enter Tryd.func32, Tryd.ntmps32
    go_wp2_with (fail)
    refine HGd.out.mono ?_
    rintro e w' ⟨rfl, hx⟩
    rw [HG.out]
    go_wp2_with (fail)
    refine (Split_any _ _ (hG.ext hx) HZ.out).mono ?_
    rintro e w1 ⟨b, ps, hps, rfl, hn, hb, hc, hx1⟩
    go_wp2_with (fail)
    go_ret
    go_light
    exact ⟨.slice (some ⟨b, 0, none⟩) ps.length ps.length, ps, rfl, by rw [hps, HX.out, H4.out], Strs.of_cells hn (Nat.le_refl _) hb (fun i hi => by rw [Nat.zero_add]; exact hc i hi), hx.ext hx1⟩
  · have HG : Hid (goodL p.data.toList = false) := by show goodL p.data.toList = false; simpa using hg
    clear hg
    go_enter Tryd.func32, Tryd.ntmps32
    go_wp2_with (fail)
    refine HGd.out.mono ?_
    rintro e w' ⟨rfl, hx⟩
    rw [HG.out]
    go_wp2_with (fail)
    go_ret
    exact ⟨.slice none 0 0, [], rfl, by simp [partsL, HG.out], Strs.nil _, hx⟩

theorem Join_any (v : Value) (xs : List ByteArray) (w : World) (h : Strs w v xs) (hn : xs.length ≤ 140737488355328) (hl : (Lib.join (xs.map (·.data.toList)) [47]).length ≤ 140737488355328) :
    Calls Tryd.prog 44 #[v, .string ⟨#[47]⟩] w fun e w' => e = .returned (.string ⟨(Lib.join (xs.map (·.data.toList)) [47]).toArray⟩) ∧ Ext w w' := by
  obtain ⟨a, c, rfl, hcc, hm, ho⟩ := Strs.open h
  by_cases h0 : 0 < xs.length
  · obtain ⟨b, off, rfl, hb, hc⟩ := ho h0
    refine (Tryd.strings_Join b off c xs ⟨#[47]⟩ w (fun j x hx => ?_) hb hn hcc hl).mono fun e w' hh => ⟨hh.1, Kp.of_below hh.2⟩
    obtain ⟨hj, rfl⟩ := List.getElem?_eq_some_iff.1 hx
    exact hc j hj
  · have : xs = [] := List.eq_nil_of_length_eq_zero (by omega)
    subst this
    exact (Tryd.strings_Join_none a c ⟨#[47]⟩ w).mono fun e w' hh => ⟨hh.1, hh.2 ▸ Kp.refl _ _⟩

theorem parent_none (p : Bs) (h : (partsL p).length < 2) : parentL p = none := by simp [parentL, h]
theorem parent_some (p : Bs) (h : 2 ≤ (partsL p).length) : parentL p = some (ofL (partsL p).dropLast) := by
  unfold parentL; rw [if_neg (by omega)]

set_option maxHeartbeats 400000 in
theorem Parent_any (p : ByteArray) (w : World) (hG : GL w) (hp : p.size ≤ maxLen) :
    Calls Tryd.prog 33 #[.string p] w fun e w' => e = .returned (.tuple #[.string (optS (parentL p.data.toList)), .bool (parentL p.data.toList).isSome]) ∧ Ext w w' := by
  have HPt := Lib.hid (Parts_any p w hG hp)
  by_cases hn : 2 ≤ (partsL p.data.toList).length
  · go_enter Tryd.func33, Tryd.ntmps33
    go_wp2_with (fail)
    refine HPt.out.mono ?_
    rintro e w1 ⟨v, ps, rfl, hps, hst, hx⟩
    have hl : ps.length = (partsL p.data.toList).length := by rw [← hps]; simp
    have h2 : 2 ≤ ps.length := by omega
    have h8 : ps.length ≤ 8 := by rw [hl]; exact parts_len _
    have HPS := Lib.hid hps
    obtain ⟨a', c', rfl, hcc, hm, hopen⟩ := Strs.open hst
    obtain ⟨b, off, rfl, hb, hc⟩ := hopen (by omega)
    have hd : ps.dropLast.map (·.data.toList) = (partsL p.data.toList).dropLast := by rw [← hps, List.map_dropLast]
    have hj : 47 :: Lib.join (ps.dropLast.map (·.data.toList)) [47] = ofL (partsL p.data.toList).dropLast := by
      rw [join_ofL _ (by intro e; have := congrArg List.length e; simp at this; omega), hd]
    have hjl := parent_len p.data.toList
    rw [← hj] at hjl
    have hs : Strs w1 (.slice (some ⟨b, off, none⟩) (ps.length - 1) c') ps.dropLast := by
      have e : ps.length - 1 = ps.dropLast.length := by simp
      rw [e]
      exact Strs.of_cells (by simp; omega) (by simp; omega) hb (fun i hi => by rw [List.getElem_dropLast]; exact hc i _)
    have hcon := Join_any _ _ _ hs (by simp; omega) (by simp only [List.length_cons] at hjl; omega)
    have HJ := Lib.hid (parent_some _ hn)
    generalize Lib.join (ps.dropLast.map (·.data.toList)) [47] = J at hj hjl hcon
    have HCON := Lib.hid hcon
    have HJ2 := Lib.hid hj
    have hjl' : J.length ≤ 199 := by simp only [List.length_cons] at hjl; omega
    clear hl hps hst hopen hn hc hj hjl hcon hs hd
    go_wp2_with (fail)
    refine HCON.out.mono ?_
    rintro e w2 ⟨rfl, hx2⟩
    go_wp2_with (fail)
    go_ret2
    go_light
    refine ⟨?_, hx.ext hx2⟩
    rw [HJ.out, ← HJ2.out]
    show Ending.returned (.tuple #[.string (⟨[47].toArray⟩ ++ ⟨J.toArray⟩), .bool true]) = _
    rw [bytes_append]; rfl
  · go_enter Tryd.func33, Tryd.ntmps33
    go_wp2_with (fail)
    refine HPt.out.mono ?_
    rintro e w1 ⟨v, ps, rfl, hps, hst, hx⟩
    have hl : ps.length = (partsL p.data.toList).length := by rw [← hps]; simp
    have h2 : ps.length < 2 := by omega
    obtain ⟨a', c', rfl, hcc, hm, hopen⟩ := Strs.open hst
    clear hl hps hst hopen
    go_wp2_with (fail)
    go_ret2
    exact ⟨by rw [parent_none _ (by omega)]; rfl, hx⟩

end Go.Proofs.YtkpcmbgnaenbhaaDoor
