/- Walks of package aviaryref1: IsName, Of. -/
import Derived.Test.YtjapjpigpakejaaGreatDoorAvG16
namespace Go.Proofs.YtjapjpigpakejaaGreatDoor
set_option maxRecDepth 100000
open Go.RowKit Av

def signR (c : UInt8) : Bool := sign c && (c != 47)
def nameR (l : Bs) : Bool := nameL l && l.all signR

theorem nameR_eq (l : Bs) (h : (47 : UInt8) ∉ l) : nameR l = nameL l := by
  unfold nameR
  by_cases hn : nameL l = true
  · have h2 := hn
    simp only [nameL, Bool.and_eq_true] at h2
    rw [hn, Bool.true_and, List.all_eq_true]
    intro c hc
    have h3 := List.all_eq_true.1 h2.1.1.1.1 c hc
    have : c ≠ 47 := fun e => h (e ▸ hc)
    simp [signR, h3, this]
  · simp [hn]
theorem nameR_no (l : Bs) (h : nameL l = false) : nameR l = false := by simp [nameR, h]
theorem nameL_of (l : Bs) (h1 : 1 ≤ l.length) (h2 : l.length ≤ 40) (h3 : l ≠ [46]) (h4 : l ≠ [46, 46]) : nameL l = l.all sign := by
  have e1 : decide (1 ≤ l.length) = true := decide_eq_true h1
  have e2 : decide (l.length ≤ 40) = true := decide_eq_true h2
  have e3 : (l != [46]) = true := by simpa using h3
  have e4 : (l != [46, 46]) = true := by simpa using h4
  simp only [nameL, e1, e2, e3, e4, Bool.and_true]
theorem all_signR (l : Bs) (h : l.all signR = true) : l.all sign = true := by
  rw [List.all_eq_true] at h ⊢
  intro c hc
  have := h c hc
  simp only [signR, Bool.and_eq_true] at this
  exact this.1
theorem all_snocR (l : Bs) (k : Nat) (h : k < l.length) : (l.take (k + 1)).all signR = ((l.take k).all signR && signR l[k]) := by
  rw [List.take_succ_eq_append_getElem h]; simp only [List.all_append, List.all_cons, List.all_nil, Bool.and_true]
theorem not_allR (l : Bs) (k : Nat) (h : k < l.length) (hs : signR l[k] = false) : l.all signR = false := by
  rw [List.all_eq_false]; exact ⟨l[k], List.getElem_mem h, by simp [hs]⟩

set_option maxHeartbeats 400000 in
theorem refIsName_any (s : ByteArray) (w : World) (hs : s.size ≤ maxLen) :
    Calls Tryz.prog 57 #[.string s] w fun e w' => e = .returned (.bool (nameR s.data.toList)) ∧ w = w' := by
  unfold maxLen at hs
  have HS : Hid (s.size = s.data.toList.length) := Go.Lib.size_eq s
  have HE : Hid (s.toList = s.data.toList) := Go.Lib.toList_data s
  by_cases h1 : 1 ≤ s.size
  · by_cases h2 : s.size ≤ 40
    · by_cases h3 : s.data.toList = [46]
      · have hres : nameR s.data.toList = false := by rw [h3]; rfl
        have HR := Lib.hid hres
        have h3' : s.toList = [46] := by rw [HE.out, h3]
        clear hres h3
        go_enter Tryz.func57, Tryz.ntmps57
        go_wp2
        go_ret
        exact ⟨ret_bool HR.out.symm, rfl⟩
      · by_cases h4 : s.data.toList = [46, 46]
        · have hres : nameR s.data.toList = false := by rw [h4]; rfl
          have HR := Lib.hid hres
          have h4' : s.toList = [46, 46] := by rw [HE.out, h4]
          clear hres h3 h4
          go_enter Tryz.func57, Tryz.ntmps57
          go_wp2
          go_ret
          exact ⟨ret_bool HR.out.symm, rfl⟩
        · have hnm := nameL_of s.data.toList (by rw [← HS.out]; exact h1) (by rw [← HS.out]; exact h2) h3 h4
          have HN := Lib.hid hnm
          have h3' : ¬ s.toList = [46] := by rw [HE.out]; exact h3
          have h4' : ¬ s.toList = [46, 46] := by rw [HE.out]; exact h4
          have h3b : (s.toList == [46]) = false := by simpa using h3'
          have h4b : (s.toList == [46, 46]) = false := by simpa using h4'
          clear h3 h4 hnm
          go_enter Tryz.func57, Tryz.ntmps57
          go_wp2
          go_loop [3] (fun i => ∃ k : Nat, k ≤ s.size ∧ i = .int .i64 k ∧ (s.data.toList.take k).all signR = true) (fun i => s.size - (intOf i).toNat)
          case atStart => exact ⟨0, Nat.zero_le _, rfl, rfl⟩
          case round =>
            obtain ⟨k, hk, rfl, ht⟩ := hrel
            have HT := Lib.hid ht; clear ht
            by_cases hlt : k < s.size
            · have hl : k < s.data.toList.length := by rw [← HS.out]; exact hlt
              have hg : s.data.toList[k] = s[k] := by rw [Array.getElem_toList]; rfl
              by_cases hsg : signR s[k] = true
              · have hb : 33 ≤ s[k].toNat ∧ s[k].toNat ≤ 126 ∧ ¬ s[k].toNat = 47 := by
                  simp only [signR, sign, Bool.and_eq_true, decide_eq_true_eq, UInt8.le_iff_toNat_le, bne_iff_ne] at hsg
                  exact ⟨hsg.1.1, hsg.1.2, fun e => hsg.2 (UInt8.toNat_inj.1 e)⟩
                obtain ⟨hb1, hb2, hb3⟩ := hb
                have hb4 : ((s[k].toNat : Int) == 47) = false := by rw [beq_eq_false_iff_ne]; omega
                have HG := Lib.hid hsg
                have HX := Lib.hid hg
                clear hsg hg hb3
                go_wp2
                go_round
                case rel => exact ⟨k + 1, by omega, by go_num, by rw [all_snocR _ _ hl, HT.out, HX.out, HG.out]; rfl⟩
                case measure => simp [intOf]; omega
              · have hb : s[k].toNat < 33 ∨ 126 < s[k].toNat ∨ (33 ≤ s[k].toNat ∧ s[k].toNat ≤ 126 ∧ s[k].toNat = 47) := by
                  simp only [signR, sign, Bool.and_eq_true, decide_eq_true_eq, UInt8.le_iff_toNat_le, bne_iff_ne] at hsg
                  have h33 : (33 : UInt8).toNat = 33 := rfl
                  have h126 : (126 : UInt8).toNat = 126 := rfl
                  rcases Nat.lt_or_ge s[k].toNat 33 with h | h
                  · exact .inl h
                  · rcases Nat.lt_or_ge 126 s[k].toNat with h' | h'
                    · exact .inr (.inl h')
                    · refine .inr (.inr ⟨h, h', ?_⟩)
                      by_cases e : s[k] = 47
                      · rw [e]; rfl
                      · exact absurd ⟨⟨by omega, by omega⟩, e⟩ hsg
                have hres : nameR s.data.toList = false := by
                  simp only [nameR, not_allR _ _ hl (by rw [hg]; simpa using hsg), Bool.and_false]
                have HR := Lib.hid hres
                clear hsg hg hres
                rcases hb with hb | hb | ⟨hb, hb', hb''⟩
                · go_wp2
                  go_ret
                  exact ⟨ret_bool (by rw [HR.out]), rfl⟩
                · go_wp2
                  go_ret
                  exact ⟨ret_bool (by rw [HR.out]), rfl⟩
                · have hb4 : ((s[k].toNat : Int) == 47) = true := by rw [beq_iff_eq]; omega
                  clear hb''
                  go_wp2
                  go_ret
                  exact ⟨ret_bool (by rw [HR.out]), rfl⟩
            · have hall : s.data.toList.all signR = true := by
                have := HT.out
                rwa [List.take_of_length_le (by rw [← HS.out]; omega)] at this
              have HA := Lib.hid hall
              clear hall
              go_wp2
              go_ret
              exact ⟨ret_bool (by rw [nameR, HN.out, all_signR _ HA.out, HA.out]; rfl), rfl⟩
    · have hres : nameR s.data.toList = false := nameR_no _ (by
        have : decide (s.data.toList.length ≤ 40) = false := decide_eq_false (by rw [← HS.out]; exact h2)
        simp only [nameL, this, Bool.and_false, Bool.false_and])
      have HR := Lib.hid hres
      clear hres
      go_enter Tryz.func57, Tryz.ntmps57
      go_wp2
      go_ret
      exact ⟨ret_bool HR.out.symm, rfl⟩
  · have hres : nameR s.data.toList = false := nameR_no _ (by
      have : decide (1 ≤ s.data.toList.length) = false := decide_eq_false (by rw [← HS.out]; exact h1)
      simp only [nameL, this, Bool.and_false, Bool.false_and])
    have HR := Lib.hid hres
    clear hres
    go_enter Tryz.func57, Tryz.ntmps57
    go_wp2
    go_ret
    exact ⟨ret_bool HR.out.symm, rfl⟩

theorem ofL_snoc (l : List Bs) (k : Nat) (h : k < l.length) : ofL (l.take (k + 1)) = ofL (l.take k) ++ 47 :: l[k] := by
  rw [List.take_succ_eq_append_getElem h]; simp only [ofL, List.flatMap_append, List.flatMap_cons, List.flatMap_nil, List.append_nil]
theorem ofL_take_le (l : List Bs) (k : Nat) : (ofL (l.take k)).length ≤ (ofL l).length := by
  conv => rhs; rw [← List.take_append_drop k l]
  simp only [ofL, List.flatMap_append, List.length_append]
  omega

set_option maxHeartbeats 400000 in
theorem refOf_any (v : Value) (xs : List ByteArray) (w : World) (h : Strs w v xs) (hl : (ofL (xs.map (·.data.toList))).length ≤ 1000000) :
    Calls Tryz.prog 45 #[v] w fun e w' => e = .returned (.string ⟨(ofL (xs.map (·.data.toList))).toArray⟩) ∧ w = w' := by
  obtain ⟨a, c, rfl, hcc, hm, hop⟩ := Strs.open h
  have HO := Lib.hid hop
  unfold maxLen at hm
  clear hop h
  go_enter Tryz.func45, Tryz.ntmps45
  go_wp2
  go_loop [3, 4] (fun s i => ∃ k : Nat, k ≤ xs.length ∧ i = .int .i64 k ∧ s = .string ⟨(ofL ((xs.map (·.data.toList)).take k)).toArray⟩) (fun _ i => xs.length - (intOf i).toNat)
  case atStart => exact ⟨0, Nat.zero_le _, rfl, by simp [ofL]⟩
  case round =>
    obtain ⟨k, hk, rfl, rfl⟩ := hrel
    by_cases hlt : k < xs.length
    · obtain ⟨b, off, rfl, hb, hc⟩ := HO.out (by omega)
      have hcell := hc k hlt
      have hk' : k < (xs.map (·.data.toList)).length := by simpa using hlt
      have hsn := ofL_snoc (xs.map (·.data.toList)) k hk'
      have hle := ofL_take_le (xs.map (·.data.toList)) (k + 1)
      rw [hsn] at hle
      have hg : (xs.map (·.data.toList))[k] = xs[k].data.toList := by simp
      rw [hg] at hsn hle
      simp only [List.length_append, List.length_cons] at hle
      have hsz : xs[k].size = xs[k].data.toList.length := Lib.size_eq _
      generalize ofL ((xs.map (·.data.toList)).take k) = A at hsn hle
      have hA : A.length ≤ 1000000 := by omega
      have hX : xs[k].size ≤ 1000000 := by omega
      have hAX : A.length + 1 + xs[k].size ≤ 1000000 := by omega
      have c1 : ∀ wx, (Op.stringOp .add ⟨A.toArray⟩ ⟨#[47]⟩).run Tryz.prog wx = .ok (.string ⟨(A ++ [47]).toArray⟩) wx := fun wx => by
        rw [run_string_add_sum (P := Tryz.prog) wx _ _ (by simp [ByteArray.size]; omega)]
        rw [show (⟨#[47]⟩ : ByteArray) = ⟨[47].toArray⟩ from rfl, bytes_append]
      have c2 : ∀ wx, (Op.stringOp .add ⟨(A ++ [47]).toArray⟩ xs[k]).run Tryz.prog wx = .ok (.string ⟨(A ++ 47 :: xs[k].data.toList).toArray⟩) wx := fun wx => by
        rw [run_string_add_sum (P := Tryz.prog) wx _ _ (by show (A ++ [47]).toArray.size + _ ≤ _; simp only [List.size_toArray, List.length_append, List.length_cons, List.length_nil]; omega)]
        conv => lhs; rw [← bytes_self xs[k]]
        rw [bytes_append]; simp
      have HSN := Lib.hid hsn
      clear hsn hle hg hc hA hX hAX hsz
      go_wp2
      go_light
      exact ⟨⟨k + 1, by omega, by go_num, by rw [HSN.out]⟩, by simp [intOf]; omega⟩
    · have hke : (xs.map (·.data.toList)).take k = xs.map (·.data.toList) := List.take_of_length_le (by simp; omega)
      have HK := Lib.hid hke
      clear hke
      go_wp2
      go_ret
      exact ⟨ret_val (by rw [HK.out]; rfl), rfl⟩
end Go.Proofs.YtjapjpigpakejaaGreatDoor
