/- A request out of bytes: plain laws. -/
import Derived.Test.YtlcbllgmnbhphaaGreatDoorAvWPut
import Derived.Test.YtlcbllgmnbhphaaGreatDoorAvReqArg
namespace Go.Proofs.YtlcbllgmnbhphaaGreatDoor
set_option maxRecDepth 100000
open Go.RowKit Av

/-- One op is read. -/
def rdO (m1 m2 : Int) (s : Rd) : OpV × Rd :=
  (⟨(rdI s).1, mkS (rdT m1 (rdI s).2).1, mkS (rdT m2 (rdT m1 (rdI s).2).2).1, (rdI (rdT m2 (rdT m1 (rdI s).2).2).2).1, (rdI (rdI (rdT m2 (rdT m1 (rdI s).2).2).2).2).1⟩, (rdI (rdI (rdT m2 (rdT m1 (rdI s).2).2).2).2).2)
def rdOs (m1 m2 : Int) : Nat → Rd → List OpV × Rd
  | 0, s => ([], s)
  | k + 1, s => ((rdOs m1 m2 k s).1 ++ [(rdO m1 m2 (rdOs m1 m2 k s).2).1], (rdO m1 m2 (rdOs m1 m2 k s).2).2)
def getAll (m1 m2 : Int) (b : Bs) : (Int × Int × List OpV) × Rd :=
  (((rdI (some b)).1, (rdI (rdI (some b)).2).1, (rdOs m1 m2 (rdC 16 (rdI (rdI (some b)).2).2).1.toNat (rdC 16 (rdI (rdI (some b)).2).2).2).1), (rdOs m1 m2 (rdC 16 (rdI (rdI (some b)).2).2).1.toNat (rdC 16 (rdI (rdI (some b)).2).2).2).2)
theorem rdI_lost {s : Rd} (h : (rdI s).2 ≠ none) : s ≠ none := fun e => h (by rw [e]; rfl)
theorem rdO_some {m1 m2 : Int} {s : Rd} {o : OpV} {r : Bs} (h : rdO m1 m2 s = (o, some r)) : s = some (encO o ++ r) ∧ Op64 o ∧ (o.path.size : Int) ≤ m1 ∧ (o.data.size : Int) ≤ m2 := by
  unfold rdO at h
  simp only [Prod.mk.injEq] at h
  obtain ⟨rfl, h5⟩ := h
  obtain ⟨⟨k, s1⟩, e1⟩ : ∃ p, rdI s = p := ⟨_, rfl⟩
  rw [e1] at h5 ⊢
  simp only at h5 ⊢
  obtain ⟨⟨p, s2⟩, e2⟩ : ∃ p, rdT m1 s1 = p := ⟨_, rfl⟩
  rw [e2] at h5 ⊢
  simp only at h5 ⊢
  obtain ⟨⟨d, s3⟩, e3⟩ : ∃ p, rdT m2 s2 = p := ⟨_, rfl⟩
  rw [e3] at h5 ⊢
  simp only at h5 ⊢
  obtain ⟨⟨v, s4⟩, e4⟩ : ∃ p, rdI s3 = p := ⟨_, rfl⟩
  rw [e4] at h5 ⊢
  simp only at h5 ⊢
  obtain ⟨⟨f, s5⟩, e5⟩ : ∃ p, rdI s4 = p := ⟨_, rfl⟩
  rw [e5] at h5 ⊢
  simp only at h5 ⊢
  subst h5
  obtain ⟨rfl, i5⟩ := rdI_some e5
  obtain ⟨rfl, i4⟩ := rdI_some e4
  obtain ⟨rfl, i3⟩ := rdT_some e3
  obtain ⟨rfl, i2⟩ := rdT_some e2
  obtain ⟨rfl, i1⟩ := rdI_some e1
  refine ⟨?_, ⟨i1, i4, i5⟩, i2, i3⟩
  simp only [encO, mkS_list, List.append_assoc]
theorem rdOs_some {m1 m2 : Int} : ∀ {k : Nat} {s : Rd} {xs : List OpV} {r : Bs}, rdOs m1 m2 k s = (xs, some r) → s = some (xs.flatMap encO ++ r) ∧ xs.length = k ∧ ∀ o ∈ xs, Op64 o
  | 0, s, xs, r, h => by
    simp only [rdOs, Prod.mk.injEq] at h
    obtain ⟨rfl, rfl⟩ := h
    exact ⟨rfl, rfl, fun o ho => by cases ho⟩
  | k + 1, s, xs, r, h => by
    simp only [rdOs, Prod.mk.injEq] at h
    obtain ⟨⟨ys, s'⟩, e⟩ : ∃ p, rdOs m1 m2 k s = p := ⟨_, rfl⟩
    rw [e] at h
    obtain ⟨h1, h2⟩ := h
    obtain ⟨⟨o, s''⟩, eo⟩ : ∃ p, rdO m1 m2 s' = p := ⟨_, rfl⟩
    simp only [eo] at h1 h2
    subst h1 h2
    obtain ⟨rfl, io, _⟩ := rdO_some eo
    obtain ⟨rfl, hl, ho⟩ := rdOs_some e
    refine ⟨by simp only [List.flatMap_append, List.flatMap_singleton, List.append_assoc], by simp [hl], ?_⟩
    intro x hx
    rcases List.mem_append.1 hx with hx | hx
    · exact ho x hx
    · simp at hx; subst hx; exact io
theorem rdOs_len (m1 m2 : Int) (s : Rd) : ∀ k, (rdOs m1 m2 k s).1.length = k
  | 0 => rfl
  | k + 1 => by simp only [rdOs, List.length_append, List.length_singleton, rdOs_len m1 m2 s k]
theorem rdC_le {most : Int} (s : Rd) (h : 0 ≤ most) : (rdC most s).1 ≤ most := by
  unfold rdC
  split
  · exact h
  · rename_i hc
    simp only [not_or, Int.not_lt] at hc
    exact hc.2
theorem rdT_le {most : Int} (s : Rd) (h : 0 ≤ most) : ((rdT most s).1.length : Int) ≤ most := by
  unfold rdT
  split
  · rename_i n l e
    have := rdC_le s h
    rw [e] at this
    simp only at this
    split
    · exact h
    · simp only [List.length_take]; omega
  · exact h
theorem rdOs_sz (s : Rd) : ∀ k, OpsSz (rdOs 20000 20000 k s).1
  | 0 => fun o ho => by cases ho
  | k + 1 => by
    intro o ho
    simp only [rdOs] at ho
    rcases List.mem_append.1 ho with ho | ho
    · exact rdOs_sz s k o ho
    · simp only [List.mem_singleton] at ho
      subst ho
      have h1 := rdT_le (most := 20000) (rdI (rdOs 20000 20000 k s).2).2 (by decide)
      have h2 := rdT_le (most := 20000) (rdT 20000 (rdI (rdOs 20000 20000 k s).2).2).2 (by decide)
      unfold rdO maxLen
      simp only [mkS_size]
      omega
theorem rdO_enc {m1 m2 : Int} (o : OpV) (r : Bs) (h : Op64 o) (h1 : (o.path.size : Int) ≤ m1) (h2 : (o.data.size : Int) ≤ m2) (h3 : o.path.size ≤ 1000000) (h4 : o.data.size ≤ 1000000) : rdO m1 m2 (some (encO o ++ r)) = (o, some r) := by
  obtain ⟨i1, i4, i5⟩ := h
  unfold rdO encO
  simp only [List.append_assoc]
  rw [rdI_be8 i1]
  simp only
  rw [rdT_txt _ _ h1 h3]
  simp only
  rw [rdT_txt _ _ h2 h4]
  simp only
  rw [rdI_be8 i4]
  simp only
  rw [rdI_be8 i5]
  rfl
theorem rdOs_enc {m1 m2 : Int} : ∀ (k : Nat) (xs : List OpV) (r : Bs), xs.length = k → (∀ o ∈ xs, Op64 o ∧ (o.path.size : Int) ≤ m1 ∧ (o.data.size : Int) ≤ m2 ∧ o.path.size ≤ 1000000 ∧ o.data.size ≤ 1000000) → rdOs m1 m2 k (some (xs.flatMap encO ++ r)) = (xs, some r)
  | 0, xs, r, hl, _ => by rw [List.length_eq_zero_iff.1 hl]; rfl
  | k + 1, xs, r, hl, h => by
    rcases List.eq_nil_or_concat xs with rfl | ⟨ys, o, rfl⟩
    · simp at hl
    · simp only [List.concat_eq_append, List.length_append, List.length_singleton] at hl
      have ih := rdOs_enc (m1 := m1) (m2 := m2) k ys (encO o ++ r) (by omega) (fun x hx => h x (by simp [hx]))
      obtain ⟨a1, a2, a3, a4, a5⟩ := h o (by simp)
      have e : (ys.concat o).flatMap encO ++ r = ys.flatMap encO ++ (encO o ++ r) := by
        simp only [List.concat_eq_append, List.flatMap_append, List.flatMap_singleton, List.append_assoc]
      rw [e]
      simp only [rdOs, ih]
      rw [rdO_enc o r a1 a2 a3 a4 a5, List.concat_eq_append]
theorem getAll_some {m1 m2 : Int} {b : Bs} {s n : Int} {xs : List OpV} (h : getAll m1 m2 b = ((s, n, xs), some [])) : b = encR s n xs ∧ I64 s ∧ I64 n ∧ ∀ o ∈ xs, Op64 o := by
  unfold getAll at h
  simp only [Prod.mk.injEq] at h
  obtain ⟨⟨h1, h2, h3⟩, h4⟩ := h
  obtain ⟨⟨s', t1⟩, e1⟩ : ∃ p, rdI (some b) = p := ⟨_, rfl⟩
  rw [e1] at h1 h2 h3 h4
  simp only at h1 h2 h3 h4
  obtain ⟨⟨n', t2⟩, e2⟩ : ∃ p, rdI t1 = p := ⟨_, rfl⟩
  rw [e2] at h2 h3 h4
  simp only at h2 h3 h4
  obtain ⟨⟨m, t3⟩, e3⟩ : ∃ p, rdC 16 t2 = p := ⟨_, rfl⟩
  rw [e3] at h3 h4
  simp only at h3 h4
  subst h1 h2
  obtain ⟨rfl, hl, ho⟩ := rdOs_some (show rdOs m1 m2 m.toNat t3 = (xs, some []) from Prod.ext h3 h4)
  obtain ⟨rfl, _, i3, _⟩ := rdC_some e3
  obtain ⟨rfl, i2⟩ := rdI_some e2
  obtain ⟨e, i1⟩ := rdI_some e1
  have hm : (xs.length : Int) = m := by rw [hl]; omega
  refine ⟨?_, i1, i2, ho⟩
  simp only [Option.some.injEq] at e
  rw [e]
  unfold encR
  rw [hm, List.append_nil]
theorem getAll_enc {m1 m2 : Int} {s n : Int} {xs : List OpV} (h : mayR s n xs = 0) (hs : I64 s) (hn : I64 n) (ho : ∀ o ∈ xs, Op64 o) (h1 : 200 ≤ m1) (h2 : 1000 ≤ m2) : getAll m1 m2 (encR s n xs) = ((s, n, xs), some []) := by
  obtain ⟨_, _, _, o4, o5, _⟩ := mayR_ok h
  have hr := rdOs_enc (m1 := m1) (m2 := m2) xs.length xs [] rfl (fun o hx => by
    have hg := good_kind (o5 o hx)
    have hp := path_small o.path hg.2.2.1
    have hd := hg.2.2.2.2.2.2
    exact ⟨ho o hx, by omega, by omega, by omega, by omega⟩)
  rw [List.append_nil] at hr
  have e3 : rdC 16 (some (be8 (xs.length : Int) ++ xs.flatMap encO)) = ((xs.length : Int), some (xs.flatMap encO)) := rdC_be8 (i64_len (by omega)) (Int.natCast_nonneg _) (by omega) _
  unfold getAll encR
  simp only [rdI_be8 hs, rdI_be8 hn, e3, Int.toNat_natCast, hr]
/-- What bytes say. -/
def getR (b : Bs) : Option (Int × Int × List OpV) := if (getAll 20000 20000 b).2 = some [] ∧ mayR (getAll 20000 20000 b).1.1 (getAll 20000 20000 b).1.2.1 (getAll 20000 20000 b).1.2.2 = 0 then some (getAll 20000 20000 b).1 else none
theorem getR_some {b : Bs} {s n : Int} {xs : List OpV} (h : getR b = some (s, n, xs)) : b = encR s n xs ∧ mayR s n xs = 0 ∧ I64 s ∧ I64 n ∧ ∀ o ∈ xs, Op64 o := by
  unfold getR at h
  split at h
  · rename_i hc
    simp only [Option.some.injEq] at h
    obtain ⟨g1, g2⟩ := hc
    obtain ⟨⟨g, t⟩, e⟩ : ∃ p, getAll 20000 20000 b = p := ⟨_, rfl⟩
    rw [e] at h g1 g2
    simp only at h g1 g2
    subst h g1
    obtain ⟨a1, a2, a3, a4⟩ := getAll_some e
    exact ⟨a1, g2, a2, a3, a4⟩
  · cases h
theorem getR_enc {s n : Int} {xs : List OpV} (h : mayR s n xs = 0) (hs : I64 s) (hn : I64 n) (ho : ∀ o ∈ xs, Op64 o) : getR (encR s n xs) = some (s, n, xs) := by
  have e := getAll_enc (m1 := 20000) (m2 := 20000) h hs hn ho (by decide) (by decide)
  unfold getR
  rw [e]
  exact if_pos ⟨rfl, h⟩
/-- The reference's shorter texts say the same. -/
theorem getR_ref (b : Bs) : getR b = if (getAll 200 1000 b).2 = some [] ∧ mayR (getAll 200 1000 b).1.1 (getAll 200 1000 b).1.2.1 (getAll 200 1000 b).1.2.2 = 0 then some (getAll 200 1000 b).1 else none := by
  split
  · rename_i hc
    obtain ⟨g1, g2⟩ := hc
    obtain ⟨⟨⟨s, n, xs⟩, t⟩, e⟩ : ∃ p, getAll 200 1000 b = p := ⟨_, rfl⟩
    rw [e] at g1 g2 ⊢
    simp only at g1 g2 ⊢
    subst g1
    obtain ⟨a1, a2, a3, a4⟩ := getAll_some e
    rw [a1]
    exact getR_enc g2 a2 a3 a4
  · rename_i hc
    cases hg : getR b with
    | none => rfl
    | some t =>
      obtain ⟨s, n, xs⟩ := t
      obtain ⟨a1, a2, a3, a4, a5⟩ := getR_some hg
      rw [a1, getAll_enc (m1 := 200) (m2 := 1000) a2 a3 a4 a5 (by decide) (by decide)] at hc
      exact absurd ⟨rfl, a2⟩ hc
theorem putR_get {b : Bs} (h1 : (getAll 200 1000 b).2 = some []) (h2 : mayR (getAll 200 1000 b).1.1 (getAll 200 1000 b).1.2.1 (getAll 200 1000 b).1.2.2 = 0) : putR (getAll 200 1000 b).1.1 (getAll 200 1000 b).1.2.1 (getAll 200 1000 b).1.2.2 = b := by
  obtain ⟨⟨⟨s, n, xs⟩, t⟩, e⟩ : ∃ p, getAll 200 1000 b = p := ⟨_, rfl⟩
  rw [e] at h1 h2 ⊢
  simp only at h1 h2 ⊢
  subst h1
  obtain ⟨a1, _⟩ := getAll_some e
  unfold putR
  rw [if_pos h2, ← a1]
end Go.Proofs.YtlcbllgmnbhphaaGreatDoor
