/- Slices of ops in memory; what a request may be. No program. -/
import Derived.Test.YtkpcmbgnaenbhaaDoorAvOpLaw
import Derived.Test.YtkpcmbgnaenbhaaDoorAvApp2
namespace Av
set_option maxRecDepth 100000
open Go Go.RowKit
theorem rows_cell {α : Type} (f : α → List Value) (K : Nat) (hf : ∀ x, (f x).length = K) : ∀ (xs : List α) (k : Nat) (hk : k < xs.length) (j : Nat), j < K → (xs.flatMap f)[k * K + j]? = (f xs[k])[j]?
  | [], _, hk, _, _ => by simp at hk
  | a :: xs, 0, _, j, hj => by
    simp only [List.flatMap_cons, List.getElem_cons_zero, Nat.zero_mul, Nat.zero_add]
    rw [List.getElem?_append_left (by rw [hf]; exact hj)]
  | a :: xs, k + 1, hk, j, hj => by
    simp only [List.flatMap_cons, List.getElem_cons_succ]
    rw [List.getElem?_append_right (by rw [hf, Nat.succ_mul]; omega)]
    have := rows_cell f K hf xs k (by simpa using hk) j hj
    rw [← this, hf]
    congr 1
    rw [Nat.succ_mul]
    omega
theorem rows_len {α : Type} (f : α → List Value) (K : Nat) (hf : ∀ x, (f x).length = K) (xs : List α) : (xs.flatMap f).length = xs.length * K := by
  induction xs with
  | nil => simp
  | cons a l ih => rw [List.flatMap_cons, List.length_append, hf, ih, List.length_cons, Nat.succ_mul]; omega
/-- A slice of ops. -/
def OpsAt (w : World) (v : Value) (xs : List OpV) : Prop := Sl w 5 v xs.length (xs.flatMap OpV.cells) ∧ Shp v
theorem OpsAt.ext {w w' : World} {v : Value} {xs : List OpV} (h : OpsAt w v xs) (k : Ext w w') : OpsAt w' v xs := ⟨h.1.ext k, h.2⟩
theorem OpsAt.kp {S : Nat → Prop} {w w' : World} {v : Value} {xs : List OpV} (h : OpsAt w v xs) (k : Kp S w w') (hs : ∀ b, v.ownBlock = some b → b < w.heap.size → ¬ S b) : OpsAt w' v xs := ⟨h.1.kp k hs, h.2⟩
theorem OpsAt.nil (w : World) : OpsAt w (.slice none 0 0) [] := ⟨Sl.nil w 5, .inl rfl⟩
theorem op_one (xs : List OpV) : ∀ y ∈ xs.flatMap OpV.cells, y.oneCell' = true := by
  intro y hy
  obtain ⟨o, _, h⟩ := List.mem_flatMap.1 hy
  simp only [OpV.cells, List.mem_cons, List.not_mem_nil, or_false] at h
  rcases h with rfl | rfl | rfl | rfl | rfl <;> rfl
theorem OpsAt.open {w : World} {v : Value} {xs : List OpV} (h : OpsAt w v xs) :
    ∃ a c, v = .slice a xs.length c ∧ xs.length ≤ c ∧ xs.length ≤ maxLen ∧ (0 < xs.length → ∃ b off, a = some ⟨b, off, none⟩ ∧ b < w.heap.size ∧ ∀ k (hk : k < xs.length),
      w.cell? ⟨b, off + k * 5, none⟩ = some (.int .i64 xs[k].kind) ∧ w.cell? ⟨b, off + k * 5 + 1, none⟩ = some (.string xs[k].path) ∧ w.cell? ⟨b, off + k * 5 + 2, none⟩ = some (.string xs[k].data) ∧
      w.cell? ⟨b, off + k * 5 + 3, none⟩ = some (.int .i64 xs[k].ver) ∧ w.cell? ⟨b, off + k * 5 + 4, none⟩ = some (.int .i64 xs[k].flags)) := by
  obtain ⟨a, c, rfl, hcc, h1, _, h3⟩ := Sl.open h.1
  refine ⟨a, c, rfl, hcc, h1, fun hn => ?_⟩
  obtain ⟨b, off, rfl, hb, hc⟩ := h3 hn
  have key : ∀ k (hk : k < xs.length) j x, j < 5 → (xs[k].cells)[j]? = some x → w.cell? ⟨b, off + (k * 5 + j), none⟩ = some x := fun k hk j x hj hx =>
    hc (k * 5 + j) x (by rw [rows_cell OpV.cells 5 (fun _ => rfl) xs k hk j hj]; exact hx)
  refine ⟨b, off, rfl, hb, fun k hk => ⟨?_, ?_, ?_, ?_, ?_⟩⟩
  · have := key k hk 0 _ (by omega) rfl; rwa [Nat.add_zero] at this
  · have := key k hk 1 _ (by omega) rfl; rwa [← Nat.add_assoc] at this
  · have := key k hk 2 _ (by omega) rfl; rwa [← Nat.add_assoc] at this
  · have := key k hk 3 _ (by omega) rfl; rwa [← Nat.add_assoc] at this
  · have := key k hk 4 _ (by omega) rfl; rwa [← Nat.add_assoc] at this

/-- Each op's texts can be. -/
def OpsSz (xs : List OpV) : Prop := ∀ o ∈ xs, o.path.size ≤ maxLen ∧ o.data.size ≤ maxLen
/-- What is wrong with a request first. -/
def mayR (sess num : Int) (xs : List OpV) : Int :=
  if sess < 1 ∨ num < 1 ∨ xs.length = 0 then 1 else if 16 < xs.length then 2 else
    match xs.find? fun o => decide (goodO o ≠ 0) with
    | some o => goodO o
    | none => if 1 < xs.length ∧ xs.any (fun o => readsB o.kind) = true then 1 else 0
/-- Where the first one is, or -1. -/
def idxI (p : OpV → Bool) (xs : List OpV) : Int := match xs.findIdx? p with
  | some i => i
  | none => -1
theorem idxI_at {p : OpV → Bool} {xs : List OpV} {k : Nat} (hk : k < xs.length) (h : ∀ x ∈ xs.take k, p x = false) (hp : p xs[k] = true) : idxI p xs = k := by
  unfold idxI
  have : xs.findIdx? p = some k := by
    rw [List.findIdx?_eq_some_iff_getElem]
    refine ⟨hk, hp, fun j hj => ?_⟩
    have := h (xs[j]) (by rw [List.mem_take_iff_getElem]; exact ⟨j, by omega, rfl⟩)
    simp [this]
  rw [this]
theorem idxI_none {p : OpV → Bool} {xs : List OpV} (h : ∀ x ∈ xs, p x = false) : idxI p xs = -1 := by
  unfold idxI
  have : xs.findIdx? p = none := by rw [List.findIdx?_eq_none_iff]; exact h
  rw [this]
theorem idxI_any (p : OpV → Bool) (xs : List OpV) : decide (0 ≤ idxI p xs) = xs.any p := by
  unfold idxI
  cases h : xs.findIdx? p with
  | none =>
    have : xs.any p = false := by rw [List.any_eq_false]; intro x hx; simp [List.findIdx?_eq_none_iff.1 h x hx]
    rw [this]
    rfl
  | some i =>
    obtain ⟨hi, hp, _⟩ := List.findIdx?_eq_some_iff_getElem.1 h
    have : xs.any p = true := List.any_eq_true.2 ⟨_, List.getElem_mem hi, hp⟩
    rw [this]
    simp
theorem take_allP {α : Type} {p : α → Prop} {l : List α} {k : Nat} (hk : k < l.length) (h : ∀ x ∈ l.take k, p x) (hp : p l[k]) : ∀ x ∈ l.take (k + 1), p x := by
  intro x hx
  rw [List.take_succ_eq_append_getElem hk] at hx
  rcases List.mem_append.1 hx with hx | hx
  · exact h x hx
  · simp at hx; subst hx; exact hp
theorem find_atP {α : Type} (f : α → Bool) (l : List α) (k : Nat) (hk : k < l.length) (h : ∀ x ∈ l.take k, f x = false) (hf : f l[k] = true) : l.find? f = some l[k] := by
  rw [List.find?_eq_some_iff_getElem]
  refine ⟨hf, k, hk, rfl, fun j hj => ?_⟩
  have := h (l[j]) (by rw [List.mem_take_iff_getElem]; exact ⟨j, by omega, rfl⟩)
  simp [this]
theorem mayR_few {sess num : Int} {xs : List OpV} (h : sess < 1 ∨ num < 1 ∨ xs.length = 0) : mayR sess num xs = 1 := by unfold mayR; rw [if_pos h]
theorem mayR_many {sess num : Int} {xs : List OpV} (h : ¬ (sess < 1 ∨ num < 1 ∨ xs.length = 0)) (h2 : 16 < xs.length) : mayR sess num xs = 2 := by unfold mayR; rw [if_neg h, if_pos h2]
theorem mayR_bad {sess num : Int} {xs : List OpV} (h : ¬ (sess < 1 ∨ num < 1 ∨ xs.length = 0)) (h2 : ¬ 16 < xs.length) {k : Nat} (hk : k < xs.length) (h3 : ∀ x ∈ xs.take k, goodO x = 0) (h4 : goodO xs[k] ≠ 0) : mayR sess num xs = goodO xs[k] := by
  unfold mayR
  rw [if_neg h, if_neg h2, find_atP _ xs k hk (fun x hx => by simp [h3 x hx]) (by simpa using h4)]
theorem mayR_all {sess num : Int} {xs : List OpV} (h : ¬ (sess < 1 ∨ num < 1 ∨ xs.length = 0)) (h2 : ¬ 16 < xs.length) (h3 : ∀ x ∈ xs, goodO x = 0) : mayR sess num xs = if 1 < xs.length ∧ xs.any (fun o => readsB o.kind) = true then 1 else 0 := by
  unfold mayR
  have : xs.find? (fun o => decide (goodO o ≠ 0)) = none := by rw [List.find?_eq_none]; intro x hx; simp [h3 x hx]
  rw [if_neg h, if_neg h2, this]
theorem good_kind {o : OpV} (h : goodO o = 0) : 1 ≤ o.kind ∧ o.kind ≤ 7 ∧ goodL o.path.data.toList = true ∧ -1 ≤ o.ver ∧ 0 ≤ o.flags ∧ o.flags ≤ 3 ∧ o.data.size ≤ 1000 := by
  unfold goodO at h
  split at h
  · rename_i hf
    simp only [formedB, Bool.and_eq_true, decide_eq_true_eq] at hf
    split at h
    · cases h
    · exact ⟨hf.1, hf.2.1, hf.2.2.1, hf.2.2.2.1, hf.2.2.2.2.1, hf.2.2.2.2.2, by omega⟩
  · cases h
theorem mayR_ok {sess num : Int} {xs : List OpV} (h : mayR sess num xs = 0) : 1 ≤ sess ∧ 1 ≤ num ∧ 1 ≤ xs.length ∧ xs.length ≤ 16 ∧ (∀ o ∈ xs, goodO o = 0) ∧ (xs.length = 1 ∨ ∀ o ∈ xs, readsB o.kind = false) := by
  by_cases h1 : sess < 1 ∨ num < 1 ∨ xs.length = 0
  · rw [mayR_few h1] at h; cases h
  · by_cases h2 : 16 < xs.length
    · rw [mayR_many h1 h2] at h; cases h
    · by_cases h3 : ∀ o ∈ xs, goodO o = 0
      · rw [mayR_all h1 h2 h3] at h
        simp only [not_or, Int.not_lt] at h1
        refine ⟨h1.1, h1.2.1, by omega, by omega, h3, ?_⟩
        split at h
        · cases h
        · rename_i h4
          by_cases h5 : xs.length = 1
          · exact .inl h5
          · right
            intro o ho
            cases hr : readsB o.kind with
            | false => rfl
            | true => exact absurd ⟨by omega, List.any_eq_true.2 ⟨o, ho, hr⟩⟩ h4
      · unfold mayR at h
        rw [if_neg h1, if_neg h2] at h
        cases hf : xs.find? (fun o => decide (goodO o ≠ 0)) with
        | none =>
          rw [List.find?_eq_none] at hf
          exact absurd (fun o ho => by simpa using hf o ho) h3
        | some o =>
          rw [hf] at h
          have := List.find?_some hf
          simp at this
          exact absurd h this
end Av
