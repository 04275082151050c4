/- A piece of a slice. No program. -/
import Derived.Test.YtmgnndhhpnedkaaGreatDoorAvApp2
namespace Av
set_option maxRecDepth 100000
open Go Go.RowKit
/-- The address of a piece that begins at element i (m cells on), as the model has it. -/
def cutAd (a : Option Addr) (c i m : Nat) : Option Addr := if c = i then a else Option.map (fun x => x.add m) a
theorem cut_fold (a : Option Addr) (c i m : Nat) : (if c = i then a else Option.map (fun x => x.add m) a) = cutAd a c i m := rfl
theorem Sl.cut {w : World} {k n c : Nat} {a : Option Addr} {xs : List Value} (h : Sl w k (.slice a n c) n xs) (i j m : Nat) (hm : m = i * k) (hij : i ≤ j) (hj : j ≤ n) :
    Sl w k (.slice (cutAd a c i m) (j - i) (c - i)) (j - i) ((xs.drop m).take ((j - i) * k)) := by
  obtain ⟨a', c', e, hcc, h2, h1, h3⟩ := Sl.open h
  simp only [Value.slice.injEq, true_and] at e
  obtain ⟨rfl, rfl⟩ := e
  have hmk : (j - i) * k + m ≤ n * k := by rw [hm, ← Nat.add_mul]; exact Nat.mul_le_mul_right k (by omega)
  have hl : ((xs.drop m).take ((j - i) * k)).length = (j - i) * k := by rw [List.length_take, List.length_drop]; omega
  refine ⟨hl, by omega, _, _, rfl, by omega, ?_⟩
  by_cases h0 : j - i = 0
  · exact .inl h0
  · right
    obtain ⟨b, off, rfl, hb, hc⟩ := h3 (by omega)
    refine ⟨b, off + m, ?_, hb, fun t x hx => ?_⟩
    · unfold cutAd
      rw [if_neg (by omega)]
      simp only [Option.map_some, Option.some.injEq]
      by_cases hm0 : m = 0 <;> simp [Addr.add, hm0]
    · rw [List.getElem?_take] at hx
      split at hx
      · rw [List.getElem?_drop] at hx
        rw [Nat.add_assoc]
        exact hc (m + t) x hx
      · cases hx
theorem Shp.cut {a : Option Addr} {n c i j m : Nat} (h : Shp (.slice a n c)) (hij : i ≤ j) (hj : j ≤ n) : Shp (.slice (cutAd a c i m) (j - i) (c - i)) := by
  rcases h with h | ⟨ad, l, c', h⟩
  · simp only [Value.slice.injEq] at h
    obtain ⟨rfl, rfl, rfl⟩ := h
    left
    have : i = 0 := by omega
    have : j = 0 := by omega
    subst i j
    rfl
  · simp only [Value.slice.injEq] at h
    obtain ⟨rfl, rfl, rfl⟩ := h
    right
    unfold cutAd
    split
    · exact ⟨_, _, _, rfl⟩
    · exact ⟨_, _, _, rfl⟩
theorem cut_own {a : Option Addr} {n c i j m b : Nat} (h : (Value.slice (cutAd a c i m) (j - i) (c - i)).ownBlock = some b) : (Value.slice a n c).ownBlock = some b := by
  cases a with
  | none => unfold cutAd at h; split at h <;> simp [Value.ownBlock] at h
  | some ad =>
    unfold cutAd at h
    split at h
    · simpa [Value.ownBlock] using h
    · simp only [Option.map_some, Value.ownBlock] at h ⊢
      have : (ad.add m).block = ad.block := by simp [Addr.add]; split <;> rfl
      simpa [this] using h
theorem BytesR.cut {w : World} {a : Option Addr} {c : Nat} {bs : List UInt8} (h : BytesR w (.slice a bs.length c) bs) (i j : Nat) (hij : i ≤ j) (hj : j ≤ bs.length) :
    BytesR w (.slice (cutAd a c i i) (j - i) (c - i)) ((bs.drop i).take (j - i)) := by
  have hl : ((bs.drop i).take (j - i)).length = j - i := by rw [List.length_take, List.length_drop]; omega
  refine ⟨?_, h.2.cut hij hj⟩
  rw [hl]
  have := h.1.cut i j i (by omega) hij hj
  rwa [Nat.mul_one, ← List.map_drop, ← List.map_take] at this
end Av
