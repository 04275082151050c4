/- Whose nodes a tree's are: Of, counted. -/
import Derived.Test.YtkpcmbgnaenbhaaGreatDoorAvG42
namespace Go.Proofs.YtkpcmbgnaenbhaaGreatDoor
set_option maxRecDepth 100000
open Go.RowKit Av

/-- Of a list of paths those whose nodes are a session's. -/
def ofS (P : Pt) (L : List Bs) (s : Int) : List Bs := L.filter fun x => decide (0 < s) && (ownI P x == s)
theorem ownB_pl (t : Tr) (s : Int) (x : Bs) : ownB t s x = (decide (0 < s) && (ownI (pl t) x == s)) := by
  unfold ownB ownI
  rw [pl_get]
  cases mget t ⟨x.toArray⟩ with
  | none =>
    by_cases h : 0 < s
    · have h2 : ¬ (0 : Int) = s := by omega
      simp [h2]
    · simp [h]
  | some e => rfl
theorem tsOf {w0 w : World} {b m : Nat} {room : Int} {K : Nat} {t : Tr} (h : TS w0 w b m room K t) (hs : SoundP room (pl t)) (hr : room ≤ 100000) (s : Int) :
    Calls Tryz.prog 25 #[.pointer (some ⟨b, 0, none⟩), .int .i64 s] w fun e w' => PathsPost w (ofS (pl t) (pathsP (pl t)) s) e w' := by
  have e : ofS (pl t) (pathsP (pl t)) s = (pathsP (pl t)).filter (ownB t s) := by
    unfold ofS
    congr 1
    funext x
    rw [ownB_pl]
  rw [e]
  refine treeOf_any w0.heap.size b m room t s w h.tr (fun e he => ?_) ?_
  · have h1 : mget (pl t) e.1 = some e.2.2 := by
      rw [pl_get, mget_of_mem h.tr.keys (k := e.1) he]; rfl
    have := path_small e.1 (hs.good _ _ h1)
    unfold maxLen
    omega
  · have := hs.size
    rw [pl_len] at this
    omega
theorem ofS_zero (P : Pt) (L : List Bs) : ofS P L 0 = [] := by unfold ofS; simp
theorem ofS_mem {P : Pt} {L : List Bs} {x : Bs} (hx : x ∈ L) (h : 0 < ownI P x) : x ∈ ofS P L (ownI P x) := by
  unfold ofS
  rw [List.mem_filter]
  simp [hx, h]
/-- How many have an owner. -/
def manyN (P : Pt) (L : List Bs) : Nat := (L.filter fun x => decide (ownI P x ≠ 0)).length
def inN (P : Pt) (D : List Int) (L : List Bs) : Nat := (L.filter fun x => decide (ownI P x ∈ D)).length
theorem many_yes {P : Pt} {L : List Bs} {j : Nat} (hj : j < L.length) (h : ownI P L[j] ≠ 0) : manyN P (L.take (j + 1)) = manyN P (L.take j) + 1 := by
  unfold manyN
  rw [filter_yes hj (by simpa using h)]
  simp
theorem many_no {P : Pt} {L : List Bs} {j : Nat} (hj : j < L.length) (h : ownI P L[j] = 0) : manyN P (L.take (j + 1)) = manyN P (L.take j) := by
  unfold manyN
  rw [filter_no hj (by simp [h])]
theorem in_nil {P : Pt} {L : List Bs} : inN P [] L = 0 := by unfold inN; simp
theorem in_step {P : Pt} {D : List Int} {s : Int} (hs : s ∉ D) (h1 : 1 ≤ s) (L : List Bs) : inN P (D ++ [s]) L = inN P D L + (ofS P L s).length := by
  unfold inN ofS
  rw [count_app (f := ownI P) hs L]
  congr 2
  refine congrArg (fun f => L.filter f) ?_
  funext x
  have h0 : decide (0 < s) = true := by simpa using (by omega : 0 < s)
  rw [h0, Bool.true_and, Bool.eq_iff_iff]
  simp
theorem in_many {P : Pt} {D S : List Int} (hD : ∀ s ∈ D, 1 ≤ s) (hS : ∀ s ∈ S, 1 ≤ s → s ∈ D) (hO : AllN (OwnedBy S) P) (L : List Bs) : inN P D L = manyN P L := by
  unfold inN manyN
  refine congrArg List.length (congrArg (fun f => L.filter f) ?_)
  funext x
  rw [Bool.eq_iff_iff, decide_eq_true_eq, decide_eq_true_eq]
  rcases owned_all hO x with h | ⟨h1, h2⟩
  · rw [h]
    exact ⟨fun hm => by have := hD 0 hm; omega, fun hm => absurd rfl hm⟩
  · exact ⟨fun _ => by omega, fun _ => hS _ h2 h1⟩
abbrev i64V (n : Int) : Value := .int .i64 n
abbrev i64T : TypeId := 2
theorem i64s_facts : Tryz.prog.underlying 57 = some (.slice i64T) ∧ (Tryz.prog.info? i64T).map (fun i => (i.zero.map fun z => z.cells.size, i.size, decide (i.bytes ≤ 64))) = some (some 1, 1, true) := ⟨by kernel_rfl, by kernel_rfl⟩
end Go.Proofs.YtkpcmbgnaenbhaaGreatDoor
