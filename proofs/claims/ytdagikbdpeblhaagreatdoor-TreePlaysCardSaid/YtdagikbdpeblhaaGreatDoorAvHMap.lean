/- Maps in memory, as lists of pairs: look-up, store, delete, length, and a range in whatever order. No program. -/
import Derived.Test.YtdagikbdpeblhaaGreatDoorAvG1
import Derived.MapKept
namespace Av
set_option maxRecDepth 100000
open Go Go.RowKit

section plain
variable {κ : Type} [DecidableEq κ]
/-- What stands at a key. -/
def mget {α : Type} : List (κ × α) → κ → Option α
  | [], _ => none
  | p :: r, k => if k = p.1 then some p.2 else mget r k
/-- With one more pair, or another value. -/
def mset {α : Type} : List (κ × α) → κ → α → List (κ × α)
  | [], k, v => [(k, v)]
  | p :: r, k, v => if k = p.1 then (k, v) :: r else p :: mset r k v
/-- Without a key. -/
def mdel {α : Type} (l : List (κ × α)) (k : κ) : List (κ × α) := l.filter fun p => decide (k ≠ p.1)

theorem mget_mset {α : Type} (l : List (κ × α)) (k k' : κ) (v : α) : mget (mset l k v) k' = if k' = k then some v else mget l k' := by
  induction l with
  | nil => simp [mset, mget]
  | cons p r ih =>
    unfold mset
    by_cases h : k = p.1
    · subst h
      simp only [if_true, mget]
      by_cases h2 : k' = p.1 <;> simp [h2]
    · simp only [h, if_false, mget, ih]
      by_cases h2 : k' = p.1
      · subst h2
        have : ¬ p.1 = k := fun e => h e.symm
        simp [this]
      · simp [h2]
theorem mget_mdel {α : Type} (l : List (κ × α)) (k k' : κ) : mget (mdel l k) k' = if k' = k then none else mget l k' := by
  induction l with
  | nil => simp [mdel, mget]
  | cons p r ih =>
    unfold mdel at ih ⊢
    by_cases h : k = p.1
    · subst h
      simp only [List.filter_cons, ne_eq, not_true_eq_false, decide_false, Bool.false_eq_true, if_false, ih, mget]
      by_cases h2 : k' = p.1 <;> simp [h2]
    · simp only [List.filter_cons, ne_eq, h, not_false_eq_true, decide_true, if_true, mget, ih]
      by_cases h2 : k' = p.1
      · subst h2
        have : ¬ p.1 = k := fun e => h e.symm
        simp [this]
      · simp [h2]
theorem mget_mem {α : Type} {l : List (κ × α)} {k : κ} {v : α} (h : mget l k = some v) : (k, v) ∈ l := by
  induction l with
  | nil => simp [mget] at h
  | cons p r ih =>
    unfold mget at h
    by_cases h2 : k = p.1
    · simp [h2] at h; subst h; subst h2; simp
    · simp [h2] at h; simp [ih h]
theorem mget_of_mem {α : Type} {l : List (κ × α)} (hn : (l.map (·.1)).Nodup) {k : κ} {v : α} (h : (k, v) ∈ l) : mget l k = some v := by
  induction l with
  | nil => simp at h
  | cons p r ih =>
    simp only [List.map_cons, List.nodup_cons] at hn
    unfold mget
    rcases List.mem_cons.1 h with rfl | h
    · simp
    · have : k ≠ p.1 := fun e => hn.1 (by rw [← e]; exact List.mem_map_of_mem (f := (·.1)) h)
      simp [this, ih hn.2 h]
theorem mget_none {α : Type} {l : List (κ × α)} {k : κ} : mget l k = none ↔ k ∉ l.map (·.1) := by
  induction l with
  | nil => simp [mget]
  | cons p r ih =>
    unfold mget
    by_cases h2 : k = p.1
    · simp [h2]
    · simp only [h2, if_false, ih, List.map_cons, List.mem_cons, false_or]
theorem mset_keys {α : Type} (l : List (κ × α)) (k : κ) (v : α) : (mset l k v).map (·.1) = if k ∈ l.map (·.1) then l.map (·.1) else l.map (·.1) ++ [k] := by
  induction l with
  | nil => simp [mset]
  | cons p r ih =>
    unfold mset
    by_cases h : k = p.1
    · simp [h]
    · simp only [h, if_false, List.map_cons, ih, List.mem_cons, false_or]
      by_cases h3 : k ∈ r.map (·.1) <;> simp [h3]
theorem mset_nodup {α : Type} {l : List (κ × α)} (h : (l.map (·.1)).Nodup) (k : κ) (v : α) : ((mset l k v).map (·.1)).Nodup := by
  rw [mset_keys]
  split
  · exact h
  · rw [List.nodup_append]
    exact ⟨h, by simp, by simp only [List.mem_singleton]; rintro a ha b rfl rfl; contradiction⟩
theorem mdel_nodup {α : Type} {l : List (κ × α)} (h : (l.map (·.1)).Nodup) (k : κ) : ((mdel l k).map (·.1)).Nodup :=
  List.Nodup.sublist (List.Sublist.map _ (List.filter_sublist)) h
theorem mset_length {α : Type} (l : List (κ × α)) (k : κ) (v : α) : (mset l k v).length = if (mget l k).isSome then l.length else l.length + 1 := by
  induction l with
  | nil => simp [mset, mget]
  | cons p r ih =>
    unfold mset mget
    by_cases h : k = p.1
    · simp [h]
    · simp only [h, if_false, List.length_cons, ih]
      split <;> rfl
end plain

/-- A key's type that the model looks at at once. -/
structure KOk (P : Program) (K : TypeId) {κ : Type} [DecidableEq κ] (mk : κ → Value) : Prop where
  same : ∃ kind, P.underlying K = some kind ∧ ∀ a b, Instr.sameNow kind (mk a) (mk b) = some (decide (a = b))
  chk : ∀ e a w, (Instr.checkKey e 10000 K (mk a)).run P w = .ok () w
  bits : ∀ a, Instr.sameBits 10000 (mk a) (mk a) = true

theorem beq_bytes (a b : ByteArray) : (a == b) = decide (a = b) := by
  have h : (a == b) = (a.data == b.data) := rfl
  rw [h, Bool.eq_iff_iff]
  simp only [beq_iff_eq, decide_eq_true_eq]
  exact ⟨fun e => ByteArray.ext e, fun e => by rw [e]⟩
instance : LawfulBEq ByteArray where
  eq_of_beq {a b} h := by rw [beq_bytes] at h; simpa using h
  rfl {a} := by rw [beq_bytes]; simp
theorem run_getMap {P : Program} {w : World} {r : Nat} {es : Array MapEntry} {clock : Nat} (hb : w.heap[r]? = some (.map es clock)) : (getObj r).run P w = .ok (.map es clock) w := by
  simp [getObj, Sem.run, hb]
theorem run_setAt {P : Program} {w : World} {r : Nat} {o' : Obj} (o : Obj) (hb : w.heap[r]? = some o') (hc : ∀ c e f, o' ≠ .cells c e f) : (setObj r o).run P w = .ok () { w with heap := w.heap.setIfInBounds r o } := by
  cases o' <;> simp [setObj, Sem.run, hb] at hc ⊢
theorem chk_plain {P : Program} {K : TypeId} {d : TypeDesc} (h : P.underlying K = some d) (v : Value) (hd : (∃ k, d = .int k) ∨ d = .string ∨ d = .bool) (e : Bool) (w : World) : (Instr.checkKey e 10000 K v).run P w = .ok () w := by
  rw [show (10000 : Nat) = 9999 + 1 from rfl]
  unfold Instr.checkKey
  rcases hd with ⟨k, rfl⟩ | rfl | rfl <;> simp [run_underlying h]
theorem KOk.string {P : Program} {K : TypeId} (h : P.underlying K = some .string) : KOk P K Value.string :=
  ⟨⟨_, h, fun a b => by simp [Instr.sameNow, beq_bytes]⟩, fun e a w => chk_plain h _ (.inr (.inl rfl)) e w, fun a => by show (a == a) = true; rw [beq_bytes]; simp⟩
theorem KOk.int {P : Program} {K : TypeId} {k : IntKind} (h : P.underlying K = some (.int k)) : KOk P K (Value.int k) :=
  ⟨⟨_, h, fun a b => by simp only [Instr.sameNow, if_true]; exact congrArg some (by rw [Bool.eq_iff_iff]; simp)⟩, fun e a w => chk_plain h _ (.inl ⟨k, rfl⟩) e w, fun a => by show (k == k && a == a) = true; simp⟩

set_option linter.unusedSectionVars false
section mem
variable {κ : Type} [DecidableEq κ] (mk : κ → Value)
def ent (t : κ × Value × Nat) : MapEntry := { key := mk t.1, val := t.2.1, born := t.2.2 }
/-- Block m holds entries L, born before clock. -/
def Raw (w : World) (m : Nat) (L : List (κ × Value × Nat)) (clock : Nat) : Prop :=
  w.heap[m]? = some (.map (L.map (ent mk)).toArray clock) ∧ (L.map (·.1)).Nodup ∧ (L.map (·.2.2)).Nodup ∧ ∀ t ∈ L, t.2.2 < clock
/-- Block m is a map that reads as the pairs es, keys apart. -/
def MapK (w : World) (m : Nat) (es : List (κ × Value)) : Prop := ∃ L clock, Raw mk w m L clock ∧ L.map (fun t => (t.1, t.2.1)) = es

variable {mk}
theorem MapK.nodup {w : World} {m : Nat} {es : List (κ × Value)} (h : MapK mk w m es) : (es.map (·.1)).Nodup := by
  obtain ⟨L, c, ⟨_, h2, _, _⟩, rfl⟩ := h
  simpa [List.map_map, Function.comp_def] using h2
theorem MapK.lt {w : World} {m : Nat} {es : List (κ × Value)} (h : MapK mk w m es) : m < w.heap.size := by
  obtain ⟨L, c, ⟨h1, _⟩, _⟩ := h
  exact (Array.getElem?_eq_some_iff.1 h1).1
theorem MapK.kp {S : Nat → Prop} {w w' : World} {m : Nat} {es : List (κ × Value)} (h : MapK mk w m es) (k : Kp S w w') (hs : ¬ S m) : MapK mk w' m es := by
  obtain ⟨L, c, ⟨h1, h2⟩, h3⟩ := h
  exact ⟨L, c, ⟨k.obj h1 hs, h2⟩, h3⟩
theorem MapK.ext {w w' : World} {m : Nat} {es : List (κ × Value)} (h : MapK mk w m es) (k : Ext w w') : MapK mk w' m es := h.kp k (fun f => f)

theorem findNow_list {kind : TypeDesc} (hs : ∀ a b, Instr.sameNow kind (mk a) (mk b) = some (decide (a = b))) (k : κ) : ∀ (L : List (κ × Value × Nat)) (i : Nat),
    Instr.findNow kind (mk k) (L.map (ent mk)) i = some none ∧ k ∉ L.map (·.1) ∨
    ∃ j v b, Instr.findNow kind (mk k) (L.map (ent mk)) i = some (some (i + j, v)) ∧ L[j]? = some (k, v, b)
  | [], i => .inl ⟨rfl, by simp⟩
  | t :: L, i => by
    have h := hs k t.1
    by_cases hk : k = t.1
    · subst hk
      refine .inr ⟨0, t.2.1, t.2.2, ?_, rfl⟩
      simp only [List.map_cons, Instr.findNow, ent, h, decide_true, Nat.add_zero]
    · rcases findNow_list hs k L (i + 1) with ⟨h1, h2⟩ | ⟨j, v, b, h1, h2⟩
      · refine .inl ⟨?_, by simp only [List.map_cons, List.mem_cons, not_or]; exact ⟨hk, h2⟩⟩
        simp only [List.map_cons, Instr.findNow, ent, h, hk, decide_false]
        exact h1
      · refine .inr ⟨j + 1, v, b, ?_, by simpa using h2⟩
        simp only [List.map_cons, Instr.findNow, ent, h, hk, decide_false]
        rw [show i + (j + 1) = i + 1 + j by omega]; exact h1

theorem run_findKeyL {P : Program} {w : World} {kt : TypeId} {d : TypeDesc} {k : Value} {l : List MapEntry} {a : Option (Nat × Value)} (hd : P.underlying kt = some d) (h : Instr.findNow d k l 0 = some a) : (Instr.findKey kt k l).run P w = .ok a w := by
  simp [Instr.findKey, run_underlying hd, Result.andThen, h]
theorem run_find {P : Program} {K : TypeId} (H : KOk P K mk) {w : World} (k : κ) (L : List (κ × Value × Nat)) :
    (Instr.findKey K (mk k) (L.map (ent mk))).run P w = .ok none w ∧ k ∉ L.map (·.1) ∨
    ∃ j v b, (Instr.findKey K (mk k) (L.map (ent mk))).run P w = .ok (some (j, v)) w ∧ L[j]? = some (k, v, b) := by
  obtain ⟨kind, hd, hs⟩ := H.same
  rcases findNow_list hs k L 0 with ⟨h1, h2⟩ | ⟨j, v, b, h1, h2⟩
  · exact .inl ⟨run_findKeyL hd h1, h2⟩
  · exact .inr ⟨j, v, b, by have := run_findKeyL (w := w) hd h1; rwa [Nat.zero_add] at this, h2⟩

theorem pairs_get {L : List (κ × Value × Nat)} (hn : (L.map (·.1)).Nodup) {j : Nat} {k : κ} {v : Value} {b : Nat} (h : L[j]? = some (k, v, b)) : mget (L.map fun t => (t.1, t.2.1)) k = some v :=
  mget_of_mem (by simpa [List.map_map, Function.comp_def] using hn) (List.mem_map.2 ⟨_, List.mem_of_getElem? h, rfl⟩)
theorem pairs_none {L : List (κ × Value × Nat)} {k : κ} (h : k ∉ L.map (·.1)) : mget (L.map fun t => (t.1, t.2.1)) k = none :=
  mget_none.2 (by simpa [List.map_map, Function.comp_def] using h)

/-- v, ok := m[k]. -/
theorem MapK.lookup {P : Program} {T K E : TypeId} (H : KOk P K mk) (hT : P.underlying T = some (.map K E)) {w : World} {m : Nat} {es : List (κ × Value)} (h : MapK mk w m es) (z : Value) (hz : ∀ w, (zeroValue E).run P w = .ok z w) (k : κ) (ok : Bool) :
    (Instr.lookup T (.map (some m)) (mk k) ok).run P w = .ok (if ok then .tuple #[(mget es k).getD z, .bool (mget es k).isSome] else (mget es k).getD z) w := by
  obtain ⟨L, c, ⟨h1, h2, h3⟩, rfl⟩ := h
  rcases run_find (P := P) H (w := w) k L with ⟨hf, hn⟩ | ⟨j, v, b, hf, hj⟩
  · rw [pairs_none hn]
    unfold Instr.lookup
    simp [run_underlying hT, run_getMap h1, H.chk, hf, hz]
  · rw [pairs_get h2 hj]
    unfold Instr.lookup
    simp [run_underlying hT, run_getMap h1, H.chk, hf]
/-- len(m). -/
theorem MapK.len {P : Program} {T K E : TypeId} (hT : P.underlying T = some (.map K E)) {w : World} {m : Nat} {es : List (κ × Value)} (h : MapK mk w m es) (ty : TypeId) :
    (Builtin.len_ #[T] ty #[.map (some m)]).run P w = .ok (.int .i64 es.length) w := by
  obtain ⟨L, c, ⟨h1, h2, h3⟩, rfl⟩ := h
  unfold Builtin.len_
  simp [run_underlying hT, run_getMap h1, goInt]

theorem pairs_set {L : List (κ × Value × Nat)} {j : Nat} {k : κ} {v0 : Value} {b : Nat} (hn : (L.map (·.1)).Nodup) (h : L[j]? = some (k, v0, b)) (v : Value) :
    (L.set j (k, v, b)).map (fun t => (t.1, t.2.1)) = mset (L.map fun t => (t.1, t.2.1)) k v := by
  induction L generalizing j with
  | nil => simp at h
  | cons t L ih =>
    simp only [List.map_cons, List.nodup_cons] at hn
    cases j with
    | zero => simp at h; subst h; simp [mset]
    | succ j =>
      simp only [List.getElem?_cons_succ] at h
      have hk : k ≠ t.1 := fun e => hn.1 (by rw [← e]; exact List.mem_map_of_mem (f := (·.1)) (List.mem_of_getElem? h))
      simp only [List.set_cons_succ, List.map_cons, mset, hk, if_false]
      rw [ih hn.2 h]
theorem pairs_new {L : List (κ × Value × Nat)} {k : κ} (h : k ∉ L.map (·.1)) (v : Value) (b : Nat) :
    (L ++ [(k, v, b)]).map (fun t => (t.1, t.2.1)) = mset (L.map fun t => (t.1, t.2.1)) k v := by
  induction L with
  | nil => simp [mset]
  | cons t L ih =>
    simp only [List.map_cons, List.mem_cons, not_or] at h
    simp only [List.cons_append, List.map_cons, mset, h.1, if_false]
    rw [ih h.2]
theorem pairs_erase {L : List (κ × Value × Nat)} {j : Nat} {k : κ} {v0 : Value} {b : Nat} (hn : (L.map (·.1)).Nodup) (h : L[j]? = some (k, v0, b)) :
    L.eraseIdx j = L.filter fun t => decide (k ≠ t.1) := by
  induction L generalizing j with
  | nil => simp at h
  | cons t L ih =>
    simp only [List.map_cons, List.nodup_cons] at hn
    cases j with
    | zero =>
      simp at h; subst h
      simp only [List.eraseIdx_cons_zero, List.filter_cons, ne_eq, not_true_eq_false, decide_false, Bool.false_eq_true, if_false]
      rw [List.filter_eq_self.2]
      intro t ht
      simp only [decide_eq_true_eq]
      exact fun e => hn.1 (by rw [e]; exact List.mem_map_of_mem (f := (·.1)) ht)
    | succ j =>
      simp only [List.getElem?_cons_succ] at h
      have hk : k ≠ t.1 := fun e => hn.1 (by rw [← e]; exact List.mem_map_of_mem (f := (·.1)) (List.mem_of_getElem? h))
      simp only [List.eraseIdx_cons_succ, List.filter_cons, ne_eq, hk, not_false_eq_true, decide_true, if_true]
      rw [ih hn.2 h]
theorem filter_none {L : List (κ × Value × Nat)} {k : κ} (h : k ∉ L.map (·.1)) : L.filter (fun t => decide (k ≠ t.1)) = L := by
  rw [List.filter_eq_self]
  intro t ht
  simp only [decide_eq_true_eq]
  exact fun e => h (by rw [e]; exact List.mem_map_of_mem (f := (·.1)) ht)
theorem pairs_filter (L : List (κ × Value × Nat)) (k : κ) : (L.filter fun t => decide (k ≠ t.1)).map (fun t => (t.1, t.2.1)) = mdel (L.map fun t => (t.1, t.2.1)) k := by
  unfold mdel
  rw [List.filter_map]
  rfl

theorem heap_setAt {w : World} {r : Nat} {o o' : Obj} (h : w.heap[r]? = some o') : ({ w with heap := w.heap.setIfInBounds r o } : World).heap[r]? = some o ∧ Kp (fun k => k = r) w { w with heap := w.heap.setIfInBounds r o } := by
  have hlt : r < w.heap.size := (Array.getElem?_eq_some_iff.1 h).1
  exact ⟨by simp [hlt], ⟨rfl, rfl, rfl, by simp, fun k _ hk => by simp [Ne.symm hk]⟩⟩

/-- m[k] = v. -/
theorem MapK.update {P : Program} {T K E : TypeId} (H : KOk P K mk) (hT : P.underlying T = some (.map K E)) {w : World} {m : Nat} {es : List (κ × Value)} (h : MapK mk w m es) (k : κ) (v : Value) :
    ∃ w', (Instr.mapUpdate T (.map (some m)) (mk k) v).run P w = .ok () w' ∧ MapK mk w' m (mset es k v) ∧ Kp (fun i => i = m) w w' ∧ w'.heap.size = w.heap.size := by
  obtain ⟨L, c, ⟨h1, h2, h3, h4⟩, rfl⟩ := h
  rcases run_find (P := P) H (w := w) k L with ⟨hf, hn⟩ | ⟨j, v0, b, hf, hj⟩
  · have hs := heap_setAt (o := .map ((L ++ [(k, v, c)]).map (ent mk)).toArray (c + 1)) h1
    refine ⟨_, ?_, ⟨L ++ [(k, v, c)], c + 1, ⟨hs.1, ?_, ?_, ?_⟩, pairs_new hn v c⟩, hs.2, by simp⟩
    · unfold Instr.mapUpdate
      simp [run_underlying hT, run_getMap h1, H.chk, hf, run_setAt _ h1 (by simp), ent]
    · rw [List.map_append, List.nodup_append]
      exact ⟨h2, by simp, by simp only [List.map_cons, List.map_nil, List.mem_singleton]; rintro a ha b rfl rfl; contradiction⟩
    · rw [List.map_append, List.nodup_append]
      refine ⟨h3, by simp, ?_⟩
      simp only [List.map_cons, List.map_nil, List.mem_singleton]
      rintro a ha b rfl rfl
      obtain ⟨t, ht, rfl⟩ := List.mem_map.1 ha
      exact absurd (h4 t ht) (Nat.lt_irrefl _)
    · intro t ht
      rcases List.mem_append.1 ht with ht | ht
      · exact Nat.lt_succ_of_lt (h4 t ht)
      · simp at ht; subst ht; exact Nat.lt_succ_self _
  · obtain ⟨hjl, hge⟩ := List.getElem?_eq_some_iff.1 hj
    have hs := heap_setAt (o := .map ((L.set j (k, v, b)).map (ent mk)).toArray c) h1
    refine ⟨_, ?_, ⟨L.set j (k, v, b), c, ⟨hs.1, ?_, ?_, ?_⟩, pairs_set h2 hj v⟩, hs.2, by simp⟩
    · have hmod : ((L.map (ent mk)).toArray.modify j fun e => { e with key := mk k, val := v }) = ((L.set j (k, v, b)).map (ent mk)).toArray := by
        apply Array.ext_getElem?
        intro i
        rw [Array.getElem?_modify]
        simp only [List.getElem?_toArray, List.getElem?_map, List.getElem?_set]
        by_cases hi : j = i
        · subst hi
          simp [hge, hjl, ent]
        · simp [hi]
      have hent : ((L.map (ent mk)).toArray[j]?.map (·.key)).getD (mk k) = mk k := by
        simp [hj, ent]
      unfold Instr.mapUpdate
      simp only [Sem.run_bind, run_underlying hT, run_getMap h1, Result.andThen_ok, H.chk, hf, hent, Instr.keyThatStays, H.bits, if_true, Sem.run_pure, hmod]
      exact run_setAt _ h1 (by simp)
    · rw [List.map_set]
      have : (L.map (·.1)).set j k = L.map (·.1) := by
        apply List.ext_getElem?
        intro i
        rw [List.getElem?_set]
        by_cases hi : j = i
        · subst hi; simp [hge, hjl]
        · simp [hi]
      rw [this]; exact h2
    · rw [List.map_set]
      have : (L.map (·.2.2)).set j b = L.map (·.2.2) := by
        apply List.ext_getElem?
        intro i
        rw [List.getElem?_set]
        by_cases hi : j = i
        · subst hi; simp [hge, hjl]
        · simp [hi]
      rw [this]; exact h3
    · intro t ht
      rcases List.mem_or_eq_of_mem_set ht with ht | rfl
      · exact h4 t ht
      · exact h4 (k, v0, b) (List.mem_of_getElem? hj)

/-- make(map[K]E), or a literal without pairs. -/
theorem MapK.new (w : World) : MapK mk (w.alloc (.map #[] 0)) w.heap.size [] :=
  ⟨[], 0, ⟨heap_alloc_new w _, by simp, by simp, by simp⟩, rfl⟩

/-- An iterator r over map m: what is still to come. -/
def Iter (mk : κ → Value) (w : World) (r m : Nat) (es left : List (κ × Value)) : Prop :=
  ∃ L c since seen, Raw mk w m L c ∧ L.map (fun t => (t.1, t.2.1)) = es ∧ w.heap[r]? = some (.mapIter (some m) since seen c) ∧ (∀ t ∈ L, t.2.2 < since) ∧
    left = (L.filter fun t => !seen.contains t.2.2).map fun t => (t.1, t.2.1)
theorem Iter.map {w : World} {r m : Nat} {es left : List (κ × Value)} (h : Iter mk w r m es left) : MapK mk w m es := by
  obtain ⟨L, c, s, sn, h1, h2, _⟩ := h
  exact ⟨L, c, h1, h2⟩
theorem Iter.lt {w : World} {r m : Nat} {es left : List (κ × Value)} (h : Iter mk w r m es left) : r < w.heap.size ∧ m < w.heap.size := by
  obtain ⟨L, c, s, sn, h1, _, h2, _⟩ := h
  exact ⟨(Array.getElem?_eq_some_iff.1 h2).1, (Array.getElem?_eq_some_iff.1 h1.1).1⟩
theorem Iter.kp {S : Nat → Prop} {w w' : World} {r m : Nat} {es left : List (κ × Value)} (h : Iter mk w r m es left) (k : Kp S w w') (hm : ¬ S m) (hr : ¬ S r) : Iter mk w' r m es left := by
  obtain ⟨L, c, s, sn, ⟨h1, h1'⟩, h2, h3, h4⟩ := h
  exact ⟨L, c, s, sn, ⟨k.obj h1 hm, h1'⟩, h2, k.obj h3 hr, h4⟩
theorem Iter.ext {w w' : World} {r m : Nat} {es left : List (κ × Value)} (h : Iter mk w r m es left) (k : Ext w w') : Iter mk w' r m es left := h.kp k (fun f => f) (fun f => f)

/-- range m. -/
theorem MapK.range {P : Program} {T K E : TypeId} (hT : P.underlying T = some (.map K E)) {w : World} {m : Nat} {es : List (κ × Value)} (h : MapK mk w m es) :
    ∃ w', (Instr.range T (.map (some m))).run P w = .ok (.pointer (some ⟨w.heap.size, 0, none⟩)) w' ∧ Iter mk w' w.heap.size m es es ∧ Ext w w' ∧ w'.heap.size = w.heap.size + 1 := by
  obtain ⟨L, c, h1, rfl⟩ := h
  have hx : Ext w (w.alloc (.mapIter (some m) c #[] c)) := (Kp.refl _ w).alloc _
  refine ⟨w.alloc (.mapIter (some m) c #[] c), ?_, ⟨L, c, c, #[], ⟨hx.obj h1.1 (fun f => f), h1.2⟩, rfl, heap_alloc_new w _, h1.2.2.2, ?_⟩, hx, by simp⟩
  · unfold Instr.range
    simp [run_underlying hT, run_getMap h1.1, newObj, Sem.run]
  · rw [List.filter_eq_self.2 (by simp)]

/-- The next step of a range: over, or some pair of those still to come. -/
theorem Iter.next {P : Program} {w : World} {r m : Nat} {es left : List (κ × Value)} (h : Iter mk w r m es left) :
    (left = [] ∧ ∀ ty, (Instr.next (.pointer (some ⟨r, 0, none⟩)) false ty).run P w = .ok (.tuple #[.bool false]) w) ∨
    ∃ k v w', (k, v) ∈ left ∧ (∀ ty, (Instr.next (.pointer (some ⟨r, 0, none⟩)) false ty).run P w = .ok (.tuple #[.bool true, mk k, v]) w') ∧ Iter mk w' r m es (mdel left k) ∧
      Kp (fun i => i = r) w w' ∧ w'.heap.size = w.heap.size ∧ (Instr.entry (.pointer (some ⟨r, 0, none⟩))).run P w' = .ok (.tuple #[mk k, v]) w' := by
  obtain ⟨L, c, since, seen, ⟨h1, hk, hb, hc⟩, rfl, h3, h4, rfl⟩ := h
  have hleft : (L.map (ent mk)).toArray.filter (fun e => !seen.contains e.born) = ((L.filter fun t => !seen.contains t.2.2).map (ent mk)).toArray := by
    apply Array.toList_inj.1
    rw [Array.toList_filter, List.filter_map]
    rfl
  have hold : ∀ X : List (κ × Value × Nat), (∀ t ∈ X, t ∈ L) → (X.map (ent mk)).toArray.filter (fun e => decide (e.born < since)) = (X.map (ent mk)).toArray := by
    intro X hX
    apply Array.toList_inj.1
    simp only [Array.toList_filter, List.filter_eq_self, List.mem_map]
    rintro e ⟨t, ht, rfl⟩
    exact decide_eq_true (h4 t (hX t ht))
  have hnew : ∀ X : List (κ × Value × Nat), (∀ t ∈ X, t ∈ L) → (X.map (ent mk)).toArray.filter (fun e => decide (e.born ≥ since)) = #[] := by
    intro X hX
    apply Array.toList_inj.1
    simp only [Array.toList_filter, List.filter_eq_nil_iff, List.mem_map]
    rintro e ⟨t, ht, rfl⟩
    have := h4 t (hX t ht)
    simp [ent]; omega
  have hguard : (!seen.isEmpty && !(L.map (ent mk)).toArray.isEmpty && (L.map (ent mk)).toArray.all (fun e => decide (e.born ≥ c))) = false := by
    cases L with
    | nil => simp
    | cons t L =>
      have := hc t (by simp)
      have h' : (List.all (List.map (ent mk) (t :: L)) fun e => decide (e.born ≥ c)) = false := by
        rw [List.all_eq_false]
        exact ⟨ent mk t, by simp, by simp [ent]; omega⟩
      simp only [List.all_toArray, h', Bool.and_false]
  have hsub : ∀ t ∈ L.filter (fun t => !seen.contains t.2.2), t ∈ L := fun t ht => (List.mem_filter.1 ht).1
  have hget : (getObj r).run P w = .ok (.mapIter (some m) since seen c) w := by simp [getObj, Sem.run, h3]
  generalize hX : (L.filter fun t => !seen.contains t.2.2) = X at hleft hsub
  have hmain : ∀ ty, (Instr.next (.pointer (some ⟨r, 0, none⟩)) false ty).run P w =
      ((choose (.mapNext ((if (X.map (ent mk)).toArray.isEmpty then (#[none] : Array (Option MapEntry)) else #[]) ++ (X.map (ent mk)).toArray.map some).size)).run P w).andThen fun i w' =>
        (match ((if (X.map (ent mk)).toArray.isEmpty then (#[none] : Array (Option MapEntry)) else #[]) ++ (X.map (ent mk)).toArray.map some)[i]? with
          | some (some e) => do
            setObj r (.mapIter (some m) since (seen.push e.born) c)
            pure (.tuple #[.bool true, e.key, e.val])
          | some none => pure (.tuple #[.bool false])
          | none => stuck "Next: no such candidate" : Sem Value).run P w' := by
    intro ty
    unfold Instr.next
    simp only [Sem.run_bind, hget, Result.andThen_ok, run_getMap h1, hguard, hleft, hold X hsub, hnew X hsub, Bool.false_eq_true, if_false, Array.append_empty]
    rfl
  cases X with
  | nil =>
    refine .inl ⟨rfl, fun ty => ?_⟩
    rw [hmain ty]
    simp [choose, Sem.run, Question.forced]
  | cons t0 X0 =>
    right
    generalize hXX : t0 :: X0 = X at *
    have hne : (X.map (ent mk)).toArray.isEmpty = false := by rw [← hXX]; simp
    have hlen : 0 < X.length := by rw [← hXX]; simp
    simp only [hne, Bool.false_eq_true, if_false, Array.empty_append, Array.size_map, List.size_toArray, List.length_map] at hmain
    obtain ⟨i, w1, hch, hi, hw1⟩ : ∃ i w1, (choose (.mapNext X.length)).run P w = .ok i w1 ∧ i < X.length ∧ (w1 = w ∨ w1 = w.drew) := by
      by_cases hf : X.length ≤ 1
      · exact ⟨0, w, by rw [run_choose_drew]; simp [Question.forced, hf], hlen, .inl rfl⟩
      · exact ⟨w.tape w.drawn (.mapNext X.length) % X.length, w.drew, by rw [run_choose_drew]; simp [Question.forced, hf, Question.cut], Nat.mod_lt _ hlen, .inr rfl⟩
    have hheap : w1.heap = w.heap := by rcases hw1 with rfl | rfl <;> rfl
    have hkp1 : Kp (fun i => i = r) w w1 := by
      rcases hw1 with rfl | rfl
      · exact Kp.refl _ _
      · exact (Kp.refl _ _).drew
    have hit : ((X.map (ent mk)).toArray.map some)[i]? = some (some (ent mk X[i])) := by
      simp [hi]
    have hxm := List.getElem_mem (l := X) hi
    generalize X[i] = x at hit hxm
    obtain ⟨hti, htn⟩ : x ∈ L ∧ seen.contains x.2.2 = false := by
      have hall : ∀ t ∈ X, t ∈ L ∧ seen.contains t.2.2 = false := by
        rw [← hX]
        intro t ht
        have := List.mem_filter.1 ht
        exact ⟨this.1, by simpa using this.2⟩
      exact hall _ hxm
    have h3' : w1.heap[r]? = some (.mapIter (some m) since seen c) := by rw [hheap]; exact h3
    have hs := heap_setAt (o := .mapIter (some m) since (seen.push x.2.2) c) h3'
    have hmr : m ≠ r := by rintro rfl; rw [h1] at h3; cases h3
    have hkp : Kp (fun i => i = r) w { w1 with heap := w1.heap.setIfInBounds r (.mapIter (some m) since (seen.push x.2.2) c) } := hkp1.trans hs.2
    have h1' := hkp.obj h1 hmr
    have huniq : ∀ t ∈ L, t.2.2 = x.2.2 → t = x := by
      intro t ht he
      obtain ⟨a, ha, rfl⟩ := List.getElem_of_mem ht
      obtain ⟨b, hb', hbe⟩ := List.getElem_of_mem hti
      rw [← hbe] at he ⊢
      have : a = b := by
        have := (List.getElem_inj (i := a) (j := b) (h₀ := by simpa using ha) (h₁ := by simpa using hb') hb).1 (by simpa using he)
        exact this
      subst this; rfl
    have huniqk : ∀ t ∈ L, t.1 = x.1 → t = x := by
      intro t ht he
      obtain ⟨a, ha, rfl⟩ := List.getElem_of_mem ht
      obtain ⟨b, hb', hbe⟩ := List.getElem_of_mem hti
      rw [← hbe] at he ⊢
      have : a = b := by
        have := (List.getElem_inj (i := a) (j := b) (h₀ := by simpa using ha) (h₁ := by simpa using hb') hk).1 (by simpa using he)
        exact this
      subst this; rfl
    refine ⟨x.1, x.2.1, { w1 with heap := w1.heap.setIfInBounds r (.mapIter (some m) since (seen.push x.2.2) c) }, List.mem_map.2 ⟨x, hxm, rfl⟩, ?_,
      ⟨L, c, since, seen.push x.2.2, ⟨h1', hk, hb, hc⟩, rfl, hs.1, h4, ?_⟩, hkp, by simp [hheap], ?_⟩
    · intro ty
      rw [hmain ty, hch]
      simp only [Result.andThen_ok, hit, Sem.run_bind]
      rw [show (ent mk x).born = x.2.2 from rfl, run_setAt _ h3' (by simp)]
      rfl
    · rw [← pairs_filter, ← hX, List.filter_filter]
      congr 1
      apply List.filter_congr
      intro t ht
      rw [Bool.eq_iff_iff]
      simp only [Bool.not_eq_true', Bool.and_eq_true, decide_eq_true_eq, ne_eq, Array.contains_push, Bool.or_eq_false_iff, beq_eq_false_iff_ne]
      constructor
      · rintro ⟨e1, e2⟩
        exact ⟨e2, fun e => e1 (by rw [huniq t ht e])⟩
      · rintro ⟨e1, e2⟩
        exact ⟨fun e => e2 (by rw [huniqk t ht e.symm]), e1⟩
    · unfold Instr.entry
      have hbk : (seen.push x.2.2).back? = some x.2.2 := by simp
      have hf : (L.map (ent mk)).toArray.find? (fun e => e.born == x.2.2) = some (ent mk x) := by
        rw [List.find?_toArray]
        obtain ⟨a, ha, rfl⟩ := List.getElem_of_mem hti
        rw [List.find?_map]
        have : L.find? ((fun e : MapEntry => e.born == L[a].2.2) ∘ ent mk) = some L[a] := by
          rw [List.find?_eq_some_iff_getElem]
          refine ⟨by simp [ent], a, ha, rfl, fun b hb' => ?_⟩
          simp only [Function.comp_apply, ent, Bool.not_eq_true', beq_eq_false_iff_ne, ne_eq]
          intro he
          have := (List.getElem_inj (i := b) (j := a) (h₀ := by simp; omega) (h₁ := by simpa using ha) hb).1 (by simpa using he)
          omega
        rw [this]; rfl
      have hg2 : (getObj r).run P ({ w1 with heap := w1.heap.setIfInBounds r (.mapIter (some m) since (seen.push x.2.2) c) } : World) = .ok (.mapIter (some m) since (seen.push x.2.2) c) { w1 with heap := w1.heap.setIfInBounds r (.mapIter (some m) since (seen.push x.2.2) c) } := by
        simp only [getObj, Sem.run, hs.1]
      simp only [Sem.run_bind, hg2, Result.andThen_ok, hbk, run_getMap h1', bne_self_eq_false, Bool.false_eq_true, if_false, hf]
      rfl

theorem map_erase {α β : Type} (f : α → β) : ∀ (l : List α) (j : Nat), (l.map f).eraseIdx j = (l.eraseIdx j).map f
  | [], _ => rfl
  | _ :: _, 0 => rfl
  | a :: l, j + 1 => by simp [map_erase f l j]
/-- delete(m, k) while the range goes on; the key is not met any more. -/
theorem Iter.delete {P : Program} {T K E : TypeId} (H : KOk P K mk) (hT : P.underlying T = some (.map K E)) {w : World} {r m : Nat} {es left : List (κ × Value)} (h : Iter mk w r m es left) (k : κ) :
    ∃ w', (∀ ty, (Builtin.delete_ #[T, K] ty #[.map (some m), mk k]).run P w = .ok (.tuple #[]) w') ∧ Iter mk w' r m (mdel es k) (mdel left k) ∧ Kp (fun i => i = m) w w' ∧ w'.heap.size = w.heap.size := by
  obtain ⟨L, c, since, seen, ⟨h1, hk, hb, hc⟩, rfl, h3, h4, rfl⟩ := h
  have hmr : r ≠ m := by rintro rfl; rw [h1] at h3; cases h3
  have key : ∀ L' : List (κ × Value × Nat), L' = L.filter (fun t => decide (k ≠ t.1)) →
      ∃ w', (setObj m (.map (L'.map (ent mk)).toArray c)).run P w = .ok () w' ∧ Iter mk w' r m (mdel (L.map fun t => (t.1, t.2.1)) k) (mdel ((L.filter fun t => !seen.contains t.2.2).map fun t => (t.1, t.2.1)) k) ∧ Kp (fun i => i = m) w w' ∧ w'.heap.size = w.heap.size := by
    intro L' hL
    have hs := heap_setAt (o := .map (L'.map (ent mk)).toArray c) h1
    have hsub : L'.Sublist L := by rw [hL]; exact List.filter_sublist
    refine ⟨_, run_setAt _ h1 (by simp), ⟨L', c, since, seen, ⟨hs.1, List.Nodup.sublist (hsub.map _) hk, List.Nodup.sublist (hsub.map _) hb, fun t ht => hc t (hsub.subset ht)⟩, ?_, hs.2.obj h3 hmr, fun t ht => h4 t (hsub.subset ht), ?_⟩, hs.2, by simp⟩
    · rw [hL, pairs_filter]
    · rw [← pairs_filter, hL, List.filter_filter, List.filter_filter]
      congr 1
      apply List.filter_congr
      intro t _
      rw [Bool.and_comm]
  rcases run_find (P := P) H (w := w) k L with ⟨hf, hn⟩ | ⟨j, v0, b, hf, hj⟩
  · obtain ⟨w', h5, h6⟩ := key L (filter_none hn).symm
    refine ⟨w', fun ty => ?_, h6⟩
    unfold Builtin.delete_
    simp [run_underlying hT, run_getMap h1, H.chk, hf, h5]
  · obtain ⟨w', h5, h6⟩ := key (L.eraseIdx j) (pairs_erase hk hj)
    refine ⟨w', fun ty => ?_, h6⟩
    have he := map_erase (ent mk) L j
    unfold Builtin.delete_
    simp [run_underlying hT, run_getMap h1, H.chk, hf, he, h5]
/-- delete(m, k). -/
theorem MapK.delete {P : Program} {T K E : TypeId} (H : KOk P K mk) (hT : P.underlying T = some (.map K E)) {w : World} {m : Nat} {es : List (κ × Value)} (h : MapK mk w m es) (k : κ) :
    ∃ w', (∀ ty, (Builtin.delete_ #[T, K] ty #[.map (some m), mk k]).run P w = .ok (.tuple #[]) w') ∧ MapK mk w' m (mdel es k) ∧ Kp (fun i => i = m) w w' ∧ w'.heap.size = w.heap.size := by
  obtain ⟨L, c, ⟨h1, hk, hb, hc⟩, rfl⟩ := h
  have key : ∀ L' : List (κ × Value × Nat), L' = L.filter (fun t => decide (k ≠ t.1)) →
      ∃ w', (setObj m (.map (L'.map (ent mk)).toArray c)).run P w = .ok () w' ∧ MapK mk w' m (mdel (L.map fun t => (t.1, t.2.1)) k) ∧ Kp (fun i => i = m) w w' ∧ w'.heap.size = w.heap.size := by
    intro L' hL
    have hs := heap_setAt (o := .map (L'.map (ent mk)).toArray c) h1
    have hsub : L'.Sublist L := by rw [hL]; exact List.filter_sublist
    exact ⟨_, run_setAt _ h1 (by simp), ⟨L', c, ⟨hs.1, List.Nodup.sublist (hsub.map _) hk, List.Nodup.sublist (hsub.map _) hb, fun t ht => hc t (hsub.subset ht)⟩, by rw [hL, pairs_filter]⟩, hs.2, by simp⟩
  rcases run_find (P := P) H (w := w) k L with ⟨hf, hn⟩ | ⟨j, v0, b, hf, hj⟩
  · obtain ⟨w', h5, h6⟩ := key L (filter_none hn).symm
    refine ⟨w', fun ty => ?_, h6⟩
    unfold Builtin.delete_
    simp [run_underlying hT, run_getMap h1, H.chk, hf, h5]
  · obtain ⟨w', h5, h6⟩ := key (L.eraseIdx j) (pairs_erase hk hj)
    refine ⟨w', fun ty => ?_, h6⟩
    have he := map_erase (ent mk) L j
    unfold Builtin.delete_
    simp [run_underlying hT, run_getMap h1, H.chk, hf, he, h5]

/-- How many pairs are still to come: a number in the world. -/
def itLeft (w : World) (r m : Nat) : Nat :=
  match w.heap[m]?, w.heap[r]? with
  | some (.map es _), some (.mapIter _ _ seen _) => (es.toList.filter fun e => !seen.contains e.born).length
  | _, _ => 0
theorem Iter.left {w : World} {r m : Nat} {es left : List (κ × Value)} (h : Iter mk w r m es left) : itLeft w r m = left.length := by
  obtain ⟨L, c, since, seen, ⟨h1, _⟩, rfl, h3, h4, rfl⟩ := h
  simp only [itLeft, h1, h3, List.filter_map, List.length_map]
  rfl
theorem mget_map {α β : Type} (f : α → β) (l : List (κ × α)) (k : κ) : mget (l.map fun p => (p.1, f p.2)) k = (mget l k).map f := by
  induction l with
  | nil => rfl
  | cons p r ih => simp only [List.map_cons, mget]; split <;> simp_all
theorem mset_map {α β : Type} (f : α → β) (l : List (κ × α)) (k : κ) (v : α) : mset (l.map fun p => (p.1, f p.2)) k (f v) = (mset l k v).map fun p => (p.1, f p.2) := by
  induction l with
  | nil => rfl
  | cons p r ih => simp only [List.map_cons, mset]; split <;> simp_all
theorem mdel_map {α β : Type} (f : α → β) (l : List (κ × α)) (k : κ) : mdel (l.map fun p => (p.1, f p.2)) k = (mdel l k).map fun p => (p.1, f p.2) := by
  unfold mdel; rw [List.filter_map]; rfl
end mem
theorem str_eq (a b : ByteArray) : (a.toList == b.toList) = decide (a = b) := by
  rw [Bool.eq_iff_iff]
  simp only [beq_iff_eq, decide_eq_true_eq, Go.Lib.toList_data]
  exact ⟨bytes_eq, fun e => by rw [e]⟩
end Av
