/- Whose a path is, and who has to say what: plain laws. No program. -/
import Derived.Test.YtmgnndhhpnedkaaGreatDoorAvPath
import Derived.Test.YtmgnndhhpnedkaaGreatDoorAvMap
namespace Av
set_option maxRecDepth 100000
open Go
/-! Which numbers are whose: the first k of them. -/
def splitTo (f : Nat → Int) (k : Nat) (s : Nat) : List Nat := (List.range k).filter fun i => decide (f i = (s : Int))
theorem splitTo_snoc (f : Nat → Int) (k s : Nat) : splitTo f (k + 1) s = if f k = (s : Int) then splitTo f k s ++ [k] else splitTo f k s := by
  unfold splitTo
  rw [List.range_succ, List.filter_append]
  by_cases h : f k = (s : Int) <;> simp [h]
theorem splitTo_zero (f : Nat → Int) (s : Nat) : splitTo f 0 s = [] := rfl
theorem splitTo_mem {f : Nat → Int} {k s i : Nat} : i ∈ splitTo f k s ↔ i < k ∧ f i = (s : Int) := by simp [splitTo]
theorem splitTo_rising (f : Nat → Int) (k s : Nat) : (splitTo f k s).Pairwise (· < ·) := by
  unfold splitTo
  exact List.Pairwise.sublist List.filter_sublist List.pairwise_lt_range
theorem splitTo_len (f : Nat → Int) (k s : Nat) : (splitTo f k s).length ≤ k := by
  have := List.length_filter_le (fun i => decide (f i = (s : Int))) (List.range k)
  simpa [splitTo] using this
/-- The shards that have something, and what. -/
def shardsOf (f : Nat → Int) (n sh : Nat) : List Nat := (List.range sh).filter fun s => decide (splitTo f n s ≠ [])
theorem shardsOf_snoc (f : Nat → Int) (n s : Nat) : shardsOf f n (s + 1) = if splitTo f n s = [] then shardsOf f n s else shardsOf f n s ++ [s] := by
  unfold shardsOf
  rw [List.range_succ, List.filter_append]
  by_cases h : splitTo f n s = [] <;> simp [h]
theorem shardsOf_mem {f : Nat → Int} {n sh s : Nat} : s ∈ shardsOf f n sh ↔ s < sh ∧ ∃ i, i < n ∧ f i = (s : Int) := by
  unfold shardsOf
  rw [List.mem_filter, List.mem_range, decide_eq_true_iff]
  constructor
  · rintro ⟨h1, h2⟩
    obtain ⟨i, hi⟩ := List.exists_mem_of_ne_nil _ h2
    exact ⟨h1, i, splitTo_mem.1 hi⟩
  · rintro ⟨h1, i, hi⟩
    exact ⟨h1, fun e => by have := splitTo_mem.2 hi; rw [e] at this; cases this⟩
theorem shardsOf_len (f : Nat → Int) (n sh : Nat) : (shardsOf f n sh).length ≤ sh := by
  have := List.length_filter_le (fun s => decide (splitTo f n s ≠ [])) (List.range sh)
  simpa [shardsOf] using this
theorem shardsOf_rising (f : Nat → Int) (n sh : Nat) : (shardsOf f n sh).Pairwise (· < ·) := by
  unfold shardsOf
  exact List.Pairwise.sublist List.filter_sublist List.pairwise_lt_range
def placesOf (f : Nat → Int) (n sh : Nat) : List (List Nat) := (shardsOf f n sh).map (splitTo f n)
/-! A table. -/
def sumB (l : Bs) : Nat := l.foldl (fun n c => n + c.toNat) 0
theorem sumB_snoc (l : Bs) (c : UInt8) : sumB (l ++ [c]) = sumB l + c.toNat := by simp [sumB]
theorem sumB_take (l : Bs) {k : Nat} (hk : k < l.length) : sumB (l.take (k + 1)) = sumB (l.take k) + l[k].toNat := by rw [List.take_succ_eq_append_getElem hk, sumB_snoc]
theorem sumB_le : ∀ (l : Bs), sumB l ≤ 255 * l.length := by
  intro l
  suffices h : ∀ (l : Bs) (n : Nat), l.foldl (fun n c => n + c.toNat) n ≤ n + 255 * l.length by simpa [sumB] using h l 0
  intro l
  induction l with
  | nil => intro n; simp
  | cons c r ih =>
    intro n
    have h1 := ih (n + c.toNat)
    have h2 : c.toNat < 256 := c.toNat_lt
    simp only [List.foldl_cons, List.length_cons]
    omega
abbrev Moved := List (ByteArray × Int)
def topB (p : ByteArray) : ByteArray := ⟨(topL p.data.toList).toArray⟩
def ofT (sh : Nat) (mv : Moved) (p : ByteArray) : Int := if topL p.data.toList = [] then -1 else (mget mv (topB p)).getD (((sumB (topL p.data.toList) % sh : Nat)) : Int)
structure TabOk (sh : Nat) (mv : Moved) : Prop where
  sh1 : 1 ≤ sh
  sh4 : sh ≤ 4
  mv : ∀ e ∈ mv, 0 ≤ e.2 ∧ e.2 < (sh : Int)
theorem ofT_in {sh : Nat} {mv : Moved} (h : TabOk sh mv) (p : ByteArray) : ofT sh mv p = -1 ∨ (0 ≤ ofT sh mv p ∧ ofT sh mv p < (sh : Int)) := by
  unfold ofT
  by_cases h0 : topL p.data.toList = []
  · left; rw [if_pos h0]
  · right
    rw [if_neg h0]
    cases hm : mget mv (topB p) with
    | some s => exact h.mv _ (mget_mem hm)
    | none =>
      have := Nat.mod_lt (sumB (topL p.data.toList)) (show sh > 0 from h.sh1)
      simp only [Option.getD_none]
      omega
theorem ofT_yes {sh : Nat} {mv : Moved} (h : TabOk sh mv) {p : ByteArray} (hp : topL p.data.toList ≠ []) : 0 ≤ ofT sh mv p ∧ ofT sh mv p < (sh : Int) := by
  rcases ofT_in h p with h1 | h1
  · unfold ofT at h1
    rw [if_neg hp] at h1
    cases hm : mget mv (topB p) with
    | some s => rw [hm] at h1; have := (h.mv _ (mget_mem hm)).1; simp only [Option.getD_some] at h1; omega
    | none => rw [hm] at h1; simp only [Option.getD_none] at h1; omega
  · exact h1
/-! A verdict. -/
structure VoteV where
  err : Int
  at_ : Int
deriving DecidableEq, Inhabited
def placeOf (pl : List (List Nat)) (i : Nat) (v : VoteV) : Int :=
  let l := pl.getD i []
  if v.at_ < 0 ∨ (l.length : Int) ≤ v.at_ then -1 else ((l.getD v.at_.toNat 0 : Nat) : Int)
def verdStep (pl : List (List Nat)) (busy : Bool) (a : Int × Int) (i : Nat) (v : VoteV) : Int × Int :=
  if v.err = 0 ∨ (busy = true ∧ v.err ≠ 12) then a else if a.1 = 0 ∨ placeOf pl i v < a.2 then (v.err, placeOf pl i v) else a
def verdTo (pl : List (List Nat)) (busy : Bool) (vs : List VoteV) : Nat → Int × Int
  | 0 => (0, -1)
  | k + 1 => verdStep pl busy (verdTo pl busy vs k) k (vs.getD k default)
def busyV (vs : List VoteV) : Bool := vs.any fun v => decide (v.err = 12)
def verdict (pl : List (List Nat)) (vs : List VoteV) : Int × Int := if vs.length ≠ pl.length then (1, -1) else verdTo pl (busyV vs) vs vs.length
/-! Each shard tells its first fault: the first of all (PlanModel). -/
def voteTo (bad : Nat → Bool) (l : List Nat) : Nat → VoteV
  | 0 => ⟨0, -1⟩
  | k + 1 => if bad (l.getD k 0) = true ∧ (voteTo bad l k).err = 0 then ⟨4 + (((l.getD k 0) % 3 : Nat) : Int), (k : Int)⟩ else voteTo bad l k
def voteOf (bad : Nat → Bool) (l : List Nat) : VoteV := voteTo bad l l.length
theorem voteTo_spec (bad : Nat → Bool) (l : List Nat) : ∀ k, k ≤ l.length → ((∀ n ∈ l.take k, bad n = false) ∧ voteTo bad l k = ⟨0, -1⟩) ∨ ∃ q, ∃ hq : q < l.length, bad l[q] = true ∧ (∀ n ∈ l.take q, bad n = false) ∧ voteTo bad l k = ⟨4 + ((l[q] % 3 : Nat) : Int), (q : Int)⟩
  | 0, _ => .inl ⟨by simp, rfl⟩
  | k + 1, hk => by
    have hg : l.getD k 0 = l[k] := by simp [List.getD, List.getElem?_eq_getElem (show k < l.length by omega)]
    rcases voteTo_spec bad l k (by omega) with ⟨h1, h2⟩ | ⟨q, hq, h1, h2, h3⟩
    · by_cases hb : bad l[k] = true
      · right
        refine ⟨k, by omega, hb, h1, ?_⟩
        unfold voteTo
        rw [hg, h2, if_pos ⟨hb, rfl⟩]
      · left
        constructor
        · intro n hn
          rw [List.take_succ_eq_append_getElem (by omega)] at hn
          rcases List.mem_append.1 hn with hn | hn
          · exact h1 n hn
          · simp only [List.mem_singleton] at hn; subst hn; simpa using hb
        · unfold voteTo
          rw [hg, if_neg (fun h => hb h.1), h2]
    · right
      refine ⟨q, hq, h1, h2, ?_⟩
      unfold voteTo
      rw [if_neg (fun h => by rw [h3] at h; have := h.2; simp only at this; omega), h3]
theorem voteOf_cases (bad : Nat → Bool) {l : List Nat} (hl : l.Pairwise (· < ·)) : ((∀ n ∈ l, bad n = false) ∧ voteOf bad l = ⟨0, -1⟩) ∨ ∃ q, ∃ hq : q < l.length, bad l[q] = true ∧ (∀ n ∈ l, bad n = true → l[q] ≤ n) ∧ voteOf bad l = ⟨4 + ((l[q] % 3 : Nat) : Int), (q : Int)⟩ := by
  rcases voteTo_spec bad l l.length (Nat.le_refl _) with ⟨h1, h2⟩ | ⟨q, hq, h1, h2, h3⟩
  · left; rw [List.take_length] at h1; exact ⟨h1, h2⟩
  · right
    refine ⟨q, hq, h1, fun n hn hb => ?_, h3⟩
    obtain ⟨i, hi, rfl⟩ := List.getElem_of_mem hn
    rcases Nat.lt_or_ge i q with h | h
    · have := h2 l[i] (by rw [List.mem_take_iff_getElem]; exact ⟨i, by omega, rfl⟩)
      rw [this] at hb; cases hb
    · rcases Nat.lt_or_ge q i with h' | h'
      · exact Nat.le_of_lt (List.pairwise_iff_getElem.1 hl q i hq hi h')
      · obtain rfl : i = q := by omega
        exact Nat.le_refl _
theorem placeOf_at {pl : List (List Nat)} {i q : Nat} (hi : i < pl.length) (hq : q < pl[i].length) (e : Int) : placeOf pl i ⟨e, (q : Int)⟩ = (pl[i][q] : Int) := by
  unfold placeOf
  have h1 : pl.getD i [] = pl[i] := by simp [List.getD, List.getElem?_eq_getElem hi]
  simp only [h1, Int.toNat_natCast]
  rw [if_neg (by omega)]
  simp [List.getD, List.getElem?_eq_getElem hq]
theorem verdTo_spec (bad : Nat → Bool) (pl : List (List Nat)) (hr : ∀ l ∈ pl, l.Pairwise (· < ·)) : ∀ k, k ≤ pl.length →
    ((∀ i (hi : i < pl.length), i < k → ∀ n ∈ pl[i], bad n = false) ∧ verdTo pl false (pl.map (voteOf bad)) k = (0, -1)) ∨
    ∃ m, (∃ i, ∃ hi : i < pl.length, i < k ∧ m ∈ pl[i]) ∧ bad m = true ∧ (∀ i (hi : i < pl.length), i < k → ∀ n ∈ pl[i], bad n = true → m ≤ n) ∧ verdTo pl false (pl.map (voteOf bad)) k = (4 + ((m % 3 : Nat) : Int), (m : Int))
  | 0, _ => .inl ⟨fun i hi h => by omega, rfl⟩
  | k + 1, hk => by
    have hkl : k < pl.length := by omega
    have hv : (pl.map (voteOf bad)).getD k default = voteOf bad pl[k] := by simp [List.getD, List.getElem?_eq_getElem hkl]
    have hstep : verdTo pl false (pl.map (voteOf bad)) (k + 1) = verdStep pl false (verdTo pl false (pl.map (voteOf bad)) k) k (voteOf bad pl[k]) := by rw [verdTo, hv]
    have split : ∀ {i : Nat}, i < k + 1 → i < k ∨ i = k := fun h => by omega
    rcases voteOf_cases bad (hr _ (List.getElem_mem hkl)) with ⟨v1, v2⟩ | ⟨q, hq, v1, v2, v3⟩
    · have hs : verdTo pl false (pl.map (voteOf bad)) (k + 1) = verdTo pl false (pl.map (voteOf bad)) k := by rw [hstep, v2]; simp [verdStep]
      rw [hs]
      rcases verdTo_spec bad pl hr k (by omega) with ⟨h1, h2⟩ | ⟨m, ⟨i, hi, hik, him⟩, h2, h3, h4⟩
      · left
        refine ⟨fun i hi h n hn => ?_, h2⟩
        rcases split h with h | rfl
        · exact h1 i hi h n hn
        · exact v1 n hn
      · right
        refine ⟨m, ⟨i, hi, by omega, him⟩, h2, fun j hj h n hn hb => ?_, h4⟩
        rcases split h with h | rfl
        · exact h3 j hj h n hn hb
        · rw [v1 n hn] at hb; cases hb
    · have hp := placeOf_at hkl hq (4 + ((pl[k][q] % 3 : Nat) : Int))
      have hs : verdTo pl false (pl.map (voteOf bad)) (k + 1) = if (verdTo pl false (pl.map (voteOf bad)) k).1 = 0 ∨ (pl[k][q] : Int) < (verdTo pl false (pl.map (voteOf bad)) k).2 then (4 + ((pl[k][q] % 3 : Nat) : Int), (pl[k][q] : Int)) else verdTo pl false (pl.map (voteOf bad)) k := by
        rw [hstep, v3]
        unfold verdStep
        rw [hp, if_neg (by simp only [Bool.false_eq_true, false_and, or_false]; omega)]
      right
      rcases verdTo_spec bad pl hr k (by omega) with ⟨h1, h2⟩ | ⟨m, ⟨i, hi, hik, him⟩, h2, h3, h4⟩
      · refine ⟨pl[k][q], ⟨k, hkl, by omega, List.getElem_mem hq⟩, v1, fun j hj h n hn hb => ?_, ?_⟩
        · rcases split h with h | rfl
          · rw [h1 j hj h n hn] at hb; cases hb
          · exact v2 n hn hb
        · rw [hs, h2, if_pos (.inl rfl)]
      · by_cases hlt : pl[k][q] < m
        · refine ⟨pl[k][q], ⟨k, hkl, by omega, List.getElem_mem hq⟩, v1, fun j hj h n hn hb => ?_, ?_⟩
          · rcases split h with h | rfl
            · have := h3 j hj h n hn hb; omega
            · exact v2 n hn hb
          · rw [hs, h4, if_pos (.inr (by simp only; omega))]
        · refine ⟨m, ⟨i, hi, by omega, him⟩, h2, fun j hj h n hn hb => ?_, ?_⟩
          · rcases split h with h | rfl
            · exact h3 j hj h n hn hb
            · have := v2 n hn hb; omega
          · rw [hs, h4, if_neg (by simp only; omega)]
/-- The first fault of all, or none. -/
def firstTo (bad : Nat → Bool) : Nat → Int
  | 0 => -1
  | k + 1 => if bad k = true ∧ firstTo bad k < 0 then (k : Int) else firstTo bad k
theorem firstTo_spec (bad : Nat → Bool) : ∀ k, ((∀ i, i < k → bad i = false) ∧ firstTo bad k = -1) ∨ ∃ m, m < k ∧ bad m = true ∧ (∀ i, i < m → bad i = false) ∧ firstTo bad k = (m : Int)
  | 0 => .inl ⟨fun i h => by omega, rfl⟩
  | k + 1 => by
    rcases firstTo_spec bad k with ⟨h1, h2⟩ | ⟨m, h1, h2, h3, h4⟩
    · by_cases hb : bad k = true
      · right
        refine ⟨k, by omega, hb, h1, ?_⟩
        unfold firstTo; rw [if_pos ⟨hb, by rw [h2]; decide⟩]
      · left
        refine ⟨fun i h => ?_, ?_⟩
        · rcases Nat.lt_or_ge i k with h | h
          · exact h1 i h
          · obtain rfl : i = k := by omega
            simpa using hb
        · unfold firstTo; rw [if_neg (fun h => hb h.1), h2]
    · right
      refine ⟨m, by omega, h2, h3, ?_⟩
      unfold firstTo; rw [if_neg (fun h => by rw [h4] at h; omega), h4]
theorem voteOf_err (bad : Nat → Bool) (l : List Nat) : (voteOf bad l).err ≠ 12 := by
  unfold voteOf
  rcases voteTo_spec bad l l.length (Nat.le_refl _) with ⟨_, h⟩ | ⟨q, hq, _, _, h⟩
  · rw [h]; decide
  · rw [h]; simp only; omega
theorem busy_votes (bad : Nat → Bool) (pl : List (List Nat)) : busyV (pl.map (voteOf bad)) = false := by
  unfold busyV
  rw [List.any_eq_false]
  intro v hv
  obtain ⟨l, _, rfl⟩ := List.mem_map.1 hv
  simpa using voteOf_err bad l
theorem planModel_law (bad : Nat → Bool) (f : Nat → Int) (n sh : Nat) (hf : ∀ i, i < n → 0 ≤ f i ∧ f i < (sh : Int)) :
    (firstTo bad n < 0 ∧ verdict (placesOf f n sh) ((placesOf f n sh).map (voteOf bad)) = (0, -1)) ∨ (0 ≤ firstTo bad n ∧ verdict (placesOf f n sh) ((placesOf f n sh).map (voteOf bad)) = (4 + (((firstTo bad n).toNat % 3 : Nat) : Int), firstTo bad n)) := by
  have hmem : ∀ i, i < n → ∃ j, ∃ hj : j < (placesOf f n sh).length, i ∈ (placesOf f n sh)[j] := by
    intro i hi
    obtain ⟨h1, h2⟩ := hf i hi
    have hs : (f i).toNat ∈ shardsOf f n sh := shardsOf_mem.2 ⟨by omega, i, hi, by omega⟩
    obtain ⟨j, hj, e⟩ := List.getElem_of_mem hs
    refine ⟨j, by simpa [placesOf] using hj, ?_⟩
    simp only [placesOf, List.getElem_map, e]
    exact splitTo_mem.2 ⟨hi, by omega⟩
  have hlt : ∀ l ∈ placesOf f n sh, ∀ i ∈ l, i < n := by
    intro l hl i hi
    obtain ⟨s, _, rfl⟩ := List.mem_map.1 hl
    exact (splitTo_mem.1 hi).1
  have hr : ∀ l ∈ placesOf f n sh, l.Pairwise (· < ·) := by
    intro l hl
    obtain ⟨s, _, rfl⟩ := List.mem_map.1 hl
    exact splitTo_rising f n s
  have hver : verdict (placesOf f n sh) ((placesOf f n sh).map (voteOf bad)) = verdTo (placesOf f n sh) false ((placesOf f n sh).map (voteOf bad)) (placesOf f n sh).length := by
    unfold verdict
    rw [if_neg (by simp), busy_votes, List.length_map]
  rw [hver]
  rcases verdTo_spec bad (placesOf f n sh) hr _ (Nat.le_refl _) with ⟨h1, h2⟩ | ⟨m, ⟨i, hi, _, him⟩, h2, h3, h4⟩
  · left
    rcases firstTo_spec bad n with ⟨_, e⟩ | ⟨m, k1, k2, _, _⟩
    · exact ⟨by rw [e]; decide, h2⟩
    · obtain ⟨j, hj, hjm⟩ := hmem m k1
      rw [h1 j hj hj m hjm] at k2; cases k2
  · right
    have hmn := hlt _ (List.getElem_mem hi) m him
    rcases firstTo_spec bad n with ⟨k1, _⟩ | ⟨q, k1, k2, k3, k4⟩
    · rw [k1 m hmn] at h2; cases h2
    · obtain ⟨j, hj, hjq⟩ := hmem q k1
      have a1 := h3 j hj hj q hjq k2
      have a2 : ¬ m < q := fun h => by rw [k3 m h] at h2; cases h2
      obtain rfl : m = q := by omega
      rw [k4, h4]
      exact ⟨by omega, by simp⟩
/-! All is somebody's: sums. -/
def sumTo (g : Nat → Nat) : Nat → Nat
  | 0 => 0
  | s + 1 => sumTo g s + g s
theorem sumTo_add (g h : Nat → Nat) : ∀ n, sumTo (fun s => g s + h s) n = sumTo g n + sumTo h n
  | 0 => rfl
  | n + 1 => by simp only [sumTo, sumTo_add g h n]; omega
theorem sumTo_zero : ∀ n, sumTo (fun _ => 0) n = 0
  | 0 => rfl
  | n + 1 => by simp only [sumTo, sumTo_zero n]
theorem sumTo_one (k : Nat) : ∀ n, sumTo (fun s => if k = s then 1 else 0) n = if k < n then 1 else 0
  | 0 => by simp [sumTo]
  | n + 1 => by
    simp only [sumTo, sumTo_one k n]
    by_cases h1 : k < n
    · rw [if_pos h1, if_neg (by omega), if_pos (by omega)]
    · by_cases h2 : k = n
      · rw [if_neg h1, if_pos h2, if_pos (by omega)]
      · rw [if_neg h1, if_neg h2, if_neg (by omega)]
theorem split_total (f : Nat → Int) (sh : Nat) : ∀ n, (∀ i, i < n → 0 ≤ f i ∧ f i < (sh : Int)) → sumTo (fun s => (splitTo f n s).length) sh = n
  | 0, _ => by
    have : (fun s => (splitTo f 0 s).length) = fun _ => 0 := by funext s; rfl
    rw [this, sumTo_zero]
  | n + 1, h => by
    have e : (fun s => (splitTo f (n + 1) s).length) = fun s => (splitTo f n s).length + (if (f n).toNat = s then 1 else 0) := by
      funext s
      have h0 := h n (by omega)
      rw [splitTo_snoc]
      by_cases hs : f n = (s : Int)
      · rw [if_pos hs, if_pos (by omega), List.length_append]; rfl
      · rw [if_neg hs, if_neg (by omega), Nat.add_zero]
    have h0 := h n (by omega)
    rw [e, sumTo_add, split_total f sh n (fun i hi => h i (by omega)), sumTo_one, if_pos (by omega)]
theorem places_snoc (f : Nat → Int) (n s : Nat) : placesOf f n (s + 1) = if splitTo f n s = [] then placesOf f n s else placesOf f n s ++ [splitTo f n s] := by
  unfold placesOf
  rw [shardsOf_snoc]
  split <;> simp
theorem places_total (f : Nat → Int) (n : Nat) : ∀ sh, ((placesOf f n sh).map List.length).sum = sumTo (fun s => (splitTo f n s).length) sh
  | 0 => rfl
  | s + 1 => by
    rw [places_snoc, sumTo, ← places_total f n s]
    split
    · rename_i h; rw [h]; rfl
    · simp
theorem places_all {f : Nat → Int} {n sh : Nat} (h : ∀ i, i < n → 0 ≤ f i ∧ f i < (sh : Int)) : ((placesOf f n sh).map List.length).sum = n := by rw [places_total, split_total f sh n h]
/-! All of one shard. -/
theorem split_const {f : Nat → Int} {n : Nat} {c : Nat} (h : ∀ i, i < n → f i = (c : Int)) : splitTo f n c = List.range n := by
  unfold splitTo
  rw [List.filter_eq_self]
  intro i hi
  rw [decide_eq_true_iff]
  exact h i (List.mem_range.1 hi)
theorem split_other {f : Nat → Int} {n : Nat} {c s : Nat} (h : ∀ i, i < n → f i = (c : Int)) (hs : s ≠ c) : splitTo f n s = [] := by
  unfold splitTo
  rw [List.filter_eq_nil_iff]
  intro i hi
  rw [decide_eq_true_iff, h i (List.mem_range.1 hi)]
  omega
theorem shards_const {f : Nat → Int} {n : Nat} {c : Nat} (hn : 1 ≤ n) (h : ∀ i, i < n → f i = (c : Int)) : ∀ sh, shardsOf f n sh = if c < sh then [c] else []
  | 0 => rfl
  | s + 1 => by
    rw [shardsOf_snoc, shards_const hn h s]
    by_cases h1 : s = c
    · subst h1
      have hne : splitTo f n s ≠ [] := by
        rw [split_const h]
        intro e
        have := congrArg List.length e
        simp at this; omega
      rw [if_neg hne, if_neg (by omega), if_pos (by omega)]; rfl
    · rw [if_pos (split_other h h1)]
      by_cases h2 : c < s
      · rw [if_pos h2, if_pos (by omega)]
      · rw [if_neg h2, if_neg (by omega)]
/-- A first name is moved, or why not. -/
def moveT (sh : Nat) (mv : Moved) (top : ByteArray) (s : Int) : Moved × Int :=
  if topB (⟨#[47]⟩ ++ top) ≠ top ∨ top = ⟨#[]⟩ ∨ s < 0 ∨ (sh : Int) ≤ s then (mv, 1) else if mget mv top = none ∧ 50 ≤ mv.length then (mv, 2) else (mset mv top s, 0)
theorem mset_all {mv : Moved} {P : Int → Prop} (h : ∀ e ∈ mv, P e.2) {k : ByteArray} {s : Int} (hs : P s) : ∀ e ∈ mset mv k s, P e.2 := by
  induction mv with
  | nil => intro e he; simp [mset] at he; subst he; exact hs
  | cons a r ih =>
    intro e he
    unfold mset at he
    split at he
    · rcases List.mem_cons.1 he with rfl | he
      · exact hs
      · exact h e (List.mem_cons_of_mem _ he)
    · rcases List.mem_cons.1 he with rfl | he
      · exact h e List.mem_cons_self
      · exact ih (fun e he => h e (List.mem_cons_of_mem _ he)) e he
theorem moveT_ok {sh : Nat} {mv : Moved} (h : TabOk sh mv) (top : ByteArray) (s : Int) : TabOk sh (moveT sh mv top s).1 := by
  unfold moveT
  by_cases h1 : topB (⟨#[47]⟩ ++ top) ≠ top ∨ top = ⟨#[]⟩ ∨ s < 0 ∨ (sh : Int) ≤ s
  · rw [if_pos h1]; exact h
  · rw [if_neg h1]
    by_cases h2 : mget mv top = none ∧ 50 ≤ mv.length
    · rw [if_pos h2]; exact h
    · rw [if_neg h2]
      refine ⟨h.sh1, h.sh4, mset_all (P := fun s => 0 ≤ s ∧ s < (sh : Int)) h.mv ?_⟩
      have a1 : ¬ s < 0 := fun e => h1 (.inr (.inr (.inl e)))
      have a2 : ¬ (sh : Int) ≤ s := fun e => h1 (.inr (.inr (.inr e)))
      omega
theorem ofT_top {sh : Nat} {mv : Moved} {p q : ByteArray} (h : topL p.data.toList = topL q.data.toList) : ofT sh mv p = ofT sh mv q := by unfold ofT topB; rw [h]
end Av
