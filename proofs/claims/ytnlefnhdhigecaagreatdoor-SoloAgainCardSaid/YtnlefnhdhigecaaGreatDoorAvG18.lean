/- Texts put together: AvWatLaw, AvOps, AvSoloP. -/
import Derived.Test.YtnlefnhdhigecaaGreatDoorAvG1
import Derived.Test.YtnlefnhdhigecaaGreatDoorAvG8
import Derived.Lib.Strings
import Derived.Test.YtnlefnhdhigecaaGreatDoorAvG2
import Derived.Test.YtnlefnhdhigecaaGreatDoorAvG17

/- Who waits for a change: plain laws. No program. -/
namespace Av
set_option maxRecDepth 100000
open Go
/-- A watch, or an event. -/
structure Wt where
  sess : Int
  path : ByteArray
  kind : Int
deriving DecidableEq, Inhabited
abbrev Wt.bs (a : Wt) : Bs := a.path.data.toList
theorem bs_inj {a b : ByteArray} (h : a.data.toList = b.data.toList) : a = b := by
  cases a; cases b; congr 1; exact Array.toList_inj.1 h
/-- By session, kind, path. -/
def ltW (a b : Wt) : Bool := decide (a.sess < b.sess) || (decide (a.sess = b.sess) && (decide (a.kind < b.kind) || (decide (a.kind = b.kind) && decide (a.bs < b.bs))))
theorem ltW_iff (a b : Wt) : ltW a b = true ↔ a.sess < b.sess ∨ (a.sess = b.sess ∧ (a.kind < b.kind ∨ (a.kind = b.kind ∧ a.bs < b.bs))) := by simp [ltW]
theorem ltW_irrefl (a : Wt) : ltW a a = false := by
  rw [Bool.eq_false_iff]; intro h
  rcases (ltW_iff _ _).1 h with h | ⟨_, h | ⟨_, h⟩⟩
  · omega
  · omega
  · exact List.lt_irrefl _ h
theorem ltW_trans {a b c : Wt} (h1 : ltW a b = true) (h2 : ltW b c = true) : ltW a c = true := by
  rw [ltW_iff] at *
  rcases h1 with h1 | ⟨e1, h1 | ⟨f1, h1⟩⟩ <;> rcases h2 with h2 | ⟨e2, h2 | ⟨f2, h2⟩⟩
  · exact .inl (by omega)
  · exact .inl (by omega)
  · exact .inl (by omega)
  · exact .inl (by omega)
  · exact .inr ⟨by omega, .inl (by omega)⟩
  · exact .inr ⟨by omega, .inl (by omega)⟩
  · exact .inl (by omega)
  · exact .inr ⟨by omega, .inl (by omega)⟩
  · exact .inr ⟨by omega, .inr ⟨by omega, List.lt_trans h1 h2⟩⟩
theorem ltW_total {a b : Wt} (h1 : ltW a b = false) (h2 : ltW b a = false) : a = b := by
  rw [Bool.eq_false_iff, ne_eq, ltW_iff] at h1 h2
  have e1 : a.sess = b.sess := by
    apply Int.le_antisymm
    · exact Int.not_lt.1 fun h => h2 (.inl h)
    · exact Int.not_lt.1 fun h => h1 (.inl h)
  have e2 : a.kind = b.kind := by
    apply Int.le_antisymm
    · exact Int.not_lt.1 fun h => h2 (.inr ⟨e1.symm, .inl h⟩)
    · exact Int.not_lt.1 fun h => h1 (.inr ⟨e1, .inl h⟩)
  have e3 : a.path = b.path := bs_inj (List.le_antisymm (fun h => h2 (.inr ⟨e1.symm, .inr ⟨e2.symm, h⟩⟩)) (fun h => h1 (.inr ⟨e1, .inr ⟨e2, h⟩⟩)))
  cases a; cases b; simp_all
theorem ltW_asymm {a b : Wt} (h : ltW a b = true) : ltW b a = false := by
  cases hb : ltW b a with
  | false => rfl
  | true => have := ltW_trans h hb; rw [ltW_irrefl] at this; cases this
theorem ltW_or {a b : Wt} (hne : a ≠ b) (h : ltW a b = false) : ltW b a = true := by
  cases hb : ltW b a with
  | true => rfl
  | false => exact absurd (ltW_total h hb) hne
theorem ltW_ntrans {a b c : Wt} (h1 : ltW a b = false) (h2 : ltW b c = false) : ltW a c = false := by
  cases hc : ltW a c with
  | false => rfl
  | true =>
    by_cases e1 : a = b
    · subst e1; rw [h2] at hc; cases hc
    · have := ltW_trans (ltW_or e1 h1) hc
      rw [h2] at this; cases this
/-! The code's order. -/
def cmpV (l g : Bool) : Int := match l, g with
  | true, _ => -1
  | false, true => 1
  | false, false => 0
def orI : List Int → Int
  | [] => 0
  | x :: r => bif x == 0 then orI r else x
def cmpI (x y : Int) : Int := cmpV (decide (x < y)) (decide (y < x))
def cmpS (x y : ByteArray) : Int := cmpV (decide (x.data.toList < y.data.toList)) (decide (y.data.toList < x.data.toList))
def ordW (a b : Wt) : Int := orI [cmpI a.sess b.sess, cmpI a.kind b.kind, cmpS a.path b.path]
theorem cmpI_lt (x y : Int) : (x < y → cmpI x y = -1) ∧ (x = y → cmpI x y = 0) ∧ (y < x → cmpI x y = 1) := by
  refine ⟨fun h => ?_, fun h => ?_, fun h => ?_⟩
  · simp [cmpI, h, cmpV]
  · subst h; simp [cmpI, cmpV]
  · have : ¬ x < y := by omega
    simp [cmpI, h, this, cmpV]
theorem ordW_lt (a b : Wt) : decide (ordW a b < 0) = ltW a b := by
  rw [Bool.eq_iff_iff, decide_eq_true_iff, ltW_iff]
  unfold ordW
  rcases Int.lt_trichotomy a.sess b.sess with h | h | h
  · rw [(cmpI_lt _ _).1 h]; simp [orI, h]
  · rw [(cmpI_lt _ _).2.1 h]
    rcases Int.lt_trichotomy a.kind b.kind with h2 | h2 | h2
    · rw [(cmpI_lt _ _).1 h2]; simp [orI, h, h2]
    · rw [(cmpI_lt _ _).2.1 h2]
      unfold cmpS
      by_cases h3 : a.bs < b.bs
      · simp [orI, h, h2, h3, cmpV]
      · by_cases h4 : b.bs < a.bs <;> simp [orI, h, h2, h3, h4, cmpV]
    · rw [(cmpI_lt _ _).2.2 h2]; simp [orI, h]; omega
  · rw [(cmpI_lt _ _).2.2 h]; simp [orI]; omega
/-- Strictly rising. -/
abbrev RisW (l : List Wt) : Prop := l.Pairwise (fun a b => ltW a b = true)
theorem risW_ext : ∀ {a b : List Wt}, RisW a → RisW b → (∀ x, x ∈ a ↔ x ∈ b) → a = b
  | [], [], _, _, _ => rfl
  | [], y :: b, _, _, h => absurd ((h y).2 (by simp)) (by simp)
  | x :: a, [], _, _, h => absurd ((h x).1 (by simp)) (by simp)
  | x :: a, y :: b, ha, hb, h => by
    obtain ⟨hx, ha'⟩ := List.pairwise_cons.1 ha
    obtain ⟨hy, hb'⟩ := List.pairwise_cons.1 hb
    have irr : ∀ {z : Wt}, ltW z z = true → False := fun h => by rw [ltW_irrefl] at h; cases h
    have hxy : x = y := by
      rcases List.mem_cons.1 ((h x).1 (by simp)) with e | e
      · exact e
      · rcases List.mem_cons.1 ((h y).2 (by simp)) with e2 | e2
        · exact e2.symm
        · exact (irr (ltW_trans (hx y e2) (hy x e))).elim
    subst hxy
    rw [risW_ext ha' hb' (fun z => ?_)]
    constructor
    · intro hz
      rcases List.mem_cons.1 ((h z).1 (by simp [hz])) with e | e
      · exact (irr (by have := hx z hz; rwa [e] at this)).elim
      · exact e
    · intro hz
      rcases List.mem_cons.1 ((h z).2 (by simp [hz])) with e | e
      · exact (irr (by have := hy z hz; rwa [e] at this)).elim
      · exact e
theorem risW_nodup {l : List Wt} (h : RisW l) : l.Nodup := h.imp fun {a b} hab e => by rw [e, ltW_irrefl] at hab; cases hab
/-- How many of a list stand before a watch, from its head on. -/
def befN (s : Wt) : List Wt → Nat
  | [] => 0
  | t :: r => if ltW t s then befN s r + 1 else 0
theorem befN_yes {s t : Wt} {r : List Wt} (h : ltW t s = true) : befN s (t :: r) = befN s r + 1 := if_pos h
theorem befN_no {s t : Wt} {r : List Wt} (h : ltW t s = false) : befN s (t :: r) = 0 := if_neg (by rw [h]; decide)
theorem befN_take (s : Wt) : ∀ (l : List Wt), ∀ x ∈ l.take (befN s l), ltW x s = true
  | [], x, h => by simp at h
  | t :: r, x, h => by
    unfold befN at h
    split at h
    · rename_i ht
      rw [List.take_succ_cons] at h
      rcases List.mem_cons.1 h with e | e
      · subst e; exact ht
      · exact befN_take s r x e
    · simp at h
theorem befN_at (s : Wt) : ∀ (l : List Wt) (k : Nat) (hk : k < l.length), (∀ x ∈ l.take k, ltW x s = true) → ltW l[k] s = false → befN s l = k
  | [], k, hk, _, _ => by simp at hk
  | t :: r, 0, _, _, h => befN_no (by simpa using h)
  | t :: r, k + 1, hk, h1, h2 => by
    rw [befN_yes (h1 t (by simp)), befN_at s r k (by simpa using hk) (fun x hx => h1 x (by simp [hx])) (by simpa using h2)]
theorem befN_get (s : Wt) : ∀ (l : List Wt) (h : befN s l < l.length), ltW l[befN s l] s = false
  | [], h => by simp at h
  | t :: r, h => by
    cases ht : ltW t s with
    | true =>
      have e : befN s (t :: r) = befN s r + 1 := befN_yes ht
      have h2 : befN s r < r.length := by rw [e] at h; simpa using h
      have := befN_get s r h2
      simpa [e] using this
    | false =>
      have e : befN s (t :: r) = 0 := befN_no ht
      simpa [e] using ht
/-- The document's list, one watch more. -/
def insW (m : List Wt) (s : Wt) : List Wt := m.take (befN s m) ++ s :: m.drop (befN s m)
theorem insW_mem (m : List Wt) (s x : Wt) : x ∈ insW m s ↔ x ∈ m ∨ x = s := by
  have hsplit : m.take (befN s m) ++ m.drop (befN s m) = m := List.take_append_drop _ _
  unfold insW
  constructor
  · intro hx
    rcases List.mem_append.1 hx with hx | hx
    · exact .inl (by rw [← hsplit]; exact List.mem_append_left _ hx)
    · rcases List.mem_cons.1 hx with e | e
      · exact .inr e
      · exact .inl (by rw [← hsplit]; exact List.mem_append_right _ e)
  · intro hx
    rcases hx with hx | rfl
    · rw [← hsplit] at hx
      rcases List.mem_append.1 hx with hx | hx
      · exact List.mem_append_left _ hx
      · exact List.mem_append_right _ (List.mem_cons_of_mem _ hx)
    · exact List.mem_append_right _ (by simp)
theorem bef_mem {m : List Wt} {s : Wt} (h : RisW m) : m[befN s m]? = some s ↔ s ∈ m := by
  constructor
  · exact List.mem_of_getElem?
  · intro hs
    obtain ⟨k, hk, e⟩ := List.getElem_of_mem hs
    have h1 : ∀ x ∈ m.take k, ltW x s = true := by
      intro x hx
      obtain ⟨j, hj, rfl⟩ := List.getElem_of_mem hx
      rw [List.length_take] at hj
      rw [List.getElem_take, ← e]
      exact List.pairwise_iff_getElem.1 h j k (by omega) hk (by omega)
    rw [befN_at s m k hk h1 (by rw [e]; exact ltW_irrefl s), List.getElem?_eq_getElem hk, e]
theorem insW_ris {m : List Wt} {s : Wt} (h : RisW m) (hs : s ∉ m) : RisW (insW m s) := by
  have hl := befN_take s m
  have hr : ∀ x ∈ m.drop (befN s m), ltW s x = true := by
    by_cases hlt : befN s m < m.length
    · have hg := befN_get s m hlt
      have hne : m[befN s m] ≠ s := fun e => hs (e ▸ List.getElem_mem hlt)
      have h3 := ltW_or hne hg
      have hd : m.drop (befN s m) = m[befN s m] :: m.drop (befN s m + 1) := List.drop_eq_getElem_cons hlt
      have hp : RisW (m.drop (befN s m)) := h.sublist (List.drop_sublist _ _)
      rw [hd] at hp ⊢
      intro x hx
      rcases List.mem_cons.1 hx with e | e
      · rw [e]; exact h3
      · exact ltW_trans h3 ((List.pairwise_cons.1 hp).1 x e)
    · rw [List.drop_of_length_le (by omega)]; simp
  have h1 : RisW (m.take (befN s m)) := h.sublist (List.take_sublist _ _)
  have h3 : RisW (m.drop (befN s m)) := h.sublist (List.drop_sublist _ _)
  refine List.pairwise_append.2 ⟨h1, List.pairwise_cons.2 ⟨hr, h3⟩, fun a ha b hb => ?_⟩
  rcases List.mem_cons.1 hb with e | e
  · rw [e]; exact hl a ha
  · exact ltW_trans (hl a ha) (hr b e)
/-! Both: what is asked, what is told. -/
/-- May it be armed? -/
def wtOk (x : Wt) : Bool := decide (1 ≤ x.sess) && (goodL x.bs && (decide (x.kind = 1) || decide (x.kind = 2)))
/-- What a watch is told of a change (the code's word). -/
def evG (p up : ByteArray) (ch : Int) (x : Wt) : Int :=
  if x.kind = 1 ∧ x.path = p then ch else if (x.kind = 2 ∧ ch = 2) ∧ x.path = p then ch else if ((x.kind = 2 ∧ ch ≠ 3) ∧ up ≠ ⟨#[]⟩) ∧ x.path = up then 4 else 0
/-- .. (the document's word). -/
def evW (p up : ByteArray) (under : Bool) (ch : Int) (x : Wt) : Int :=
  if x.path = p ∧ (x.kind = 1 ∨ ch = 2) then ch else if ((under = true ∧ ch < 3) ∧ x.kind = 2) ∧ x.path = up then 4 else 0
theorem optS_ne (p : ByteArray) : optS (parentL p.data.toList) ≠ ⟨#[]⟩ ↔ (parentL p.data.toList).isSome = true := by
  cases h : parentL p.data.toList with
  | none => simp [optS]
  | some q =>
    simp only [Option.isSome_some, iff_true]
    intro e
    have h1 := (top_parent _ _ h).2.1
    have h2 := (good_len _ h1).1
    have : q = [] := by
      have := congrArg (fun b : ByteArray => b.data.toList) e
      simpa [optS] using this
    subst this
    simp at h2
theorem ev_eq (p : ByteArray) (ch : Int) (x : Wt) (hc : 1 ≤ ch ∧ ch ≤ 3) (hx : x.kind = 1 ∨ x.kind = 2) :
    evG p (optS (parentL p.data.toList)) ch x = evW p (optS (parentL p.data.toList)) (parentL p.data.toList).isSome ch x := by
  have ho := optS_ne p
  unfold evG evW
  generalize optS (parentL p.data.toList) = up at ho ⊢
  generalize (parentL p.data.toList).isSome = un at ho ⊢
  by_cases h1 : x.path = p <;> by_cases h2 : x.path = up <;> rcases hx with hx | hx <;> by_cases h3 : ch = 2 <;> by_cases h4 : ch = 3 <;> cases un <;> simp_all <;> first | omega | (intros; omega) | skip
/-- Who is told, and what stays. -/
def toldW (f : Wt → Int) (l : List Wt) : List Wt := l.filterMap fun x => if f x = 0 then none else some { x with kind := f x }
def restW (f : Wt → Int) (l : List Wt) : List Wt := l.filter fun x => decide (f x = 0)
theorem toldW_snoc (f : Wt → Int) (l : List Wt) (x : Wt) : toldW f (l ++ [x]) = if f x = 0 then toldW f l else toldW f l ++ [{ x with kind := f x }] := by
  unfold toldW
  rw [List.filterMap_append]
  by_cases h : f x = 0 <;> simp [h]
theorem told_rest_len (f : Wt → Int) : ∀ (l : List Wt), (toldW f l).length + (restW f l).length = l.length
  | [] => rfl
  | x :: l => by
    have := told_rest_len f l
    unfold toldW restW at *
    by_cases h : f x = 0
    · simp [h]; omega
    · simp [h]; omega
theorem toldW_congr {f g : Wt → Int} {l : List Wt} (h : ∀ x ∈ l, f x = g x) : toldW f l = toldW g l := by
  induction l with
  | nil => rfl
  | cons x l ih =>
    unfold toldW at *
    rw [List.filterMap_cons, List.filterMap_cons, h x (by simp), ih (fun y hy => h y (by simp [hy]))]
theorem restW_congr {f g : Wt → Int} {l : List Wt} (h : ∀ x ∈ l, f x = g x) : restW f l = restW g l := by
  induction l with
  | nil => rfl
  | cons x l ih =>
    unfold restW at *
    rw [List.filter_cons, List.filter_cons, h x (by simp), ih (fun y hy => h y (by simp [hy]))]
/-- The watches in their order. -/
def sortW (l : List Wt) : List Wt := l.mergeSort fun x y => !ltW y x
theorem sortW_mem {l : List Wt} {x : Wt} : x ∈ sortW l ↔ x ∈ l := (List.mergeSort_perm l _).mem_iff
theorem sortW_perm (l : List Wt) : (sortW l).Perm l := List.mergeSort_perm l _
theorem sortW_len (l : List Wt) : (sortW l).length = l.length := (sortW_perm l).length_eq
theorem sortW_ris {l : List Wt} (h : l.Nodup) : RisW (sortW l) := by
  have hp := List.pairwise_mergeSort (le := fun x y : Wt => !ltW y x) (fun a b c h1 h2 => by simp only [Bool.not_eq_true'] at *; exact ltW_ntrans h2 h1) (fun a b => by
    cases h1 : ltW a b <;> cases h2 : ltW b a <;> simp
    have := ltW_asymm h1; rw [h2] at this; cases this) l
  have hn : (sortW l).Nodup := (sortW_perm l).nodup_iff.2 h
  refine List.Pairwise.imp₂ (fun {a b} h1 h2 => ?_) hp hn
  simp only [Bool.not_eq_true'] at h1
  exact ltW_or (Ne.symm h2) h1
theorem restW_ris {f : Wt → Int} {l : List Wt} (h : RisW l) : RisW (restW f l) := h.sublist List.filter_sublist
/-- The code's watches, as the document's: alike, each once. -/
structure AsW (l m : List Wt) : Prop where
  nod : l.Nodup
  ris : RisW m
  mem : ∀ x, x ∈ m ↔ x ∈ l
  ok : ∀ x ∈ l, wtOk x = true
theorem AsW.nil : AsW [] [] := ⟨List.nodup_nil, List.Pairwise.nil, fun _ => Iff.rfl, by simp⟩
theorem AsW.eq {l m : List Wt} (h : AsW l m) : m = sortW l := risW_ext h.ris (sortW_ris h.nod) fun x => by rw [h.mem, sortW_mem]
theorem AsW.len {l m : List Wt} (h : AsW l m) : m.length = l.length := by rw [h.eq, sortW_len]
theorem AsW.add {l m : List Wt} (h : AsW l m) {x : Wt} (hx : x ∉ l) (ho : wtOk x = true) : AsW (l ++ [x]) (insW m x) := by
  refine ⟨List.nodup_append.2 ⟨h.nod, by simp, fun a ha b hb => ?_⟩, insW_ris h.ris (fun hm => hx ((h.mem x).1 hm)), fun y => ?_, fun y hy => ?_⟩
  · simp only [List.mem_singleton] at hb; subst hb; intro e; subst e; exact hx ha
  · rw [insW_mem, h.mem]; simp
  · rcases List.mem_append.1 hy with hy | hy
    · exact h.ok y hy
    · simp only [List.mem_singleton] at hy; subst hy; exact ho
theorem AsW.rest {l : List Wt} (h : AsW l (sortW l)) (f : Wt → Int) : AsW (restW f (sortW l)) (restW f (sortW l)) :=
  ⟨risW_nodup (restW_ris h.ris), restW_ris h.ris, fun _ => Iff.rfl, fun x hx => h.ok x (sortW_mem.1 (List.mem_filter.1 hx).1)⟩
theorem AsW.filt {l m : List Wt} (h : AsW l m) (p : Wt → Bool) : AsW (l.filter p) (m.filter p) :=
  ⟨h.nod.sublist List.filter_sublist, h.ris.sublist List.filter_sublist, fun x => by rw [List.mem_filter, List.mem_filter, h.mem], fun x hx => h.ok x (List.mem_filter.1 hx).1⟩
theorem wtOk_iff (x : Wt) : wtOk x = true ↔ 1 ≤ x.sess ∧ goodL x.bs = true ∧ (x.kind = 1 ∨ x.kind = 2) := by simp [wtOk]
/-! What comes of a call: the code's, the document's. -/
def armE (room : Nat) (l : List Wt) (x : Wt) : Int := if wtOk x = false then 1 else if x ∈ l then 0 else if room ≤ l.length then 9 else 0
def armG (room : Nat) (l : List Wt) (x : Wt) : List Wt := if wtOk x = true ∧ x ∉ l ∧ l.length < room then l ++ [x] else l
def fireOk (p : ByteArray) (ch : Int) : Bool := goodL p.data.toList && (decide (1 ≤ ch) && decide (ch ≤ 3))
def fireT (p : ByteArray) (ch : Int) (l : List Wt) : List Wt := if fireOk p ch then toldW (evG p (optS (parentL p.data.toList)) ch) (sortW l) else []
def fireG (p : ByteArray) (ch : Int) (l : List Wt) : List Wt := if fireOk p ch then restW (evG p (optS (parentL p.data.toList)) ch) (sortW l) else l
def fireRT (p : ByteArray) (ch : Int) (l : List Wt) : List Wt := if fireOk p ch then toldW (evW p (optS (parentL p.data.toList)) (parentL p.data.toList).isSome ch) l else []
def fireR (p : ByteArray) (ch : Int) (l : List Wt) : List Wt := if fireOk p ch then restW (evW p (optS (parentL p.data.toList)) (parentL p.data.toList).isSome ch) l else l
def dropW (s : Int) (l : List Wt) : List Wt := l.filter fun x => decide (x.sess ≠ s)
theorem AsW.armE {l m : List Wt} (h : AsW l m) (room : Nat) (x : Wt) : armE room l x = (if wtOk x = false then 1 else if m[befN x m]? = some x then 0 else if room ≤ m.length then 9 else 0) := by
  unfold Av.armE
  simp only [bef_mem h.ris, h.mem, h.len]
theorem fireOk_iff (p : ByteArray) (ch : Int) : fireOk p ch = true ↔ goodL p.data.toList = true ∧ 1 ≤ ch ∧ ch ≤ 3 := by simp [fireOk]
theorem AsW.fire {l m : List Wt} (h : AsW l m) (p : ByteArray) (ch : Int) : fireT p ch l = fireRT p ch m ∧ AsW (fireG p ch l) (fireR p ch m) := by
  unfold fireT fireG fireRT fireR
  have hm := h.eq
  cases hok : fireOk p ch with
  | false => exact ⟨rfl, h⟩
  | true =>
    have hc := ((fireOk_iff _ _).1 hok).2
    subst hm
    have he : ∀ x ∈ sortW l, evG p (optS (parentL p.data.toList)) ch x = evW p (optS (parentL p.data.toList)) (parentL p.data.toList).isSome ch x := fun x hx =>
      ev_eq p ch x hc ((wtOk_iff x).1 (h.ok x (sortW_mem.1 hx))).2.2
    simp only [if_true]
    rw [toldW_congr he, restW_congr he]
    exact ⟨rfl, h.rest _⟩
theorem AsW.drop {l m : List Wt} (h : AsW l m) (s : Int) : AsW (dropW s l) (dropW s m) := h.filt _
theorem armG_len (room : Nat) (l : List Wt) (x : Wt) : l.length ≤ (armG room l x).length ∧ (armG room l x).length ≤ l.length + 1 := by
  unfold armG; split <;> simp
theorem fire_len (p : ByteArray) (ch : Int) (l : List Wt) : (fireT p ch l).length + (fireG p ch l).length = l.length := by
  unfold fireT fireG
  split
  · rw [told_rest_len, sortW_len]
  · simp
end Av

/- Slices of ops in memory; what a request may be. No program. -/
namespace Av
set_option maxRecDepth 100000
open Go Go.RowKit
theorem rows_cell {α : Type} (f : α → List Value) (K : Nat) (hf : ∀ x, (f x).length = K) : ∀ (xs : List α) (k : Nat) (hk : k < xs.length) (j : Nat), j < K → (xs.flatMap f)[k * K + j]? = (f xs[k])[j]?
  | [], _, hk, _, _ => by simp at hk
  | a :: xs, 0, _, j, hj => by
    simp only [List.flatMap_cons, List.getElem_cons_zero, Nat.zero_mul, Nat.zero_add]
    rw [List.getElem?_append_left (by rw [hf]; exact hj)]
  | a :: xs, k + 1, hk, j, hj => by
    simp only [List.flatMap_cons, List.getElem_cons_succ]
    rw [List.getElem?_append_right (by rw [hf, Nat.succ_mul]; omega)]
    have := rows_cell f K hf xs k (by simpa using hk) j hj
    rw [← this, hf]
    congr 1
    rw [Nat.succ_mul]
    omega
theorem rows_len {α : Type} (f : α → List Value) (K : Nat) (hf : ∀ x, (f x).length = K) (xs : List α) : (xs.flatMap f).length = xs.length * K := by
  induction xs with
  | nil => simp
  | cons a l ih => rw [List.flatMap_cons, List.length_append, hf, ih, List.length_cons, Nat.succ_mul]; omega
/-- A slice of ops. -/
def OpsAt (w : World) (v : Value) (xs : List OpV) : Prop := Sl w 5 v xs.length (xs.flatMap OpV.cells) ∧ Shp v
theorem OpsAt.ext {w w' : World} {v : Value} {xs : List OpV} (h : OpsAt w v xs) (k : Ext w w') : OpsAt w' v xs := ⟨h.1.ext k, h.2⟩
theorem OpsAt.kp {S : Nat → Prop} {w w' : World} {v : Value} {xs : List OpV} (h : OpsAt w v xs) (k : Kp S w w') (hs : ∀ b, v.ownBlock = some b → b < w.heap.size → ¬ S b) : OpsAt w' v xs := ⟨h.1.kp k hs, h.2⟩
theorem OpsAt.nil (w : World) : OpsAt w (.slice none 0 0) [] := ⟨Sl.nil w 5, .inl rfl⟩
theorem OpsAt.open {w : World} {v : Value} {xs : List OpV} (h : OpsAt w v xs) :
    ∃ a c, v = .slice a xs.length c ∧ xs.length ≤ c ∧ xs.length ≤ maxLen ∧ (0 < xs.length → ∃ b off, a = some ⟨b, off, none⟩ ∧ b < w.heap.size ∧ ∀ k (hk : k < xs.length),
      w.cell? ⟨b, off + k * 5, none⟩ = some (.int .i64 xs[k].kind) ∧ w.cell? ⟨b, off + k * 5 + 1, none⟩ = some (.string xs[k].path) ∧ w.cell? ⟨b, off + k * 5 + 2, none⟩ = some (.string xs[k].data) ∧
      w.cell? ⟨b, off + k * 5 + 3, none⟩ = some (.int .i64 xs[k].ver) ∧ w.cell? ⟨b, off + k * 5 + 4, none⟩ = some (.int .i64 xs[k].flags)) := by
  obtain ⟨a, c, rfl, hcc, h1, _, h3⟩ := Sl.open h.1
  refine ⟨a, c, rfl, hcc, h1, fun hn => ?_⟩
  obtain ⟨b, off, rfl, hb, hc⟩ := h3 hn
  have key : ∀ k (hk : k < xs.length) j x, j < 5 → (xs[k].cells)[j]? = some x → w.cell? ⟨b, off + (k * 5 + j), none⟩ = some x := fun k hk j x hj hx =>
    hc (k * 5 + j) x (by rw [rows_cell OpV.cells 5 (fun _ => rfl) xs k hk j hj]; exact hx)
  refine ⟨b, off, rfl, hb, fun k hk => ⟨?_, ?_, ?_, ?_, ?_⟩⟩
  · have := key k hk 0 _ (by omega) rfl; rwa [Nat.add_zero] at this
  · have := key k hk 1 _ (by omega) rfl; rwa [← Nat.add_assoc] at this
  · have := key k hk 2 _ (by omega) rfl; rwa [← Nat.add_assoc] at this
  · have := key k hk 3 _ (by omega) rfl; rwa [← Nat.add_assoc] at this
  · have := key k hk 4 _ (by omega) rfl; rwa [← Nat.add_assoc] at this

/-- Each op's texts can be. -/
def OpsSz (xs : List OpV) : Prop := ∀ o ∈ xs, o.path.size ≤ maxLen ∧ o.data.size ≤ maxLen
/-- What is wrong with a request first. -/
def mayR (sess num : Int) (xs : List OpV) : Int :=
  if sess < 1 ∨ num < 1 ∨ xs.length = 0 then 1 else if 16 < xs.length then 2 else
    match xs.find? fun o => decide (goodO o ≠ 0) with
    | some o => goodO o
    | none => if 1 < xs.length ∧ xs.any (fun o => readsB o.kind) = true then 1 else 0
/-- Where the first one is, or -1. -/
def idxI (p : OpV → Bool) (xs : List OpV) : Int := match xs.findIdx? p with
  | some i => i
  | none => -1
theorem idxI_at {p : OpV → Bool} {xs : List OpV} {k : Nat} (hk : k < xs.length) (h : ∀ x ∈ xs.take k, p x = false) (hp : p xs[k] = true) : idxI p xs = k := by
  unfold idxI
  have : xs.findIdx? p = some k := by
    rw [List.findIdx?_eq_some_iff_getElem]
    refine ⟨hk, hp, fun j hj => ?_⟩
    have := h (xs[j]) (by rw [List.mem_take_iff_getElem]; exact ⟨j, by omega, rfl⟩)
    simp [this]
  rw [this]
theorem idxI_none {p : OpV → Bool} {xs : List OpV} (h : ∀ x ∈ xs, p x = false) : idxI p xs = -1 := by
  unfold idxI
  have : xs.findIdx? p = none := by rw [List.findIdx?_eq_none_iff]; exact h
  rw [this]
theorem idxI_any (p : OpV → Bool) (xs : List OpV) : decide (0 ≤ idxI p xs) = xs.any p := by
  unfold idxI
  cases h : xs.findIdx? p with
  | none =>
    have : xs.any p = false := by rw [List.any_eq_false]; intro x hx; simp [List.findIdx?_eq_none_iff.1 h x hx]
    rw [this]
    rfl
  | some i =>
    obtain ⟨hi, hp, _⟩ := List.findIdx?_eq_some_iff_getElem.1 h
    have : xs.any p = true := List.any_eq_true.2 ⟨_, List.getElem_mem hi, hp⟩
    rw [this]
    simp
theorem take_allP {α : Type} {p : α → Prop} {l : List α} {k : Nat} (hk : k < l.length) (h : ∀ x ∈ l.take k, p x) (hp : p l[k]) : ∀ x ∈ l.take (k + 1), p x := by
  intro x hx
  rw [List.take_succ_eq_append_getElem hk] at hx
  rcases List.mem_append.1 hx with hx | hx
  · exact h x hx
  · simp at hx; subst hx; exact hp
theorem find_atP {α : Type} (f : α → Bool) (l : List α) (k : Nat) (hk : k < l.length) (h : ∀ x ∈ l.take k, f x = false) (hf : f l[k] = true) : l.find? f = some l[k] := by
  rw [List.find?_eq_some_iff_getElem]
  refine ⟨hf, k, hk, rfl, fun j hj => ?_⟩
  have := h (l[j]) (by rw [List.mem_take_iff_getElem]; exact ⟨j, by omega, rfl⟩)
  simp [this]
theorem mayR_few {sess num : Int} {xs : List OpV} (h : sess < 1 ∨ num < 1 ∨ xs.length = 0) : mayR sess num xs = 1 := by unfold mayR; rw [if_pos h]
theorem mayR_many {sess num : Int} {xs : List OpV} (h : ¬ (sess < 1 ∨ num < 1 ∨ xs.length = 0)) (h2 : 16 < xs.length) : mayR sess num xs = 2 := by unfold mayR; rw [if_neg h, if_pos h2]
theorem mayR_bad {sess num : Int} {xs : List OpV} (h : ¬ (sess < 1 ∨ num < 1 ∨ xs.length = 0)) (h2 : ¬ 16 < xs.length) {k : Nat} (hk : k < xs.length) (h3 : ∀ x ∈ xs.take k, goodO x = 0) (h4 : goodO xs[k] ≠ 0) : mayR sess num xs = goodO xs[k] := by
  unfold mayR
  rw [if_neg h, if_neg h2, find_atP _ xs k hk (fun x hx => by simp [h3 x hx]) (by simpa using h4)]
theorem mayR_all {sess num : Int} {xs : List OpV} (h : ¬ (sess < 1 ∨ num < 1 ∨ xs.length = 0)) (h2 : ¬ 16 < xs.length) (h3 : ∀ x ∈ xs, goodO x = 0) : mayR sess num xs = if 1 < xs.length ∧ xs.any (fun o => readsB o.kind) = true then 1 else 0 := by
  unfold mayR
  have : xs.find? (fun o => decide (goodO o ≠ 0)) = none := by rw [List.find?_eq_none]; intro x hx; simp [h3 x hx]
  rw [if_neg h, if_neg h2, this]
end Av

/- What sessions, several ops at once, and a solo answer, in plain lists. -/
namespace Go.Proofs.YtnlefnhdhigecaaGreatDoor
set_option maxRecDepth 100000
open Go.RowKit Av

/-! Sessions. -/
structure SeV where
  id : Int
  span : Int
  till : Int
abbrev scell (e : SeV) : List Value := [.int .i64 e.id, .int .i64 e.span, .int .i64 e.till]
structure SsV where
  room : Int
  now : Int
  next : Int
  l : List SeV
def isS (id : Int) (x : SeV) : Bool := decide (x.id = id)
def findS (l : List SeV) (id : Int) : Option Nat := l.findIdx? (isS id)
def liveS (s : SsV) (id : Int) : Bool := (findS s.l id).isSome
def openS (s : SsV) (span : Int) : SsV × Int × Int :=
  if span < 1 ∨ 10000 < span then (s, 0, 1) else if s.room ≤ (s.l.length : Int) then (s, 0, 9)
  else (⟨s.room, s.now, s.next + 1, s.l ++ [⟨s.next, span, s.now + span⟩]⟩, s.next, 0)
def setTill (l : List SeV) (k : Nat) (now : Int) : List SeV := match l[k]? with
  | none => l
  | some x => l.set k ⟨x.id, x.span, now + x.span⟩
def touchS (s : SsV) (id : Int) : SsV × Int := match findS s.l id with
  | none => (s, 11)
  | some k => (⟨s.room, s.now, s.next, setTill s.l k s.now⟩, 0)
def overS (now : Int) (x : SeV) : Bool := decide (x.till ≤ now)
theorem findS_at {l : List SeV} {id : Int} {k : Nat} (hk : k < l.length) (h : ∀ x ∈ l.take k, isS id x = false) (hp : isS id l[k] = true) : findS l id = some k := by
  unfold findS
  rw [List.findIdx?_eq_some_iff_getElem]
  refine ⟨hk, hp, fun j hj => ?_⟩
  have := h (l[j]) (by rw [List.mem_take_iff_getElem]; exact ⟨j, by omega, rfl⟩)
  simp [this]
theorem findS_none {l : List SeV} {id : Int} (h : ∀ x ∈ l, isS id x = false) : findS l id = none := by
  unfold findS
  rw [List.findIdx?_eq_none_iff]; exact h
theorem findS_lt {l : List SeV} {id : Int} {k : Nat} (h : findS l id = some k) : ∃ hk : k < l.length, l[k].id = id := by
  unfold findS at h
  rw [List.findIdx?_eq_some_iff_getElem] at h
  obtain ⟨hk, hp, _⟩ := h
  exact ⟨hk, of_decide_eq_true hp⟩
/-- The bounds that the numbers keep. -/
structure SsOk (N : Nat) (s : SsV) : Prop where
  room : s.room = 64
  now : 0 ≤ s.now ∧ s.now ≤ N
  next : 1 ≤ s.next ∧ s.next ≤ N + 1
  len : s.l.length ≤ 64
  ids : ∀ x ∈ s.l, 1 ≤ x.id ∧ x.id < s.next
  span : ∀ x ∈ s.l, 1 ≤ x.span ∧ x.span ≤ 10000
theorem SsOk.mono {N M : Nat} {s : SsV} (h : SsOk N s) (hm : N ≤ M) : SsOk M s := ⟨h.room, ⟨h.now.1, by have := h.now.2; omega⟩, ⟨h.next.1, by have := h.next.2; omega⟩, h.len, h.ids, h.span⟩
theorem SsOk.open {N : Nat} {s : SsV} (h : SsOk N s) (span : Int) : SsOk (N + 1) (openS s span).1 := by
  unfold openS
  split
  · exact h.mono (by omega)
  · split
    · exact h.mono (by omega)
    · rename_i h1 h2
      have hr := h.room
      have hn := h.next
      refine ⟨hr, ⟨h.now.1, by have := h.now.2; show s.now ≤ _; omega⟩, ⟨by show 1 ≤ s.next + 1; omega, by show s.next + 1 ≤ _; omega⟩, by show (s.l ++ _).length ≤ 64; rw [List.length_append, List.length_singleton]; omega, ?_, ?_⟩
      · intro x hx
        rcases List.mem_append.1 hx with hx | hx
        · have := h.ids x hx; exact ⟨this.1, by show x.id < s.next + 1; omega⟩
        · simp only [List.mem_singleton] at hx; subst hx; exact ⟨hn.1, by show s.next < s.next + 1; omega⟩
      · intro x hx
        rcases List.mem_append.1 hx with hx | hx
        · exact h.span x hx
        · simp only [List.mem_singleton] at hx; subst hx; exact ⟨by show 1 ≤ span; omega, by show span ≤ 10000; omega⟩
theorem SsOk.sub {N : Nat} {s : SsV} (h : SsOk N s) {now : Int} {l : List SeV} (hl : l.length ≤ s.l.length) (hs : ∀ x ∈ l, ∃ y ∈ s.l, x.id = y.id ∧ x.span = y.span) (hn : 0 ≤ now ∧ now ≤ N) : SsOk N ⟨s.room, now, s.next, l⟩ :=
  ⟨h.room, hn, h.next, Nat.le_trans hl h.len, fun x hx => by obtain ⟨y, hy, e, _⟩ := hs x hx; rw [e]; exact h.ids y hy, fun x hx => by obtain ⟨y, hy, _, e⟩ := hs x hx; rw [e]; exact h.span y hy⟩
theorem setTill_mem {l : List SeV} {k : Nat} {now : Int} {x : SeV} (h : x ∈ setTill l k now) : ∃ y ∈ l, x.id = y.id ∧ x.span = y.span := by
  unfold setTill at h
  split at h
  · exact ⟨x, h, rfl, rfl⟩
  · rename_i y hy
    rcases List.mem_or_eq_of_mem_set h with h | rfl
    · exact ⟨x, h, rfl, rfl⟩
    · exact ⟨y, List.mem_of_getElem? hy, rfl, rfl⟩
theorem setTill_len (l : List SeV) (k : Nat) (now : Int) : (setTill l k now).length = l.length := by
  unfold setTill
  split
  · rfl
  · rw [List.length_set]
theorem SsOk.touch {N : Nat} {s : SsV} (h : SsOk N s) (id : Int) : SsOk N (touchS s id).1 := by
  unfold touchS
  split
  · exact h
  · exact h.sub (by rw [setTill_len]; exact Nat.le_refl _) (fun x hx => setTill_mem hx) h.now
/-! Replies. -/
structure RpV where
  num : Int
  zxid : Int
  err : Int
  at_ : Int
  res : List Rp
def failRs (e : Int) (at_ : Int) (n : Nat) : List Rp := (List.range n).map fun (i : Nat) => failR (if (i : Int) = at_ then e else 14)
def failRp (num e at_ n : Int) : RpV := ⟨num, 0, e, at_, if n < 0 ∨ 16 < n then [] else failRs e at_ n.toNat⟩
theorem failRs_len (e at_ : Int) (n : Nat) : (failRs e at_ n).length = n := by simp [failRs]
/-! Several at once: on the list of nodes. -/
def runL (room sess z : Int) : RL → List OpV → RL × List Rp × Int
  | L, [] => (L, [], 0)
  | L, o :: os => if (doL room L o sess z).2.err ≠ 0 then ((doL room L o sess z).1, [], (doL room L o sess z).2.err)
    else ((runL room sess z (doL room L o sess z).1 os).1, (doL room L o sess z).2 :: (runL room sess z (doL room L o sess z).1 os).2.1, (runL room sess z (doL room L o sess z).1 os).2.2)
def multiL (room : Int) (L : RL) (sess z : Int) (ops : List OpV) : RL × RpV × Bool :=
  if 16 < ops.length then (L, failRp 0 2 (-1) 0, false) else if ops.length = 0 then (L, failRp 0 1 (-1) 0, false) else
  if (runL room sess z L ops).2.2 ≠ 0 then (L, failRp 0 (runL room sess z L ops).2.2 (runL room sess z L ops).2.1.length ops.length, false)
  else ((runL room sess z L ops).1, ⟨0, z, 0, -1, (runL room sess z L ops).2.1⟩, true)
def requestL (room : Int) (L : RL) (sess num z : Int) (ops : List OpV) : RL × RpV :=
  if mayR sess num ops ≠ 0 then (L, failRp num (mayR sess num ops) (-1) 0) else
  ((multiL room L sess z ops).1, { (multiL room L sess z ops).2.1 with num := num, zxid := z })
theorem runL_len (room sess z : Int) : ∀ (L : RL) (ops : List OpV), (runL room sess z L ops).2.2 = 0 → (runL room sess z L ops).2.1.length = ops.length
  | _, [], _ => rfl
  | L, o :: os, h => by
    unfold runL at h ⊢
    split at h
    · rename_i h1; exact absurd h h1
    · rename_i h1
      rw [if_neg h1]
      simp only [List.length_cons]
      rw [runL_len room sess z _ os h]
theorem runL_snoc (room sess z : Int) : ∀ (L : RL) (ops : List OpV) (o : OpV), (runL room sess z L ops).2.2 = 0 → runL room sess z L (ops ++ [o]) =
    if (doL room (runL room sess z L ops).1 o sess z).2.err ≠ 0 then ((doL room (runL room sess z L ops).1 o sess z).1, (runL room sess z L ops).2.1, (doL room (runL room sess z L ops).1 o sess z).2.err)
    else ((doL room (runL room sess z L ops).1 o sess z).1, (runL room sess z L ops).2.1 ++ [(doL room (runL room sess z L ops).1 o sess z).2], 0)
  | L, [], o, _ => by
    show runL room sess z L [o] = _
    unfold runL
    rfl
  | L, a :: os, o, h => by
    rw [List.cons_append]
    unfold runL at h ⊢
    split at h
    · rename_i h1; exact absurd h h1
    · rename_i h1
      rw [if_neg h1, if_neg h1]
      rw [runL_snoc room sess z _ os o h]
      split <;> rfl
/-- Where one goes wrong, all that stand before it went well. -/
theorem runL_stop (room sess z : Int) {L : RL} {ops : List OpV} {j : Nat} (hj : j < ops.length) (h : (runL room sess z L (ops.take j)).2.2 = 0) (he : (doL room (runL room sess z L (ops.take j)).1 ops[j] sess z).2.err ≠ 0) :
    (runL room sess z L ops).2.2 = (doL room (runL room sess z L (ops.take j)).1 ops[j] sess z).2.err ∧ (runL room sess z L ops).2.1.length = j := by
  have h1 := runL_snoc room sess z L (ops.take j) ops[j] h
  rw [if_pos he, ← List.take_succ_eq_append_getElem hj] at h1
  have key : ∀ (a b : List OpV) (L : RL), (runL room sess z L a).2.2 ≠ 0 → runL room sess z L (a ++ b) = runL room sess z L a := by
    intro a b
    induction a with
    | nil => intro L h; exact absurd rfl h
    | cons x a ih =>
      intro L h
      rw [List.cons_append]
      unfold runL at h ⊢
      split
      · rfl
      · rename_i h1
        rw [if_neg h1] at h
        rw [ih _ h]
  have h2 := key (ops.take (j + 1)) (ops.drop (j + 1)) L (by rw [h1]; exact he)
  rw [List.take_append_drop] at h2
  rw [h2, h1]
  refine ⟨rfl, ?_⟩
  simp only
  rw [runL_len _ _ _ _ _ h, List.length_take]
  omega
end Go.Proofs.YtnlefnhdhigecaaGreatDoor
