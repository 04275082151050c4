/- Regions that draw their order, one of whose operations writes old memory, once: what stands at the start is used up by it (phantom temporaries). No program. -/
import Derived.Test.YtdagikbdpeblhaaGreatDoorAvHDag
namespace Av.X
set_option maxRecDepth 100000
open Go Go.RowKit Av

section
variable {P : Program} {ops : Array Oper} {md : Region.Mode} {R : World → World → Prop} {w0 : World} {S : List (Tmp × TSpec)} {C : List (Tmp × List Tmp × List Tmp)}

/-- An operation's key: a store's is 9999. -/
def keyOf (dst : Option Tmp) : Option Tmp := some (dst.getD 9999)
def conOf (C : List (Tmp × List Tmp × List Tmp)) (dst : Option Tmp) : List Tmp := Av.conOf C (keyOf dst)
def skOf (C : List (Tmp × List Tmp × List Tmp)) (dst : Option Tmp) : List Tmp := Av.skOf C (keyOf dst)
def outOf (C : List (Tmp × List Tmp × List Tmp)) (dst : Option Tmp) : List Tmp := conOf C dst ++ (skOf C dst ++ dst.toList)
/-- What is passed over is used up before, or laid behind. -/
def skB (md : Region.Mode) (ops : Array Oper) (C : List (Tmp × List Tmp × List Tmp)) : Bool :=
  (List.range ops.size).all fun j => match ops[j]? with
    | none => true
    | some oj => (skOf C oj.dst).all fun d =>
      (oj.after.any fun e => Region.binds md e && match ops[e.on]? with | none => false | some oe => (conOf C oe.dst).contains d) ||
      (List.range ops.size).all fun i => match ops[i]? with
        | none => true
        | some oi => oi.dst != some d || oi.after.any (fun e => Region.binds md e && e.on == j)
theorem skB_spec (h : skB md ops C = true) {j : Nat} {oj : Oper} {d : Tmp} (hj : ops[j]? = .some oj) (hd : (skOf C oj.dst).contains d = true) :
    (∃ e ∈ oj.after, Region.binds md e = true ∧ ∃ oe, ops[e.on]? = .some oe ∧ (conOf C oe.dst).contains d = true) ∨ ∀ (i : Nat) (oi : Oper), ops[i]? = .some oi → oi.dst = .some d → ∃ e ∈ oi.after, Region.binds md e = true ∧ e.on = j := by
  have hjs : j < ops.size := (Array.getElem?_eq_some_iff.1 hj).1
  simp only [skB, List.all_eq_true, List.mem_range] at h
  have h1 := h j hjs
  simp only [hj, List.all_eq_true] at h1
  have h2 := h1 d (by simpa using hd)
  simp only [Bool.or_eq_true] at h2
  rcases h2 with h2 | h2
  · left
    obtain ⟨e, he, hb⟩ := Array.any_eq_true'.1 h2
    simp only [Bool.and_eq_true] at hb
    cases ho : ops[e.on]? with
    | none => rw [ho] at hb; exact absurd hb.2 (by simp)
    | some oe => rw [ho] at hb; exact ⟨e, he, hb.1, oe, ho, hb.2⟩
  · right
    intro i oi hi hid
    simp only [List.all_eq_true, List.mem_range] at h2
    have h3 := h2 i (Array.getElem?_eq_some_iff.1 hi).1
    simp only [hi, hid, Bool.or_eq_true] at h3
    rcases h3 with h3 | h3
    · simp at h3
    · obtain ⟨e, he, hb⟩ := Array.any_eq_true'.1 h3
      simp only [Bool.and_eq_true, beq_iff_eq] at hb
      exact ⟨e, he, hb.1, hb.2⟩
/-- What is known of all that an operation looks at. -/
structure Facts (ops : Array Oper) (S : List (Tmp × TSpec)) (C : List (Tmp × List Tmp × List Tmp)) (k : Nat) (o : Oper) (a : Act) (w : World) : Prop where
  at_ : ∀ d, lookB ops k o d = true → (tlook S d).V ((a.tmps[d]?).getD undef) w
  use : ∀ d, (conOf C o.dst).contains d = true → ∃ u, (tlook S d).V u w
/-- The operation by itself: whatever the world (of the class), it yields what is said of it, if what it looks at is as is said of that. -/
def DLoc (P : Program) (ops : Array Oper) (R : World → World → Prop) (w0 : World) (S : List (Tmp × TSpec)) (C : List (Tmp × List Tmp × List Tmp)) (k : Nat) (o : Oper) (a : Act) : Prop :=
  if Region.wanted o (yielded ops a.tmps) then (∃ v, (dspec S o.dst).A v) ∧ ∀ w, R w0 w → Facts ops S C k o a w → DUpon P (fun v w' => (dspec S o.dst).A v ∧ (dspec S o.dst).V v w' ∧ R w w' ∧ Pres S (outOf C o.dst) w w' ∧ (o.dst = none → (tlook S 9999).V undef w')) ((execOp a.eval o).run P w)
  else (dspec S o.dst).A undef ∧ (∀ w, R w0 w → (dspec S o.dst).V undef w) ∧ o.dst ≠ none
def DAl (ops : Array Oper) (S : List (Tmp × TSpec)) (o : Oper) (a : Act) (v : Value) : Prop :=
  if Region.wanted o (yielded ops a.tmps) then (dspec S o.dst).A v else v = undef
def dOp (P : Program) (ops : Array Oper) (R : World → World → Prop) (w0 : World) (S : List (Tmp × TSpec)) (C : List (Tmp × List Tmp × List Tmp)) (i : Nat) (K : Act → Prop) (a : Act) : Prop :=
  match ops[i]? with
  | none => K a
  | some o => DLoc P ops R w0 S C i o a ∧ ∀ v, DAl ops S o a v → K (a.put o.dst v)
theorem dOp_mono {i : Nat} {a : Act} {K K' : Act → Prop} (h : ∀ a, K a → K' a) (hh : dOp P ops R w0 S C i K a) : dOp P ops R w0 S C i K' a := by
  unfold dOp at *
  split
  · exact h _ (by simpa [*] using hh)
  · rename_i o ho
    simp only [ho] at hh
    exact ⟨hh.1, fun v hv => h _ (hh.2 v hv)⟩
theorem DLoc.some {k : Nat} {o : Oper} {a : Act} (h : DLoc P ops R w0 S C k o a) : ∃ v, DAl ops S o a v := by
  unfold DLoc at h
  unfold DAl
  split
  · rename_i hw; rw [if_pos hw] at h; exact h.1
  · exact ⟨_, rfl⟩
theorem DLoc.put {k : Nat} {o : Oper} {a : Act} {dst : Option Tmp} {u : Value} (hs : ∀ cs b, o.op ≠ .select cs b) (h : ∀ d, dst = .some d → d ∉ o.looksAt ops) :
    DLoc P ops R w0 S C k o (a.put dst u) ↔ DLoc P ops R w0 S C k o a := by
  have hF : ∀ w, Facts ops S C k o (a.put dst u) w ↔ Facts ops S C k o a w := by
    intro w
    have key : ∀ d, lookB ops k o d = true → ((a.put dst u).tmps[d]?) = a.tmps[d]? := fun d hd => by
      have hd2 : d ∈ o.looksAt ops := by simp only [lookB, Bool.and_eq_true] at hd; simpa using hd.1
      exact put_get (a := a) (v := u) (dst := dst) (d := d) (fun e he hed => h e he (hed ▸ hd2))
    exact ⟨fun hh => ⟨fun d hd => by have := hh.at_ d hd; rwa [key d hd] at this, hh.use⟩, fun hh => ⟨fun d hd => by rw [key d hd]; exact hh.at_ d hd, hh.use⟩⟩
  unfold DLoc
  rw [wanted_put o a dst u h, execOp_put o hs a dst u h]
  split
  · exact ⟨fun ⟨x, y⟩ => ⟨x, fun w hw hf => y w hw ((hF w).2 hf)⟩, fun ⟨x, y⟩ => ⟨x, fun w hw hf => y w hw ((hF w).1 hf)⟩⟩
  · exact Iff.rfl
theorem DAl.put {o : Oper} {a : Act} {dst : Option Tmp} {u v : Value} (h : ∀ d, dst = .some d → d ∉ o.looksAt ops) : DAl ops S o (a.put dst u) v ↔ DAl ops S o a v := by
  unfold DAl
  rw [wanted_put o a dst u h]

theorem dOp_put {i j : Nat} {oi oj : Oper} (hj : ops[j]? = .some oj) (hap : oi.apart ops oj = true)
    (hsi : ∀ cs b, oi.op ≠ .select cs b) (hsj : ∀ cs b, oj.op ≠ .select cs b) {K : Act → Prop} {a : Act}
    (hL : DLoc P ops R w0 S C i oi a) (h : ∀ v, DAl ops S oi a v → dOp P ops R w0 S C j K (a.put oi.dst v)) :
    dOp P ops R w0 S C j (fun a' => DLoc P ops R w0 S C i oi a' ∧ ∀ v, DAl ops S oi a' v → K (a'.put oi.dst v)) a := by
  obtain ⟨h1, h2, h3⟩ := Oper.apart_spec hap
  unfold dOp at *
  simp only [hj] at *
  obtain ⟨v0, hv0⟩ := hL.some
  refine ⟨(DLoc.put hsj h1).1 (h v0 hv0).1, fun u hu => ⟨(DLoc.put hsi h3).2 hL, fun v hv => ?_⟩⟩
  rw [← Act.put_comm a v u h2]
  exact (h v ((DAl.put h3).1 hv)).2 u ((DAl.put h1).2 hu)

/-- Whatever order is picked from here on, among the first n operations; behind them: L. -/
def wpAnyD (P : Program) (md : Region.Mode) (ops : Array Oper) (R : World → World → Prop) (w0 : World) (S : List (Tmp × TSpec)) (C : List (Tmp × List Tmp × List Tmp)) (n : Nat) (L : Array Bool → Act → Prop) : Nat → Array Bool → Act → Prop
  | 0, listed, a => L listed a
  | f + 1, listed, a =>
    Region.ready md ops listed ≠ [] ∧ ∀ i ∈ Region.ready md ops listed, i < n ∧ dOp P ops R w0 S C i (wpAnyD P md ops R w0 S C n L f (listed.setIfInBounds i true)) a

theorem wpAnyD_first {n i : Nat} {oi : Oper} {L : Array Bool → Act → Prop} (hi : ops[i]? = .some oi) (hsel : ∀ (j : Nat) (o : Oper) cs b, ops[j]? = .some o → o.op ≠ .select cs b)
    (hwt : ∀ listed, HeadInv md ops n listed → listed.getD i true = false → ∀ t, n ≤ t → t ∉ Region.ready md ops listed)
    (hdone : ∀ listed a, L listed a → ∀ j ∈ Region.ready md ops listed, n ≤ j) :
    ∀ (f : Nat) (listed : Array Bool) (a : Act), HeadInv md ops n listed →
      (∀ j oj, ops[j]? = .some oj → j ≠ i → listed.getD j true = false → (∀ e ∈ oj.after, Region.binds md e = true → e.on ≠ i) → oi.apart ops oj = true) →
      i ∈ Region.ready md ops listed → DLoc P ops R w0 S C i oi a →
      (∀ v, DAl ops S oi a v → wpAnyD P md ops R w0 S C n L f (listed.setIfInBounds i true) (a.put oi.dst v)) → wpAnyD P md ops R w0 S C n L (f + 1) listed a := by
  intro f
  induction f with
  | zero =>
    intro listed a inv _ hr hL H
    obtain ⟨v0, hv0⟩ := hL.some
    have hun := (mem_ready.1 hr).1
    refine ⟨fun h => (by rw [h] at hr; cases hr), fun j hj => ?_⟩
    have hjn : j < n := by
      rcases Nat.lt_or_ge j n with h | h
      · exact h
      · exact absurd hj (hwt listed inv hun j h)
    refine ⟨hjn, ?_⟩
    by_cases hji : j = i
    · subst hji; unfold dOp; simp only [hi]; exact ⟨hL, H⟩
    · have := hdone _ _ (H v0 hv0) j (ready_mono hj hji)
      omega
  | succ f ih =>
    intro listed a inv hfree hr hL H
    have hun := (mem_ready.1 hr).1
    refine ⟨fun h => (by rw [h] at hr; cases hr), fun j hj => ?_⟩
    have hjn : j < n := by
      rcases Nat.lt_or_ge j n with h | h
      · exact h
      · exact absurd hj (hwt listed inv hun j h)
    refine ⟨hjn, ?_⟩
    by_cases hji : j = i
    · subst hji; unfold dOp; simp only [hi]; exact ⟨hL, H⟩
    · have h1 := fun v hv => ((H v hv).2 j (ready_mono hj hji)).2
      obtain ⟨hjun, oj, hoj, hall⟩ := mem_ready.1 hj
      have hnot : ∀ e ∈ oj.after, Region.binds md e = true → e.on ≠ i := fun e he hb heq => by
        have h1 := hall e he hb
        rw [heq, getD_both hun] at h1
        cases h1
      have h2 := dOp_put hoj (hfree j oj hoj hji hjun hnot) (fun cs b => hsel i oi cs b hi) (fun cs b => hsel j oj cs b hoj) hL h1
      have hfree' : ∀ k ok, ops[k]? = .some ok → k ≠ i → (listed.setIfInBounds j true).getD k true = false →
          (∀ e ∈ ok.after, Region.binds md e = true → e.on ≠ i) → oi.apart ops ok = true := fun k ok hk hki hun hno => by
        refine hfree k ok hk hki ?_ hno
        by_cases hjk : j = k
        · subst hjk; exact hjun
        · rw [getD_set_ne true hjk] at hun; exact hun
      refine dOp_mono (fun a' h3 => ih (listed.setIfInBounds j true) a' (inv.set hj hjn) hfree' (ready_mono hr (Ne.symm hji)) h3.1 fun v hv => ?_) h2
      rw [Array.setIfInBounds_comm _ _ hji]
      exact h3.2 v hv

/-- The order of the text: up to n. -/
def wpD (P : Program) (ops : Array Oper) (R : World → World → Prop) (w0 : World) (S : List (Tmp × TSpec)) (C : List (Tmp × List Tmp × List Tmp)) (Fin : Act → Prop) : List Oper → Nat → Act → Prop
  | [], _, a => Fin a
  | o :: rest, k, a => DLoc P ops R w0 S C k o a ∧ ∀ v, DAl ops S o a v → wpD P ops R w0 S C Fin rest (k + 1) (a.put o.dst v)

/-- What is known of what has been laid, and not been used up. -/
structure Laid (ops : Array Oper) (S : List (Tmp × TSpec)) (C : List (Tmp × List Tmp × List Tmp)) (D0 : List Tmp) (listed : Array Bool) (a : Act) (w : World) : Prop where
  at_ : ∀ i o d, listed.getD i false = true → ops[i]? = .some o → o.dst = .some d → (∀ j oj, listed.getD j false = true → ops[j]? = .some oj → (conOf C oj.dst).contains d = false) → (tlook S d).V ((a.tmps[d]?).getD undef) w
  ini : ∀ d, D0.contains d = true → (∀ j oj, listed.getD j false = true → ops[j]? = .some oj → (conOf C oj.dst).contains d = false) → ∃ u, (tlook S d).V u w
  put : ∀ (i : Nat) o, listed.getD i false = true → ops[i]? = .some o → o.dst = none → (tlook S 9999).V undef w
/-- What a store leaves is not lost. -/
def putB (ops : Array Oper) (C : List (Tmp × List Tmp × List Tmp)) : Bool := (List.range ops.size).all fun j => match ops[j]? with
  | none => true
  | some oj => !(outOf C oj.dst).contains 9999
theorem putB_spec (h : putB ops C = true) {j : Nat} {oj : Oper} (hj : ops[j]? = .some oj) : (outOf C oj.dst).contains 9999 = false := by
  simp only [putB, List.all_eq_true, List.mem_range] at h
  have h1 := h j (Array.getElem?_eq_some_iff.1 hj).1
  simp only [hj] at h1
  simpa using h1
/-- What one uses up was there at the start, or is laid by one that it waits for; and no other one uses it up. -/
def facB (md : Region.Mode) (ops : Array Oper) (C : List (Tmp × List Tmp × List Tmp)) (D0 : List Tmp) : Bool :=
  (List.range ops.size).all fun j => match ops[j]? with
    | none => true
    | some oj => (conOf C oj.dst).all fun d => (D0.contains d || oj.after.any (fun e => Region.binds md e && match ops[e.on]? with | none => false | some oe => oe.dst == some d)) &&
      (List.range ops.size).all fun k => k == j || match ops[k]? with
        | none => true
        | some ok => !(conOf C ok.dst).contains d
theorem facB_spec {D0 : List Tmp} (h : facB md ops C D0 = true) {j : Nat} {oj : Oper} {d : Tmp} (hj : ops[j]? = .some oj) (hd : (conOf C oj.dst).contains d = true) :
    (D0.contains d = true ∨ ∃ e ∈ oj.after, Region.binds md e = true ∧ ∃ oe, ops[e.on]? = .some oe ∧ oe.dst = .some d) ∧ ∀ (k : Nat) (ok : Oper), ops[k]? = .some ok → (conOf C ok.dst).contains d = true → k = j := by
  have hjs : j < ops.size := (Array.getElem?_eq_some_iff.1 hj).1
  simp only [facB, List.all_eq_true, List.mem_range] at h
  have h1 := h j hjs
  simp only [hj, List.all_eq_true] at h1
  have h2 := h1 d (by simpa using hd)
  rw [Bool.and_eq_true] at h2
  obtain ⟨h2, h3⟩ := h2
  refine ⟨?_, fun k ok hk hc => ?_⟩
  · rw [Bool.or_eq_true] at h2
    rcases h2 with h2 | h2
    · exact .inl h2
    · right
      obtain ⟨e, he, hb⟩ := Array.any_eq_true'.1 h2
      simp only [Bool.and_eq_true] at hb
      cases ho : ops[e.on]? with
      | none => rw [ho] at hb; exact absurd hb.2 (by simp)
      | some oe => rw [ho] at hb; exact ⟨e, he, hb.1, oe, ho, by simpa using hb.2⟩
  · have hks : k < ops.size := (Array.getElem?_eq_some_iff.1 hk).1
    simp only [List.all_eq_true, List.mem_range] at h3
    have h4 := h3 k hks
    simp only [hk, Bool.or_eq_true, beq_iff_eq] at h4
    rcases h4 with h4 | h4
    · exact h4
    · rw [hc] at h4; exact absurd h4 (by simp)
/-- What was there at the start is laid by none; passed over only behind its use. -/
def iniB (md : Region.Mode) (ops : Array Oper) (C : List (Tmp × List Tmp × List Tmp)) (D0 : List Tmp) : Bool :=
  (List.range ops.size).all fun j => match ops[j]? with
    | none => true
    | some oj => D0.all fun d => oj.dst != some d && (!(skOf C oj.dst).contains d || oj.after.any fun e => Region.binds md e && match ops[e.on]? with | none => false | some oe => (conOf C oe.dst).contains d)
theorem iniB_spec {D0 : List Tmp} (h : iniB md ops C D0 = true) {j : Nat} {oj : Oper} {d : Tmp} (hj : ops[j]? = .some oj) (hd : D0.contains d = true) :
    oj.dst ≠ .some d ∧ ((skOf C oj.dst).contains d = true → ∃ e ∈ oj.after, Region.binds md e = true ∧ ∃ oe, ops[e.on]? = .some oe ∧ (conOf C oe.dst).contains d = true) := by
  have hjs : j < ops.size := (Array.getElem?_eq_some_iff.1 hj).1
  simp only [iniB, List.all_eq_true, List.mem_range] at h
  have h1 := h j hjs
  simp only [hj, List.all_eq_true] at h1
  have h2 := h1 d (by simpa using hd)
  rw [Bool.and_eq_true] at h2
  refine ⟨by simpa using h2.1, fun hs => ?_⟩
  have h3 := h2.2
  rw [Bool.or_eq_true] at h3
  rcases h3 with h3 | h3
  · rw [hs] at h3; exact absurd h3 (by simp)
  · obtain ⟨e, he, hb⟩ := Array.any_eq_true'.1 h3
    simp only [Bool.and_eq_true] at hb
    cases ho : ops[e.on]? with
    | none => rw [ho] at hb; exact absurd hb.2 (by simp)
    | some oe => rw [ho] at hb; exact ⟨e, he, hb.1, oe, ho, hb.2⟩

/-- What one uses up none of the first n operations looks at. -/
def conNB (ops : Array Oper) (C : List (Tmp × List Tmp × List Tmp)) (n : Nat) : Bool :=
  (List.range ops.size).all fun j => match ops[j]? with
    | none => true
    | some oj => (conOf C oj.dst).all fun d => (List.range n).all fun k => k == j || match ops[k]? with
      | none => true
      | some ok => !(ok.looksAt ops).contains d
theorem conNB_spec {n : Nat} (h : conNB ops C n = true) {j k : Nat} {oj ok : Oper} {d : Tmp} (hj : ops[j]? = .some oj) (hk : ops[k]? = .some ok) (hkn : k < n) (hd : (conOf C oj.dst).contains d = true) (hl : d ∈ ok.looksAt ops) : k = j := by
  have hjs : j < ops.size := (Array.getElem?_eq_some_iff.1 hj).1
  simp only [conNB, List.all_eq_true, List.mem_range] at h
  have h1 := h j hjs
  simp only [hj, List.all_eq_true, List.mem_range] at h1
  have h2 := h1 d (by simpa using hd) k hkn
  simp only [hk, Bool.or_eq_true, beq_iff_eq] at h2
  rcases h2 with h2 | h2
  · exact h2
  · simp [hl] at h2
theorem Laid.facts {n : Nat} {D0 : List Tmp} {listed : Array Bool} {a : Act} {w : World} (hlk : looksB md ops = true) (hcn : conNB ops C n = true) (hfb : facB md ops C D0 = true) (h : Laid ops S C D0 listed a w) {i : Nat} {o : Oper} (hi : ops[i]? = .some o) (hin : i < n) (hr : i ∈ Region.ready md ops listed) : Facts ops S C i o a w := by
  obtain ⟨hun, o', ho', hall⟩ := mem_ready.1 hr
  obtain rfl : o = o' := by rw [hi] at ho'; exact Option.some.inj ho'
  have hunc : ∀ d, (conOf C o.dst).contains d = true → ∀ j oj, listed.getD j false = true → ops[j]? = .some oj → (conOf C oj.dst).contains d = false := fun d hd j oj hjl hj => by
    cases hc : (conOf C oj.dst).contains d with
    | false => rfl
    | true =>
      have e := (facB_spec hfb hi hd).2 j oj hj hc
      subst e
      rw [getD_both hun] at hjl
      cases hjl
  refine ⟨fun d hd => ?_, fun d hd => ?_⟩
  rotate_left
  · rcases (facB_spec hfb hi hd).1 with h0 | ⟨e, he, hb, oe, hoe, hod⟩
    · exact h.ini d h0 (hunc d hd)
    · exact ⟨_, h.at_ e.on oe d (hall e he hb) hoe hod (hunc d hd)⟩
  clear ho' hall hunc
  simp only [lookB, Bool.and_eq_true, List.contains_iff_mem, List.any_eq_true, beq_iff_eq] at hd
  obtain ⟨hd1, x, hx, hxd⟩ := hd
  obtain ⟨k, hk⟩ := List.mem_iff_getElem?.1 hx
  rw [List.getElem?_take] at hk
  split at hk
  · rename_i hki
    have hk' : ops[k]? = .some x := by simpa using hk
    obtain ⟨e, he, hb, hon⟩ := looksB_spec hlk hi hk' hki hxd hd1
    obtain ⟨_, o', ho', hall⟩ := mem_ready.1 hr
    obtain rfl : o = o' := by rw [hi] at ho'; exact Option.some.inj ho'
    have := hall e he hb
    rw [hon] at this
    refine h.at_ k x d this hk' hxd (fun j oj hjl hj => ?_)
    cases hcj : (conOf C oj.dst).contains d with
    | false => rfl
    | true =>
      have e := conNB_spec hcn hj hi hin hcj hd1
      subst e
      have h0 := (mem_ready.1 hr).1
      rw [getD_both h0] at hjl
      cases hjl
  · cases hk

theorem Laid.put1 {D0 : List Tmp} {listed : Array Bool} {a : Act} {w w' : World} (hpb : putB ops C = true) (hsk : skB md ops C = true) (hib : iniB md ops C D0 = true) (hcl : Closed md ops listed) (h : Laid ops S C D0 listed a w) {i : Nat} {o : Oper} (hi : ops[i]? = some o) (hir : i ∈ Region.ready md ops listed) (his : i < listed.size) {v : Value} (hp : Pres S (outOf C o.dst) w w') (hv : (dspec S o.dst).V v w') (hq : o.dst = none → (tlook S 9999).V undef w') (hsz : dstB ops a.tmps.size = true) :
    Laid ops S C D0 (listed.setIfInBounds i true) (a.put o.dst v) w' := by
  refine ⟨?_, fun d hd hnc => ?_, fun k x hk hx hd => ?_⟩
  rotate_left
  rotate_left
  · by_cases hod : o.dst = none
    · exact hq hod
    · have hki : i ≠ k := by
        rintro rfl
        rw [hi] at hx
        obtain rfl := Option.some.inj hx
        exact hod hd
      rw [getD_set_ne false hki] at hk
      exact hp 9999 (putB_spec hpb hi) _ (h.put k x hk hx hd)
  rotate_left
  · obtain ⟨u, hu⟩ := h.ini d hd (fun j oj hjl hj => hnc j oj (getD_set_true hjl) hj)
    refine ⟨u, hp d ?_ u hu⟩
    have h1 := hnc i o (by simp [his]) hi
    obtain ⟨hd1, hd2⟩ := iniB_spec hib hi hd
    cases h2 : (skOf C o.dst).contains d with
    | false =>
      have h1' : d ∉ conOf C o.dst := by simpa using h1
      have h2' : d ∉ skOf C o.dst := by simpa using h2
      have h3' : d ∉ o.dst.toList := by
        intro h3
        exact hd1 (by simpa using h3)
      simp only [outOf, List.contains_eq_mem, List.mem_append, h1', h2', h3', or_self, decide_false]
    | true =>
      exfalso
      obtain ⟨hun, o', ho', hall⟩ := mem_ready.1 hir
      obtain rfl : o = o' := Option.some.inj (hi.symm.trans ho')
      obtain ⟨e, he, hb, oe, hoe, hce⟩ := hd2 h2
      have := hnc e.on oe (getD_set_true (hall e he hb)) hoe
      rw [hce] at this
      cases this
  intro k x d hk hx hd hnc
  by_cases hod : o.dst = .some d
  · have hlt := dstB_spec hsz hi hod
    rw [hod] at hv ⊢
    simpa [Act.put, hlt, dspec] using hv
  · rw [put_get (fun e he hed => hod (by rw [he, hed]))]
    have hki : i ≠ k := by
      rintro rfl
      rw [hi] at hx
      obtain rfl := Option.some.inj hx
      exact hod hd
    rw [getD_set_ne false hki] at hk
    refine hp d ?_ _ (h.at_ k x d hk hx hd (fun j oj hjl hj => hnc j oj (getD_set_true hjl) hj))
    have h1 := hnc i o (by simp [his]) hi
    cases h2 : (skOf C o.dst).contains d with
    | false =>
      have h1' : d ∉ conOf C o.dst := by simpa using h1
      have h2' : d ∉ skOf C o.dst := by simpa using h2
      have h3' : d ∉ o.dst.toList := by
        intro h3
        exact hod (by simpa using h3)
      simp only [outOf, List.contains_eq_mem, List.mem_append, h1', h2', h3', or_self, decide_false]
    | true =>
      exfalso
      obtain ⟨hun, o', ho', hall⟩ := mem_ready.1 hir
      obtain rfl : o = o' := Option.some.inj (hi.symm.trans ho')
      rcases skB_spec hsk hi h2 with ⟨e, he, hb, oe, hoe, hce⟩ | hlater
      · have := hnc e.on oe (getD_set_true (hall e he hb)) hoe
        rw [hce] at this
        cases this
      · obtain ⟨e, he, hb, hon⟩ := hlater k x hx hd
        have := hcl k x hx hk e he hb
        rw [hon, getD_both hun] at this
        cases this

/-- What one operation leaves. -/
theorem dOp_step {n i : Nat} (hin : i < n) {K : Act → Prop} {a : Act} {w : World} {K' : Act → World → Prop} {Q : Exit → Act → World → Prop} {D0 : List Tmp} {listed : Array Bool} (hpb : putB ops C = true) (hlk : looksB md ops = true) (hcn : conNB ops C n = true) (hfb : facB md ops C D0 = true) (hsk : skB md ops C = true) (hib : iniB md ops C D0 = true) (hcl : Closed md ops listed) (hrf : ∀ w, R w w) (hw : R w0 w) (hls : listed.size = ops.size)
    (hl : Laid ops S C D0 listed a w) (hsz : dstB ops a.tmps.size = true) (hr : i ∈ Region.ready md ops listed)
    (h : ∀ o v w', ops[i]? = .some o → K (a.put o.dst v) → R w w' → Laid ops S C D0 (listed.setIfInBounds i true) (a.put o.dst v) w' → K' (a.put o.dst v) w') (hh : dOp P ops R w0 S C i K a) : wpOp P ops Q i K' a w := by
  unfold dOp at hh
  unfold wpOp
  obtain ⟨_, o, ho, _⟩ := mem_ready.1 hr
  have his : i < listed.size := by rw [hls]; exact (Array.getElem?_eq_some_iff.1 ho).1
  simp only [ho] at hh ⊢
  obtain ⟨hL, hK⟩ := hh
  unfold DLoc at hL
  unfold DAl at hK
  split
  · rename_i hwd
    rw [if_pos hwd] at hL
    simp only [hwd, if_true] at hK
    refine .inl (DUpon.wp (fun v w' ⟨h1, h2, h3, h4, h5⟩ => ?_) (hL.2 w hw (hl.facts hlk hcn hfb ho hin hr)))
    exact h o v w' ho (hK v h1) h3 (hl.put1 hpb hsk hib hcl ho hr his h4 h2 h5 hsz)
  · rename_i hwd
    rw [if_neg hwd] at hL
    simp only [hwd] at hK
    exact h o undef w ho (hK undef rfl) (hrf w) (hl.put1 hpb hsk hib hcl ho hr his (fun _ _ _ h => h) (hL.2.1 w hw) (fun e => absurd e hL.2.2) hsz)

theorem wpAny_of_dag {D0 : List Tmp} {n g : Nat} {Q : Exit → Act → World → Prop} {L : Array Bool → Act → Prop} (hpb : putB ops C = true) (hlk : looksB md ops = true) (hcn : conNB ops C n = true) (hfb : facB md ops C D0 = true) (hsk : skB md ops C = true) (hib : iniB md ops C D0 = true) (hrf : ∀ w, R w w) (htr : ∀ a b c, R a b → R b c → R a c)
    (hL : ∀ listed a w, L listed a → R w0 w → Laid ops S C D0 listed a w → wpAny P md ops Q g listed a w) :
    ∀ (fuel : Nat) (listed : Array Bool) (a : Act) (w : World), R w0 w → listed.size = ops.size → Closed md ops listed → Laid ops S C D0 listed a w → dstB ops a.tmps.size = true → wpAnyD P md ops R w0 S C n L fuel listed a → wpAny P md ops Q (fuel + g) listed a w
  | 0, listed, a, w, hw, _, _, hl, _, h => by rw [Nat.zero_add]; exact hL _ _ _ h hw hl
  | fuel + 1, listed, a, w, hw, hls, hcl, hl, hsz, h => by
    rw [show fuel + 1 + g = (fuel + g) + 1 by omega]
    exact ⟨fun h0 => absurd h0 h.1, fun i hi => dOp_step (h.2 i hi).1 hpb hlk hcn hfb hsk hib hcl hrf hw hls hl hsz hi (fun o v w' ho hK hr hl' => wpAny_of_dag hpb hlk hcn hfb hsk hib hrf htr hL fuel _ _ w' (htr _ _ _ hw hr) (by simpa using hls) (hcl.set hi) hl' (by rw [put_size]; exact hsz) hK) (h.2 i hi).2⟩

theorem wpAnyD_lex {n g : Nat} {Lq : Act → Prop} (hsel : Region.noSelect ops = true) (hn : n ≤ ops.size) (hwt : ∀ i, i < n → ∀ listed, HeadInv md ops n listed → listed.getD i true = false → ∀ t, n ≤ t → t ∉ Region.ready md ops listed) :
    ∀ (l : List Oper) (k : Nat) (listed : Array Bool) (a : Act), (∀ j, j < l.length → l[j]? = ops[k + j]?) → k + l.length = n → HeadInv md ops n listed → (∀ i, i < k → listed.getD i false = true) →
    Region.lexHead md ops g l.length k listed = true → wpD P ops R w0 S C Lq l k a →
    wpAnyD P md ops R w0 S C n (fun listed' a' => Region.seqB md ops g n listed' = true ∧ (∀ i, i < n → listed'.getD i false = true) ∧ Lq a') l.length listed a
  | [], k, listed, a, _, hk, _, hls, hB, h => by
    have : k = n := by simpa using hk
    subst this
    exact ⟨by simpa [Region.lexHead] using hB, hls, h⟩
  | o :: l, k, listed, a, hl, hk, inv, hls, hB, h => by
    have h0 : ops[k]? = .some o := by simpa using (hl 0 (by simp)).symm
    have hks : k < ops.size := (Array.getElem?_eq_some_iff.1 h0).1
    simp only [List.length_cons, Region.lexHead, Bool.and_eq_true] at hB
    obtain ⟨⟨hr, hf⟩, hB'⟩ := hB
    have hkn : k < n := by simp only [List.length_cons] at hk; omega
    have hr' : k ∈ Region.ready md ops listed := by simpa using hr
    refine wpAnyD_first h0 (Region.noSelect_spec hsel) (hwt k hkn) (fun listed' a' hL => seqB_ready hL.1) l.length listed a inv (Region.free_spec h0 hf) hr' h.1 fun v hv => ?_
    refine wpAnyD_lex hsel hn hwt l (k + 1) _ _ (fun j hj => by have := hl (j + 1) (by simp; omega); simpa [Nat.add_assoc, Nat.add_comm 1 j] using this) (by simp only [List.length_cons] at hk; omega) (inv.set hr' hkn) (fun i hi => ?_) hB' (h.2 v hv)
    by_cases hik : k = i
    · subst hik; simp [inv.size, hks]
    · rw [getD_set_ne false hik]; exact hls i (by omega)

/-- What is known at the end of all that the first n operations have laid. -/
def Ends (ops : Array Oper) (S : List (Tmp × TSpec)) (C : List (Tmp × List Tmp × List Tmp)) (n : Nat) (a : Act) (w : World) : Prop := ∀ d, ((ops.toList.take n).any (fun x => x.dst == some d) && ops.all (fun x => !(conOf C x.dst).contains d)) = true → (tlook S d).V ((a.tmps[d]?).getD undef) w
theorem Laid.ends {D0 : List Tmp} {n : Nat} {listed : Array Bool} {a : Act} {w : World} (h : Laid ops S C D0 listed a w) (hls : ∀ i, i < n → listed.getD i false = true) : Ends ops S C n a w := by
  intro d hd
  simp only [Bool.and_eq_true, List.any_eq_true, beq_iff_eq] at hd
  obtain ⟨⟨x, hx, hxd⟩, hall⟩ := hd
  obtain ⟨k, hk⟩ := List.mem_iff_getElem?.1 hx
  rw [List.getElem?_take] at hk
  split at hk
  · rename_i hki
    refine h.at_ k x d (hls k hki) (by simpa using hk) hxd (fun j oj _ hj => ?_)
    have := Array.all_eq_true_iff_forall_mem.1 hall oj (Array.mem_of_getElem? hj)
    simpa using this
  · cases hk

/-- What a store has left. -/
def PutE (ops : Array Oper) (S : List (Tmp × TSpec)) (n : Nat) (w : World) : Prop := (ops.toList.take n).any (fun x => x.dst == none) = true → (tlook S 9999).V undef w
theorem Laid.putE {D0 : List Tmp} {n : Nat} {listed : Array Bool} {a : Act} {w : World} (h : Laid ops S C D0 listed a w) (hls : ∀ i, i < n → listed.getD i false = true) : PutE ops S n w := by
  intro hd
  simp only [List.any_eq_true, beq_iff_eq] at hd
  obtain ⟨x, hx, hxd⟩ := hd
  obtain ⟨k, hk⟩ := List.mem_iff_getElem?.1 hx
  rw [List.getElem?_take] at hk
  split at hk
  · rename_i hki
    exact h.put k x (hls k hki) (by simpa using hk) hxd
  · cases hk

/-- What is known at the start. -/
def Ini (S : List (Tmp × TSpec)) (w : World) : List Tmp → Prop
  | [] => True
  | d :: r => (∃ u, (tlook S d).V u w) ∧ Ini S w r
theorem Ini.look {S : List (Tmp × TSpec)} {w : World} : ∀ {D0 : List Tmp}, Ini S w D0 → ∀ d, D0.contains d = true → ∃ u, (tlook S d).V u w
  | [], _, d, hd => by simp at hd
  | e :: r, h, d, hd => by
    rw [List.contains_cons, Bool.or_eq_true] at hd
    rcases hd with hd | hd
    · have e1 : d = e := by simpa using hd
      subst e1
      exact h.1
    · exact h.2.look d hd
def dagXB (md : Region.Mode) (ops : Array Oper) (C : List (Tmp × List Tmp × List Tmp)) (D0 : List Tmp) (n : Nat) : Bool := Region.noSelect ops && (decide (n = ops.size) || (decide (n < ops.size) && Region.sinkB md ops n && Region.chainB md ops n)) && Region.lexHead md ops (ops.size - n) n 0 (Array.replicate ops.size false) && looksB md ops && conNB ops C n && skB md ops C && facB md ops C D0 && iniB md ops C D0 && putB ops C
theorem wp_region_dagX {id : Nat} {Q : Exit → Act → World → Prop} {a : Act} {w : World} {l : List Oper} (n : Nat) (S : List (Tmp × TSpec)) (C : List (Tmp × List Tmp × List Tmp)) (D0 : List Tmp) (R : World → World → Prop) (hrf : ∀ w, R w w) (htr : ∀ a b c, R a b → R b c → R a c) (hdr : R w w.drew)
    (hm : P.follows .mixedOrders = true) (hini : Ini S w.drew D0) (hB : dagXB .any l.toArray C D0 n = true) (hsz : dstB l.toArray a.tmps.size = true)
    (h : wpD P l.toArray R w S C (fun a' => ∀ w', R w w' → Ends l.toArray S C n a' w' → PutE l.toArray S n w' → wpList P l.toArray Q (l.drop n) a' w') (l.take n) 0 a) : (Code.region id l.toArray true).wp P Q a w := by
  unfold dagXB at hB
  rw [Bool.and_eq_true, Bool.and_eq_true, Bool.and_eq_true] at hB
  obtain ⟨⟨⟨hB, hfb⟩, hib⟩, hpb⟩ := hB
  simp only [Bool.and_eq_true, Bool.or_eq_true, decide_eq_true_eq] at hB
  obtain ⟨⟨⟨⟨⟨hsel, hcase⟩, hlex⟩, hlk⟩, hcn⟩, hsk⟩ := hB
  have hn' : n ≤ l.toArray.size := by rcases hcase with h | h <;> omega
  have hn : n ≤ l.length := by simpa using hn'
  have htl : (l.take n).length = n := by simp; omega
  have hdl : (l.drop n).length = l.toArray.size - n := by simp
  have inv0 : HeadInv .any l.toArray n (Array.replicate l.toArray.size false) :=
    ⟨by simp, fun j oj _ hl => (by rw [getD_replicate_false] at hl; cases hl), fun t _ ht => getD_in (by simpa using ht) (getD_replicate_false _ _)⟩
  have hwt : ∀ i, i < n → ∀ listed, HeadInv .any l.toArray n listed → listed.getD i true = false → ∀ t, n ≤ t → t ∉ Region.ready .any l.toArray listed := by
    intro i hi listed inv hun t ht
    rcases hcase with hc | ⟨⟨hc1, hc2⟩, hc3⟩
    · intro hr
      obtain ⟨_, o, ho, _⟩ := mem_ready.1 hr
      have := (Array.getElem?_eq_some_iff.1 ho).1
      omega
    · exact tail_waits hc2 hc3 hc1 inv _ i rfl hi hun t ht
  have H := wpAnyD_lex (md := .any) (g := l.toArray.size - n) hsel hn' hwt (l.take n) 0 _ a (fun j hj => by
    have hj' : j < n := by rw [htl] at hj; exact hj
    simp [hj']) (by simpa using htl) inv0 (fun i hi => by omega) (by rw [htl]; exact hlex) h
  refine wp_region_any hm ?_
  have := wpAny_of_dag (Q := Q) (g := l.toArray.size - n) hpb hlk hcn hfb hsk hib hrf htr (fun listed a' w' hL hw' hl' => by
    have := wpAny_of_seq (md := .any) (Q' := Q) (l.drop n) n listed a' w' (fun j => by simp [List.getElem?_drop]) (by rw [hdl]; exact hL.1) (hL.2.2 w' hw' (hl'.ends hL.2.1) (hl'.putE hL.2.1))
    rwa [hdl] at this) _ _ _ w.drew hdr (by simp) (fun j oj _ hl => by rw [getD_replicate_false] at hl; cases hl) ⟨fun i o d hi => (by rw [getD_replicate_false] at hi; cases hi), fun d hd _ => hini.look d hd, fun i o hi => (by rw [getD_replicate_false] at hi; cases hi)⟩ hsz H
  rw [htl, show n + (l.toArray.size - n) = l.toArray.size by omega] at this
  exact this

theorem wpD_fin {Fin Fin' : Act → Prop} (hf : ∀ a, Fin a → Fin' a) : ∀ (l : List Oper) (k : Nat) (a : Act), wpD P ops R w0 S C Fin l k a → wpD P ops R w0 S C Fin' l k a
  | [], _, _, h => hf _ h
  | _ :: l, _, _, h => ⟨h.1, fun v hv => wpD_fin hf l _ _ (h.2 v hv)⟩

/-! The steps of a walk, behind a wall (as WpQ). E: what all words stand; R: what the class is closed under. -/
structure WpD (P : Program) (ops : Array Oper) (E R : World → World → Prop) (w0 : World) (S : List (Tmp × TSpec)) (C : List (Tmp × List Tmp × List Tmp)) (Fin : Act → Prop) (l : List Oper) (k : Nat) (a : Act) : Prop where
  out : Stab E S → (∀ a b, E a b → R a b) → wpD P ops R w0 S C Fin l k a
variable {E : World → World → Prop} {Fin : Act → Prop} {a : Act} {o : Oper} {rest : List Oper} {k : Nat}
theorem wpD_nil (h : Fin a) : WpD P ops E R w0 S C Fin [] k a := ⟨fun _ _ => h⟩
theorem dst_val {dst : Option Tmp} {c : Value} (hs : dspec S dst = .val c) : dst ≠ none := by
  rintro rfl
  have h : (TSpec.any).A = (TSpec.val c).A := congrArg TSpec.A hs
  have h1 : ∀ v : Value, v = c := fun v => by
    have : (TSpec.val c).A v := by rw [← h]; trivial
    exact this
  have := (h1 (.bool true)).trans (h1 (.bool false)).symm
  simp at this
theorem wpD_skip (hs : (dspec S o.dst).A undef ∧ ∀ w, (dspec S o.dst).V undef w) (hn : o.dst ≠ none) (hw : Region.wanted o (yielded ops a.tmps) = false) (h : WpD P ops E R w0 S C Fin rest (k + 1) (a.put o.dst undef)) : WpD P ops E R w0 S C Fin (o :: rest) k a := by
  refine ⟨fun hsb hER => ⟨?_, fun v hv => ?_⟩⟩
  · unfold DLoc; rw [if_neg (by simp [hw])]; exact ⟨hs.1, fun w _ => hs.2 w, hn⟩
  · unfold DAl at hv; rw [if_neg (by simp [hw])] at hv; subst hv; exact h.out hsb hER
theorem wpD_skipv (hs : dspec S o.dst = .val undef) (hw : Region.wanted o (yielded ops a.tmps) = false) (h : WpD P ops E R w0 S C Fin rest (k + 1) (a.put o.dst undef)) : WpD P ops E R w0 S C Fin (o :: rest) k a :=
  wpD_skip (by rw [hs]; exact ⟨rfl, fun _ => trivial⟩) (dst_val hs) hw h
/-- It yields this very value, in the world that it got. -/
theorem wpD_val {c : Value} (hs : dspec S o.dst = .val c) (hrf : ∀ w, R w w) (hw : Region.wanted o (yielded ops a.tmps) = true) (h : ∀ w, R w0 w → Facts ops S C k o a w → (execOp a.eval o).run P w = .ok (.value c) w) (hk : WpD P ops E R w0 S C Fin rest (k + 1) (a.put o.dst c)) :
    WpD P ops E R w0 S C Fin (o :: rest) k a := by
  refine ⟨fun hsb hER => ⟨?_, fun v hv => ?_⟩⟩
  · unfold DLoc; rw [if_pos hw, hs]
    exact ⟨⟨c, rfl⟩, fun w hw hf => by rw [h w hw hf]; exact ⟨rfl, trivial, hrf w, fun _ _ _ h => h, fun e => absurd e (dst_val hs)⟩⟩
  · unfold DAl at hv; rw [if_pos hw, hs] at hv
    obtain rfl : v = c := hv
    exact hk.out hsb hER
/-- It yields this very value, whatever it makes besides. -/
theorem wpD_con {c : Value} (hs : dspec S o.dst = .val c) (hw : Region.wanted o (yielded ops a.tmps) = true) (h : ∀ w, R w0 w → Facts ops S C k o a w → DUpon P (CPost E w c) ((execOp a.eval o).run P w)) (hk : WpD P ops E R w0 S C Fin rest (k + 1) (a.put o.dst c)) :
    WpD P ops E R w0 S C Fin (o :: rest) k a := by
  refine ⟨fun hsb hER => ⟨?_, fun v hv => ?_⟩⟩
  · unfold DLoc; rw [if_pos hw, hs]
    exact ⟨⟨c, rfl⟩, fun w hw hf => (h w hw hf).mono fun v w' hv => ⟨hv.1, trivial, hER _ _ hv.2, hsb.pres hv.2, fun e => absurd e (dst_val hs)⟩⟩
  · unfold DAl at hv; rw [if_pos hw, hs] at hv
    obtain rfl : v = c := hv
    exact hk.out hsb hER
/-- It yields some value, of which this much is known. -/
theorem wpD_made {A : Value → Prop} {V : Value → World → Prop} (t : Tmp) (ht : o.dst = some t) (hst : tlook S t = ⟨A, V⟩) (hA : ∃ v, A v) (hw : Region.wanted o (yielded ops a.tmps) = true) (h : ∀ w, R w0 w → Facts ops S C k o a w → DUpon P (MPost E w A V) ((execOp a.eval o).run P w))
    (hk : ∀ v, A v → WpD P ops E R w0 S C Fin rest (k + 1) (a.put o.dst v)) : WpD P ops E R w0 S C Fin (o :: rest) k a := by
  have hs : dspec S o.dst = ⟨A, V⟩ := by rw [ht]; exact hst
  refine ⟨fun hsb hER => ⟨?_, fun v hv => ?_⟩⟩
  · unfold DLoc; rw [if_pos hw, hs]
    exact ⟨hA, fun w hw hf => (h w hw hf).mono fun v w' ⟨h1, h2, h3⟩ => ⟨h1, h2, hER _ _ h3, hsb.pres h3, fun e => absurd (ht.symm.trans e) (by simp)⟩⟩
  · unfold DAl at hv; rw [if_pos hw, hs] at hv
    exact (hk v hv).out hsb hER
/-- It yields some value, and may write blocks that were made on the way: what it uses up is lost. -/
theorem wpD_used {A : Value → Prop} {V : Value → World → Prop} (t : Tmp) (ht : o.dst = some t) (hst : tlook S t = ⟨A, V⟩) (hA : ∃ v, A v) (hw : Region.wanted o (yielded ops a.tmps) = true)
    (h : ∀ w, R w0 w → Facts ops S C k o a w → DUpon P (fun v w' => A v ∧ V v w' ∧ R w w' ∧ PresL (outOf C (some t)) w w' S) ((execOp a.eval o).run P w))
    (hk : ∀ v, A v → WpD P ops E R w0 S C Fin rest (k + 1) (a.put o.dst v)) : WpD P ops E R w0 S C Fin (o :: rest) k a := by
  have hs : dspec S o.dst = ⟨A, V⟩ := by rw [ht]; exact hst
  refine ⟨fun hsb hER => ⟨?_, fun v hv => ?_⟩⟩
  · unfold DLoc; rw [if_pos hw, hs]
    exact ⟨hA, fun w hw hf => (h w hw hf).mono fun v w' ⟨h1, h2, h3, h4⟩ => ⟨h1, h2, h3, by rw [ht]; exact h4.pres, fun e => absurd (ht.symm.trans e) (by simp)⟩⟩
  · unfold DAl at hv; rw [if_pos hw, hs] at hv
    exact (hk v hv).out hsb hER
/-- A store: what it uses up is lost. -/
theorem wpD_put (hs : o.dst = none) (hw : Region.wanted o (yielded ops a.tmps) = true) (h : ∀ w, R w0 w → Facts ops S C k o a w → DUpon P (fun _ w' => R w w' ∧ (tlook S 9999).V undef w' ∧ PresL (outOf C none) w w' S) ((execOp a.eval o).run P w)) (hk : WpD P ops E R w0 S C Fin rest (k + 1) a) : WpD P ops E R w0 S C Fin (o :: rest) k a := by
  refine ⟨fun hsb hER => ⟨?_, fun v _ => ?_⟩⟩
  · unfold DLoc; rw [if_pos hw, hs]
    exact ⟨⟨undef, trivial⟩, fun w hw hf => (h w hw hf).mono fun _ _ hv => ⟨trivial, trivial, hv.1, hv.2.2.pres, fun _ => hv.2.1⟩⟩
  · rw [hs]; exact hk.out hsb hER
end
section
variable {P : Program}
/-- Blocks that are made on the way are written, and those of G. -/
theorem wp_region_dagG {id : Nat} {Q : Exit → Act → World → Prop} {a : Act} {w : World} {l : List Oper} (G : Nat → Prop) (n : Nat) (C : List (Tmp × List Tmp × List Tmp)) (D0 : List Tmp) (S : List (Tmp × TSpec)) (hst : Stab (fun a b => Ext a b) S) (hini : Ini S w.drew D0) (hm : P.follows .mixedOrders = true) (hB : dagXB .any l.toArray C D0 n = true) (hsz : dstB l.toArray a.tmps.size = true)
    (h : WpD P l.toArray (fun a b => Ext a b) (fun a b => Kp (fun i => w.heap.size ≤ i ∨ G i) a b) w S C (fun a' => ∀ w', Kp (fun i => w.heap.size ≤ i ∨ G i) w w' → Ends l.toArray S C n a' w' → wpList P l.toArray Q (l.drop n) a' w') (l.take n) 0 a) : (Code.region id l.toArray true).wp P Q a w :=
  wp_region_dagX n S C D0 (fun a b => Kp (fun i => w.heap.size ≤ i ∨ G i) a b) (fun w => Kp.refl _ w) (fun _ _ _ h k => h.trans k) (Kp.refl _ w).drew hm hini hB hsz (wpD_fin (fun _ h w' h1 h2 _ => h w' h1 h2) (l.take n) 0 a (h.out hst (fun _ _ h => h.kp)))
/-- So, with a store among them. -/
theorem wp_region_dagP {id : Nat} {Q : Exit → Act → World → Prop} {a : Act} {w : World} {l : List Oper} (G : Nat → Prop) (n : Nat) (C : List (Tmp × List Tmp × List Tmp)) (D0 : List Tmp) (S : List (Tmp × TSpec)) (hst : Stab (fun a b => Ext a b) S) (hini : Ini S w.drew D0) (hm : P.follows .mixedOrders = true) (hB : dagXB .any l.toArray C D0 n = true) (hsz : dstB l.toArray a.tmps.size = true)
    (h : WpD P l.toArray (fun a b => Ext a b) (fun a b => Kp (fun i => w.heap.size ≤ i ∨ G i) a b) w S C (fun a' => ∀ w', Kp (fun i => w.heap.size ≤ i ∨ G i) w w' → Ends l.toArray S C n a' w' → PutE l.toArray S n w' → wpList P l.toArray Q (l.drop n) a' w') (l.take n) 0 a) : (Code.region id l.toArray true).wp P Q a w :=
  wp_region_dagX n S C D0 (fun a b => Kp (fun i => w.heap.size ≤ i ∨ G i) a b) (fun w => Kp.refl _ w) (fun _ _ _ h k => h.trans k) (Kp.refl _ w).drew hm hini hB hsz (h.out hst (fun _ _ h => h.kp))
end
end Av.X
