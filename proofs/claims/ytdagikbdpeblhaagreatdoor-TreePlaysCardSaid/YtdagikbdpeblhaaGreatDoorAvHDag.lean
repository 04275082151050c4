/- Regions that draw their order, whose operations may make memory: one walk in the order of the text; each operation leans on what it looks at alone. No program. -/
import Derived.Test.YtdagikbdpeblhaaGreatDoorAvG3
import Derived.StillTail
namespace Av
set_option maxRecDepth 100000
open Go Go.RowKit

/-- What is known of a temporary: of its value alone, and of its value in the world (and in every later one). -/
structure TSpec where
  A : Value → Prop
  V : Value → World → Prop
def TSpec.val (c : Value) : TSpec := ⟨fun v => v = c, fun _ _ => True⟩
def TSpec.any : TSpec := ⟨fun _ => True, fun _ _ => True⟩
def tlook : List (Tmp × TSpec) → Tmp → TSpec
  | [], _ => .any
  | (t, s) :: rest, d => match Nat.beq t d with
    | true => s
    | false => tlook rest d
def dspec (S : List (Tmp × TSpec)) : Option Tmp → TSpec
  | none => .any
  | some d => tlook S d
/-- Each word on a value stands in every later world. -/
def Stab (R : World → World → Prop) : List (Tmp × TSpec) → Prop
  | [] => True
  | (_, s) :: rest => (∀ v w w', R w w' → s.V v w → s.V v w') ∧ Stab R rest
theorem Stab.look {R : World → World → Prop} : ∀ {S : List (Tmp × TSpec)}, Stab R S → ∀ d v w w', R w w' → (tlook S d).V v w → (tlook S d).V v w'
  | [], _, _, _, _, _, _, _ => trivial
  | (t, s) :: rest, h, d, v, w, w', hr, hv => by
    unfold tlook at *
    cases hb : Nat.beq t d with
    | true => rw [hb] at hv; exact h.1 v w w' hr hv
    | false => rw [hb] at hv; exact Stab.look h.2 d v w w' hr hv

/-- Which temporaries an operation uses up (by the temporary that it lays). -/
def conOf (C : List (Tmp × List Tmp × List Tmp)) : Option Tmp → List Tmp
  | none => []
  | some d => (C.find? fun p => Nat.beq p.1 d).elim [] (·.2.1)
/-- Which temporaries are used up before it, or laid behind it. -/
def skOf (C : List (Tmp × List Tmp × List Tmp)) : Option Tmp → List Tmp
  | none => []
  | some d => (C.find? fun p => Nat.beq p.1 d).elim [] (·.2.2)
/-- Of which an operation owes nothing. -/
def outOf (C : List (Tmp × List Tmp × List Tmp)) (dst : Option Tmp) : List Tmp := conOf C dst ++ (skOf C dst ++ dst.toList)
/-- What is known of the values stands, but of those in c. -/
def Pres (S : List (Tmp × TSpec)) (c : List Tmp) (w w' : World) : Prop := ∀ d, c.contains d = false → ∀ u, (tlook S d).V u w → (tlook S d).V u w'
theorem Stab.pres {R : World → World → Prop} {S : List (Tmp × TSpec)} (h : Stab R S) {c : List Tmp} {w w' : World} (hr : R w w') : Pres S c w w' := fun d _ u hu => h.look d u w w' hr hu
def PresL (c : List Tmp) (w w' : World) : List (Tmp × TSpec) → Prop
  | [] => True
  | (t, s) :: rest => (c.contains t = true ∨ ∀ u, s.V u w → s.V u w') ∧ PresL c w w' rest
theorem PresL.nil {c : List Tmp} {w w' : World} : PresL c w w' [] := trivial
theorem PresL.val {c : List Tmp} {w w' : World} {r : List (Tmp × TSpec)} {t : Tmp} {x : Value} (h : PresL c w w' r) : PresL c w w' ((t, .val x) :: r) := ⟨.inr fun _ _ => trivial, h⟩
theorem PresL.out {c : List Tmp} {w w' : World} {r : List (Tmp × TSpec)} {t : Tmp} {s : TSpec} (ht : c.contains t = true) (h : PresL c w w' r) : PresL c w w' ((t, s) :: r) := ⟨.inl ht, h⟩
theorem PresL.keep {c : List Tmp} {w w' : World} {r : List (Tmp × TSpec)} {t : Tmp} {s : TSpec} (hk : ∀ u, s.V u w → s.V u w') (h : PresL c w w' r) : PresL c w w' ((t, s) :: r) := ⟨.inr hk, h⟩
theorem PresL.pres {c : List Tmp} {w w' : World} : ∀ {S : List (Tmp × TSpec)}, PresL c w w' S → Pres S c w w'
  | [], _, _, _, _, _ => trivial
  | (t, s) :: rest, h, d, hd, u, hu => by
    unfold tlook at *
    cases hb : Nat.beq t d with
    | true =>
      rw [hb] at hu
      obtain rfl := Nat.eq_of_beq_eq_true hb
      exact (h.1.resolve_left (by rw [hd]; decide)) u hu
    | false => rw [hb] at hu; exact PresL.pres h.2 d hd u hu

/-- How a call ends. -/
def DEnd (K : Value → World → Prop) (e : Ending) (w : World) : Prop := ∃ v, e = .returned v ∧ K v w
/-- This very value. -/
def CPost (R : World → World → Prop) (w : World) (c : Value) (v : Value) (w' : World) : Prop := v = c ∧ R w w'
/-- Some value, of which this much is known. -/
def MPost (R : World → World → Prop) (w : World) (A : Value → Prop) (V : Value → World → Prop) (v : Value) (w' : World) : Prop := A v ∧ V v w' ∧ R w w'
/-- What is asked of an operation's run. -/
def DUpon (P : Program) (K : Value → World → Prop) : Result Next → Prop
  | .ok (.value v) w' => K v w'
  | .ok .skip w' => K undef w'
  | .ok (.enter f args) w' => Calls P f args w' (DEnd K)
  | .ok (.row row args) w' => Rows P row args w' K
  | _ => False
theorem DEnd.con {R : World → World → Prop} {w w' : World} {c : Value} (h : R w w') : DEnd (CPost R w c) (.returned c) w' := ⟨c, rfl, rfl, h⟩
theorem DEnd.made {R : World → World → Prop} {w w' : World} {A : Value → Prop} {V : Value → World → Prop} {v : Value} (hA : A v) (hV : V v w') (h : R w w') : DEnd (MPost R w A V) (.returned v) w' := ⟨v, rfl, hA, hV, h⟩
theorem mPost {R : World → World → Prop} {w w' : World} {A : Value → Prop} {V : Value → World → Prop} {v : Value} (hA : A v) (hV : V v w') (h : R w w') : MPost R w A V v w' := ⟨hA, hV, h⟩
theorem dUpon_enter {P : Program} {K : Value → World → Prop} {f : FuncId} {args : Array Value} {w : World} : DUpon P K (.ok (.enter f args) w) = Calls P f args w (DEnd K) := rfl
theorem dUpon_value {P : Program} {K : Value → World → Prop} {v : Value} {w : World} : DUpon P K (.ok (.value v) w) = K v w := rfl
theorem dUpon_skip {P : Program} {K : Value → World → Prop} {w : World} : DUpon P K (.ok .skip w) = K undef w := rfl
theorem DUpon.wp {P : Program} {o : Oper} {a : Act} {w : World} {K : Value → World → Prop} {K' : Act → World → Prop} {Q : Exit → Act → World → Prop} (h : ∀ v w', K v w' → K' (a.put o.dst v) w') (hh : DUpon P K ((execOp a.eval o).run P w)) : o.wp P a w K' Q := by
  unfold Oper.wp
  generalize (execOp a.eval o).run P w = r at *
  cases r with
  | ok n w' =>
    cases n <;> simp only [DUpon] at hh <;> simp only [Oper.upon]
    case value u => exact h _ _ hh
    case skip => exact h _ _ hh
    case enter f args =>
      refine hh.mono fun e w'' ⟨v, he, hk⟩ => ?_
      subst he
      exact h _ _ hk
    case row row args => exact Rows.mono hh fun v w'' hk => h _ _ hk
  | halt x w' => simp only [DUpon] at hh
theorem DUpon.mono {P : Program} {K K' : Value → World → Prop} {r : Result Next} (h : ∀ v w, K v w → K' v w) (hh : DUpon P K r) : DUpon P K' r := by
  cases r with
  | ok n w' =>
    cases n <;> simp only [DUpon] at hh ⊢
    case value u => exact h _ _ hh
    case skip => exact h _ _ hh
    case enter f args => exact hh.mono fun e w'' ⟨v, he, hk⟩ => ⟨v, he, h _ _ hk⟩
    case row row args => exact Rows.mono hh fun v w'' hk => h _ _ hk
  | halt x w' => simp only [DUpon] at hh

section
variable {P : Program} {ops : Array Oper} {md : Region.Mode} {R : World → World → Prop} {w0 : World} {S : List (Tmp × TSpec)} {C : List (Tmp × List Tmp × List Tmp)}

/-- Does operation k look at temporary d, and does an earlier operation lay it? -/
def lookB (ops : Array Oper) (k : Nat) (o : Oper) (d : Tmp) : Bool := (o.looksAt ops).contains d && (ops.toList.take k).any (fun x => x.dst == some d)
/-- What is known of all that an operation looks at. -/
def Facts (ops : Array Oper) (S : List (Tmp × TSpec)) (k : Nat) (o : Oper) (a : Act) (w : World) : Prop := ∀ d, lookB ops k o d = true → (tlook S d).V ((a.tmps[d]?).getD undef) w
/-- The operation by itself: whatever the world (of the class), it yields what is said of it, if what it looks at is as is said of that. -/
def DLoc (P : Program) (ops : Array Oper) (R : World → World → Prop) (w0 : World) (S : List (Tmp × TSpec)) (C : List (Tmp × List Tmp × List Tmp)) (k : Nat) (o : Oper) (a : Act) : Prop :=
  if Region.wanted o (yielded ops a.tmps) then (∃ v, (dspec S o.dst).A v) ∧ ∀ w, R w0 w → Facts ops S k o a w → DUpon P (fun v w' => (dspec S o.dst).A v ∧ (dspec S o.dst).V v w' ∧ R w w' ∧ Pres S (outOf C o.dst) w w') ((execOp a.eval o).run P w)
  else (dspec S o.dst).A undef ∧ ∀ w, R w0 w → (dspec S o.dst).V undef w
def DAl (ops : Array Oper) (S : List (Tmp × TSpec)) (o : Oper) (a : Act) (v : Value) : Prop :=
  if Region.wanted o (yielded ops a.tmps) then (dspec S o.dst).A v else v = undef
def dOp (P : Program) (ops : Array Oper) (R : World → World → Prop) (w0 : World) (S : List (Tmp × TSpec)) (C : List (Tmp × List Tmp × List Tmp)) (i : Nat) (K : Act → Prop) (a : Act) : Prop :=
  match ops[i]? with
  | none => K a
  | some o => DLoc P ops R w0 S C i o a ∧ ∀ v, DAl ops S o a v → K (a.put o.dst v)
theorem dOp_mono {i : Nat} {a : Act} {K K' : Act → Prop} (h : ∀ a, K a → K' a) (hh : dOp P ops R w0 S C i K a) : dOp P ops R w0 S C i K' a := by
  unfold dOp at *
  split
  · exact h _ (by simpa [*] using hh)
  · rename_i o ho
    simp only [ho] at hh
    exact ⟨hh.1, fun v hv => h _ (hh.2 v hv)⟩
theorem DLoc.some {k : Nat} {o : Oper} {a : Act} (h : DLoc P ops R w0 S C k o a) : ∃ v, DAl ops S o a v := by
  unfold DLoc at h
  unfold DAl
  split
  · rename_i hw; rw [if_pos hw] at h; exact h.1
  · exact ⟨_, rfl⟩
theorem put_get {a : Act} {dst : Option Tmp} {v : Value} {d : Tmp} (h : ∀ e, dst = .some e → e ≠ d) : ((a.put dst v).tmps[d]?) = a.tmps[d]? := by
  cases dst with
  | none => rfl
  | some e => simp [Act.put, Array.getElem?_setIfInBounds_ne (h e rfl)]
theorem DLoc.put {k : Nat} {o : Oper} {a : Act} {dst : Option Tmp} {u : Value} (hs : ∀ cs b, o.op ≠ .select cs b) (h : ∀ d, dst = .some d → d ∉ o.looksAt ops) :
    DLoc P ops R w0 S C k o (a.put dst u) ↔ DLoc P ops R w0 S C k o a := by
  have hF : ∀ w, Facts ops S k o (a.put dst u) w ↔ Facts ops S k o a w := by
    intro w
    unfold Facts
    refine forall_congr' fun d => ⟨fun hh hd => ?_, fun hh hd => ?_⟩
    all_goals
      have hd2 : d ∈ o.looksAt ops := by simp only [lookB, Bool.and_eq_true] at hd; simpa using hd.1
      have e := put_get (a := a) (v := u) (dst := dst) (d := d) (fun e he hed => h e he (hed ▸ hd2))
    · rw [e] at hh; exact hh hd
    · rw [e]; exact hh hd
  unfold DLoc
  rw [wanted_put o a dst u h, execOp_put o hs a dst u h]
  split
  · exact ⟨fun ⟨x, y⟩ => ⟨x, fun w hw hf => y w hw ((hF w).2 hf)⟩, fun ⟨x, y⟩ => ⟨x, fun w hw hf => y w hw ((hF w).1 hf)⟩⟩
  · exact Iff.rfl
theorem DAl.put {o : Oper} {a : Act} {dst : Option Tmp} {u v : Value} (h : ∀ d, dst = .some d → d ∉ o.looksAt ops) : DAl ops S o (a.put dst u) v ↔ DAl ops S o a v := by
  unfold DAl
  rw [wanted_put o a dst u h]

theorem dOp_put {i j : Nat} {oi oj : Oper} (hj : ops[j]? = .some oj) (hap : oi.apart ops oj = true)
    (hsi : ∀ cs b, oi.op ≠ .select cs b) (hsj : ∀ cs b, oj.op ≠ .select cs b) {K : Act → Prop} {a : Act}
    (hL : DLoc P ops R w0 S C i oi a) (h : ∀ v, DAl ops S oi a v → dOp P ops R w0 S C j K (a.put oi.dst v)) :
    dOp P ops R w0 S C j (fun a' => DLoc P ops R w0 S C i oi a' ∧ ∀ v, DAl ops S oi a' v → K (a'.put oi.dst v)) a := by
  obtain ⟨h1, h2, h3⟩ := Oper.apart_spec hap
  unfold dOp at *
  simp only [hj] at *
  obtain ⟨v0, hv0⟩ := hL.some
  refine ⟨(DLoc.put hsj h1).1 (h v0 hv0).1, fun u hu => ⟨(DLoc.put hsi h3).2 hL, fun v hv => ?_⟩⟩
  rw [← Act.put_comm a v u h2]
  exact (h v ((DAl.put h3).1 hv)).2 u ((DAl.put h1).2 hu)

/-- Whatever order is picked from here on, among the first n operations; behind them: L. -/
def wpAnyD (P : Program) (md : Region.Mode) (ops : Array Oper) (R : World → World → Prop) (w0 : World) (S : List (Tmp × TSpec)) (C : List (Tmp × List Tmp × List Tmp)) (n : Nat) (L : Array Bool → Act → Prop) : Nat → Array Bool → Act → Prop
  | 0, listed, a => L listed a
  | f + 1, listed, a =>
    Region.ready md ops listed ≠ [] ∧ ∀ i ∈ Region.ready md ops listed, i < n ∧ dOp P ops R w0 S C i (wpAnyD P md ops R w0 S C n L f (listed.setIfInBounds i true)) a

theorem wpAnyD_first {n i : Nat} {oi : Oper} {L : Array Bool → Act → Prop} (hi : ops[i]? = .some oi) (hsel : ∀ (j : Nat) (o : Oper) cs b, ops[j]? = .some o → o.op ≠ .select cs b)
    (hwt : ∀ listed, HeadInv md ops n listed → listed.getD i true = false → ∀ t, n ≤ t → t ∉ Region.ready md ops listed)
    (hdone : ∀ listed a, L listed a → ∀ j ∈ Region.ready md ops listed, n ≤ j) :
    ∀ (f : Nat) (listed : Array Bool) (a : Act), HeadInv md ops n listed →
      (∀ j oj, ops[j]? = .some oj → j ≠ i → listed.getD j true = false → (∀ e ∈ oj.after, Region.binds md e = true → e.on ≠ i) → oi.apart ops oj = true) →
      i ∈ Region.ready md ops listed → DLoc P ops R w0 S C i oi a →
      (∀ v, DAl ops S oi a v → wpAnyD P md ops R w0 S C n L f (listed.setIfInBounds i true) (a.put oi.dst v)) → wpAnyD P md ops R w0 S C n L (f + 1) listed a := by
  intro f
  induction f with
  | zero =>
    intro listed a inv _ hr hL H
    obtain ⟨v0, hv0⟩ := hL.some
    have hun := (mem_ready.1 hr).1
    refine ⟨fun h => (by rw [h] at hr; cases hr), fun j hj => ?_⟩
    have hjn : j < n := by
      rcases Nat.lt_or_ge j n with h | h
      · exact h
      · exact absurd hj (hwt listed inv hun j h)
    refine ⟨hjn, ?_⟩
    by_cases hji : j = i
    · subst hji; unfold dOp; simp only [hi]; exact ⟨hL, H⟩
    · have := hdone _ _ (H v0 hv0) j (ready_mono hj hji)
      omega
  | succ f ih =>
    intro listed a inv hfree hr hL H
    have hun := (mem_ready.1 hr).1
    refine ⟨fun h => (by rw [h] at hr; cases hr), fun j hj => ?_⟩
    have hjn : j < n := by
      rcases Nat.lt_or_ge j n with h | h
      · exact h
      · exact absurd hj (hwt listed inv hun j h)
    refine ⟨hjn, ?_⟩
    by_cases hji : j = i
    · subst hji; unfold dOp; simp only [hi]; exact ⟨hL, H⟩
    · have h1 := fun v hv => ((H v hv).2 j (ready_mono hj hji)).2
      obtain ⟨hjun, oj, hoj, hall⟩ := mem_ready.1 hj
      have hnot : ∀ e ∈ oj.after, Region.binds md e = true → e.on ≠ i := fun e he hb heq => by
        have h1 := hall e he hb
        rw [heq, getD_both hun] at h1
        cases h1
      have h2 := dOp_put hoj (hfree j oj hoj hji hjun hnot) (fun cs b => hsel i oi cs b hi) (fun cs b => hsel j oj cs b hoj) hL h1
      have hfree' : ∀ k ok, ops[k]? = .some ok → k ≠ i → (listed.setIfInBounds j true).getD k true = false →
          (∀ e ∈ ok.after, Region.binds md e = true → e.on ≠ i) → oi.apart ops ok = true := fun k ok hk hki hun hno => by
        refine hfree k ok hk hki ?_ hno
        by_cases hjk : j = k
        · subst hjk; exact hjun
        · rw [getD_set_ne true hjk] at hun; exact hun
      refine dOp_mono (fun a' h3 => ih (listed.setIfInBounds j true) a' (inv.set hj hjn) hfree' (ready_mono hr (Ne.symm hji)) h3.1 fun v hv => ?_) h2
      rw [Array.setIfInBounds_comm _ _ hji]
      exact h3.2 v hv

/-- The order of the text: up to n. -/
def wpD (P : Program) (ops : Array Oper) (R : World → World → Prop) (w0 : World) (S : List (Tmp × TSpec)) (C : List (Tmp × List Tmp × List Tmp)) (Fin : Act → Prop) : List Oper → Nat → Act → Prop
  | [], _, a => Fin a
  | o :: rest, k, a => DLoc P ops R w0 S C k o a ∧ ∀ v, DAl ops S o a v → wpD P ops R w0 S C Fin rest (k + 1) (a.put o.dst v)

/-- Each looks only at what it waits for. -/
def looksB (md : Region.Mode) (ops : Array Oper) : Bool :=
  (List.range ops.size).all fun j => match ops[j]? with
    | none => true
    | some oj => (List.range j).all fun i => match ops[i]? with
      | none => true
      | some oi => (match oi.dst with | none => true | some d => !(oj.looksAt ops).contains d) || oj.after.any (fun e => Region.binds md e && e.on == i)
theorem looksB_spec (h : looksB md ops = true) {i j : Nat} {oi oj : Oper} {d : Tmp} (hj : ops[j]? = .some oj) (hi : ops[i]? = .some oi) (hij : i < j) (hd : oi.dst = .some d) (hl : d ∈ oj.looksAt ops) : ∃ e ∈ oj.after, Region.binds md e = true ∧ e.on = i := by
  have hjs : j < ops.size := (Array.getElem?_eq_some_iff.1 hj).1
  simp only [looksB, List.all_eq_true, List.mem_range] at h
  have h1 := h j hjs
  simp only [hj, List.all_eq_true, List.mem_range] at h1
  have h2 := h1 i hij
  simp only [hi, hd, Bool.or_eq_true] at h2
  rcases h2 with h2 | h2
  · simp [hl] at h2
  · obtain ⟨e, he, hb⟩ := Array.any_eq_true'.1 h2
    simp only [Bool.and_eq_true, beq_iff_eq] at hb
    exact ⟨e, he, hb.1, hb.2⟩
/-- Every temporary that an operation lays is there. -/
def dstB (ops : Array Oper) (n : Nat) : Bool := ops.all fun o => match o.dst with | none => true | some d => decide (d < n)
theorem dstB_spec {n : Nat} (h : dstB ops n = true) {i : Nat} {o : Oper} {d : Tmp} (hi : ops[i]? = .some o) (hd : o.dst = .some d) : d < n := by
  have := Array.all_eq_true_iff_forall_mem.1 h o (Array.mem_of_getElem? hi)
  simpa [hd] using this

/-- What one uses up no other one looks at. -/
def conB (ops : Array Oper) (C : List (Tmp × List Tmp × List Tmp)) : Bool :=
  (List.range ops.size).all fun j => match ops[j]? with
    | none => true
    | some oj => (conOf C oj.dst).all fun d => (List.range ops.size).all fun k => k == j || match ops[k]? with
      | none => true
      | some ok => !(ok.looksAt ops).contains d
theorem conB_spec (h : conB ops C = true) {j k : Nat} {oj ok : Oper} {d : Tmp} (hj : ops[j]? = .some oj) (hk : ops[k]? = .some ok) (hd : (conOf C oj.dst).contains d = true) (hl : d ∈ ok.looksAt ops) : k = j := by
  have hjs : j < ops.size := (Array.getElem?_eq_some_iff.1 hj).1
  have hks : k < ops.size := (Array.getElem?_eq_some_iff.1 hk).1
  simp only [conB, List.all_eq_true, List.mem_range] at h
  have h1 := h j hjs
  simp only [hj, List.all_eq_true, List.mem_range] at h1
  have h2 := h1 d (by simpa using hd) k hks
  simp only [hk, Bool.or_eq_true, beq_iff_eq] at h2
  rcases h2 with h2 | h2
  · exact h2
  · simp [hl] at h2
/-- What is passed over is used up before, or laid behind. -/
def skB (md : Region.Mode) (ops : Array Oper) (C : List (Tmp × List Tmp × List Tmp)) : Bool :=
  (List.range ops.size).all fun j => match ops[j]? with
    | none => true
    | some oj => (skOf C oj.dst).all fun d =>
      (oj.after.any fun e => Region.binds md e && match ops[e.on]? with | none => false | some oe => (conOf C oe.dst).contains d) ||
      (List.range ops.size).all fun i => match ops[i]? with
        | none => true
        | some oi => oi.dst != some d || oi.after.any (fun e => Region.binds md e && e.on == j)
theorem skB_spec (h : skB md ops C = true) {j : Nat} {oj : Oper} {d : Tmp} (hj : ops[j]? = .some oj) (hd : (skOf C oj.dst).contains d = true) :
    (∃ e ∈ oj.after, Region.binds md e = true ∧ ∃ oe, ops[e.on]? = .some oe ∧ (conOf C oe.dst).contains d = true) ∨ ∀ (i : Nat) (oi : Oper), ops[i]? = .some oi → oi.dst = .some d → ∃ e ∈ oi.after, Region.binds md e = true ∧ e.on = j := by
  have hjs : j < ops.size := (Array.getElem?_eq_some_iff.1 hj).1
  simp only [skB, List.all_eq_true, List.mem_range] at h
  have h1 := h j hjs
  simp only [hj, List.all_eq_true] at h1
  have h2 := h1 d (by simpa using hd)
  simp only [Bool.or_eq_true] at h2
  rcases h2 with h2 | h2
  · left
    obtain ⟨e, he, hb⟩ := Array.any_eq_true'.1 h2
    simp only [Bool.and_eq_true] at hb
    cases ho : ops[e.on]? with
    | none => rw [ho] at hb; exact absurd hb.2 (by simp)
    | some oe => rw [ho] at hb; exact ⟨e, he, hb.1, oe, ho, hb.2⟩
  · right
    intro i oi hi hid
    simp only [List.all_eq_true, List.mem_range] at h2
    have h3 := h2 i (Array.getElem?_eq_some_iff.1 hi).1
    simp only [hi, hid, Bool.or_eq_true] at h3
    rcases h3 with h3 | h3
    · simp at h3
    · obtain ⟨e, he, hb⟩ := Array.any_eq_true'.1 h3
      simp only [Bool.and_eq_true, beq_iff_eq] at hb
      exact ⟨e, he, hb.1, hb.2⟩
/-- What is listed is listed behind what it waits for. -/
def Closed (md : Region.Mode) (ops : Array Oper) (listed : Array Bool) : Prop := ∀ j oj, ops[j]? = .some oj → listed.getD j false = true → ∀ e ∈ oj.after, Region.binds md e = true → listed.getD e.on false = true
theorem Closed.set {i : Nat} {listed : Array Bool} (h : Closed md ops listed) (hi : i ∈ Region.ready md ops listed) : Closed md ops (listed.setIfInBounds i true) := by
  obtain ⟨_, oi, hoi, hall⟩ := mem_ready.1 hi
  intro j oj hj hl e he hb
  by_cases hij : i = j
  · subst hij
    obtain rfl : oj = oi := Option.some.inj (hj.symm.trans hoi)
    exact getD_set_true (hall e he hb)
  · rw [getD_set_ne false hij] at hl
    exact getD_set_true (h j oj hj hl e he hb)

/-- What is known of what has been laid, and not been used up. -/
def Laid (ops : Array Oper) (S : List (Tmp × TSpec)) (C : List (Tmp × List Tmp × List Tmp)) (listed : Array Bool) (a : Act) (w : World) : Prop :=
  ∀ i o d, listed.getD i false = true → ops[i]? = .some o → o.dst = .some d → (∀ j oj, listed.getD j false = true → ops[j]? = .some oj → (conOf C oj.dst).contains d = false) → (tlook S d).V ((a.tmps[d]?).getD undef) w

theorem Laid.facts {listed : Array Bool} {a : Act} {w : World} (hlk : looksB md ops = true) (hcn : conB ops C = true) (h : Laid ops S C listed a w) {i : Nat} {o : Oper} (hi : ops[i]? = .some o) (hr : i ∈ Region.ready md ops listed) : Facts ops S i o a w := by
  intro d hd
  simp only [lookB, Bool.and_eq_true, List.contains_iff_mem, List.any_eq_true, beq_iff_eq] at hd
  obtain ⟨hd1, x, hx, hxd⟩ := hd
  obtain ⟨k, hk⟩ := List.mem_iff_getElem?.1 hx
  rw [List.getElem?_take] at hk
  split at hk
  · rename_i hki
    have hk' : ops[k]? = .some x := by simpa using hk
    obtain ⟨e, he, hb, hon⟩ := looksB_spec hlk hi hk' hki hxd hd1
    obtain ⟨_, o', ho', hall⟩ := mem_ready.1 hr
    obtain rfl : o = o' := by rw [hi] at ho'; exact Option.some.inj ho'
    have := hall e he hb
    rw [hon] at this
    refine h k x d this hk' hxd (fun j oj hjl hj => ?_)
    cases hcj : (conOf C oj.dst).contains d with
    | false => rfl
    | true =>
      have e := conB_spec hcn hj hi hcj hd1
      subst e
      have h0 := (mem_ready.1 hr).1
      rw [getD_both h0] at hjl
      cases hjl
  · cases hk

theorem Laid.put {listed : Array Bool} {a : Act} {w w' : World} (hsk : skB md ops C = true) (hcl : Closed md ops listed) (h : Laid ops S C listed a w) {i : Nat} {o : Oper} (hi : ops[i]? = some o) (hir : i ∈ Region.ready md ops listed) (his : i < listed.size) {v : Value} (hp : Pres S (outOf C o.dst) w w') (hv : (dspec S o.dst).V v w') (hsz : dstB ops a.tmps.size = true) :
    Laid ops S C (listed.setIfInBounds i true) (a.put o.dst v) w' := by
  intro k x d hk hx hd hnc
  by_cases hod : o.dst = .some d
  · have hlt := dstB_spec hsz hi hod
    rw [hod] at hv ⊢
    simpa [Act.put, hlt, dspec] using hv
  · rw [put_get (fun e he hed => hod (by rw [he, hed]))]
    have hki : i ≠ k := by
      rintro rfl
      rw [hi] at hx
      obtain rfl := Option.some.inj hx
      exact hod hd
    rw [getD_set_ne false hki] at hk
    refine hp d ?_ _ (h k x d hk hx hd (fun j oj hjl hj => hnc j oj (getD_set_true hjl) hj))
    have h1 := hnc i o (by simp [his]) hi
    cases h2 : (skOf C o.dst).contains d with
    | false =>
      have h1' : d ∉ conOf C o.dst := by simpa using h1
      have h2' : d ∉ skOf C o.dst := by simpa using h2
      have h3' : d ∉ o.dst.toList := by
        intro h3
        exact hod (by simpa using h3)
      simp only [outOf, List.contains_eq_mem, List.mem_append, h1', h2', h3', or_self, decide_false]
    | true =>
      exfalso
      obtain ⟨hun, o', ho', hall⟩ := mem_ready.1 hir
      obtain rfl : o = o' := Option.some.inj (hi.symm.trans ho')
      rcases skB_spec hsk hi h2 with ⟨e, he, hb, oe, hoe, hce⟩ | hlater
      · have := hnc e.on oe (getD_set_true (hall e he hb)) hoe
        rw [hce] at this
        cases this
      · obtain ⟨e, he, hb, hon⟩ := hlater k x hx hd
        have := hcl k x hx hk e he hb
        rw [hon, getD_both hun] at this
        cases this

/-- What one operation leaves. -/
theorem dOp_step {i : Nat} {K : Act → Prop} {a : Act} {w : World} {K' : Act → World → Prop} {Q : Exit → Act → World → Prop} {listed : Array Bool} (hlk : looksB md ops = true) (hcn : conB ops C = true) (hsk : skB md ops C = true) (hcl : Closed md ops listed) (hrf : ∀ w, R w w) (hw : R w0 w) (hls : listed.size = ops.size)
    (hl : Laid ops S C listed a w) (hsz : dstB ops a.tmps.size = true) (hr : i ∈ Region.ready md ops listed)
    (h : ∀ o v w', ops[i]? = .some o → K (a.put o.dst v) → R w w' → Laid ops S C (listed.setIfInBounds i true) (a.put o.dst v) w' → K' (a.put o.dst v) w') (hh : dOp P ops R w0 S C i K a) : wpOp P ops Q i K' a w := by
  unfold dOp at hh
  unfold wpOp
  obtain ⟨_, o, ho, _⟩ := mem_ready.1 hr
  have his : i < listed.size := by rw [hls]; exact (Array.getElem?_eq_some_iff.1 ho).1
  simp only [ho] at hh ⊢
  obtain ⟨hL, hK⟩ := hh
  unfold DLoc at hL
  unfold DAl at hK
  split
  · rename_i hwd
    rw [if_pos hwd] at hL
    simp only [hwd, if_true] at hK
    refine .inl (DUpon.wp (fun v w' ⟨h1, h2, h3, h4⟩ => ?_) (hL.2 w hw (hl.facts hlk hcn ho hr)))
    exact h o v w' ho (hK v h1) h3 (hl.put hsk hcl ho hr his h4 h2 hsz)
  · rename_i hwd
    rw [if_neg hwd] at hL
    simp only [hwd] at hK
    exact h o undef w ho (hK undef rfl) (hrf w) (hl.put hsk hcl ho hr his (fun _ _ _ h => h) (hL.2 w hw) hsz)

theorem put_size (a : Act) (dst : Option Tmp) (v : Value) : (a.put dst v).tmps.size = a.tmps.size := by cases dst <;> simp [Act.put]

theorem wpAny_of_dag {n g : Nat} {Q : Exit → Act → World → Prop} {L : Array Bool → Act → Prop} (hlk : looksB md ops = true) (hcn : conB ops C = true) (hsk : skB md ops C = true) (hrf : ∀ w, R w w) (htr : ∀ a b c, R a b → R b c → R a c)
    (hL : ∀ listed a w, L listed a → R w0 w → Laid ops S C listed a w → wpAny P md ops Q g listed a w) :
    ∀ (fuel : Nat) (listed : Array Bool) (a : Act) (w : World), R w0 w → listed.size = ops.size → Closed md ops listed → Laid ops S C listed a w → dstB ops a.tmps.size = true → wpAnyD P md ops R w0 S C n L fuel listed a → wpAny P md ops Q (fuel + g) listed a w
  | 0, listed, a, w, hw, _, _, hl, _, h => by rw [Nat.zero_add]; exact hL _ _ _ h hw hl
  | fuel + 1, listed, a, w, hw, hls, hcl, hl, hsz, h => by
    rw [show fuel + 1 + g = (fuel + g) + 1 by omega]
    exact ⟨fun h0 => absurd h0 h.1, fun i hi => dOp_step hlk hcn hsk hcl hrf hw hls hl hsz hi (fun o v w' ho hK hr hl' => wpAny_of_dag hlk hcn hsk hrf htr hL fuel _ _ w' (htr _ _ _ hw hr) (by simpa using hls) (hcl.set hi) hl' (by rw [put_size]; exact hsz) hK) (h.2 i hi).2⟩

theorem wpAnyD_lex {n g : Nat} {Lq : Act → Prop} (hsel : Region.noSelect ops = true) (hn : n ≤ ops.size) (hwt : ∀ i, i < n → ∀ listed, HeadInv md ops n listed → listed.getD i true = false → ∀ t, n ≤ t → t ∉ Region.ready md ops listed) :
    ∀ (l : List Oper) (k : Nat) (listed : Array Bool) (a : Act), (∀ j, j < l.length → l[j]? = ops[k + j]?) → k + l.length = n → HeadInv md ops n listed → (∀ i, i < k → listed.getD i false = true) →
    Region.lexHead md ops g l.length k listed = true → wpD P ops R w0 S C Lq l k a →
    wpAnyD P md ops R w0 S C n (fun listed' a' => Region.seqB md ops g n listed' = true ∧ (∀ i, i < n → listed'.getD i false = true) ∧ Lq a') l.length listed a
  | [], k, listed, a, _, hk, _, hls, hB, h => by
    have : k = n := by simpa using hk
    subst this
    exact ⟨by simpa [Region.lexHead] using hB, hls, h⟩
  | o :: l, k, listed, a, hl, hk, inv, hls, hB, h => by
    have h0 : ops[k]? = .some o := by simpa using (hl 0 (by simp)).symm
    have hks : k < ops.size := (Array.getElem?_eq_some_iff.1 h0).1
    simp only [List.length_cons, Region.lexHead, Bool.and_eq_true] at hB
    obtain ⟨⟨hr, hf⟩, hB'⟩ := hB
    have hkn : k < n := by simp only [List.length_cons] at hk; omega
    have hr' : k ∈ Region.ready md ops listed := by simpa using hr
    refine wpAnyD_first h0 (Region.noSelect_spec hsel) (hwt k hkn) (fun listed' a' hL => seqB_ready hL.1) l.length listed a inv (Region.free_spec h0 hf) hr' h.1 fun v hv => ?_
    refine wpAnyD_lex hsel hn hwt l (k + 1) _ _ (fun j hj => by have := hl (j + 1) (by simp; omega); simpa [Nat.add_assoc, Nat.add_comm 1 j] using this) (by simp only [List.length_cons] at hk; omega) (inv.set hr' hkn) (fun i hi => ?_) hB' (h.2 v hv)
    by_cases hik : k = i
    · subst hik; simp [inv.size, hks]
    · rw [getD_set_ne false hik]; exact hls i (by omega)

/-- What is known at the end of all that the first n operations have laid. -/
def Ends (ops : Array Oper) (S : List (Tmp × TSpec)) (C : List (Tmp × List Tmp × List Tmp)) (n : Nat) (a : Act) (w : World) : Prop := ∀ d, ((ops.toList.take n).any (fun x => x.dst == some d) && ops.all (fun x => !(conOf C x.dst).contains d)) = true → (tlook S d).V ((a.tmps[d]?).getD undef) w
theorem Laid.ends {n : Nat} {listed : Array Bool} {a : Act} {w : World} (h : Laid ops S C listed a w) (hls : ∀ i, i < n → listed.getD i false = true) : Ends ops S C n a w := by
  intro d hd
  simp only [Bool.and_eq_true, List.any_eq_true, beq_iff_eq] at hd
  obtain ⟨⟨x, hx, hxd⟩, hall⟩ := hd
  obtain ⟨k, hk⟩ := List.mem_iff_getElem?.1 hx
  rw [List.getElem?_take] at hk
  split at hk
  · rename_i hki
    refine h k x d (hls k hki) (by simpa using hk) hxd (fun j oj _ hj => ?_)
    have := Array.all_eq_true_iff_forall_mem.1 hall oj (Array.mem_of_getElem? hj)
    simpa using this
  · cases hk

/-- The Bool over a region: the first n operations in the order of the text, the others one behind the other. -/
def dagB (md : Region.Mode) (ops : Array Oper) (C : List (Tmp × List Tmp × List Tmp)) (n : Nat) : Bool :=
  Region.noSelect ops && (decide (n = ops.size) || (decide (n < ops.size) && Region.sinkB md ops n && Region.chainB md ops n)) && Region.lexHead md ops (ops.size - n) n 0 (Array.replicate ops.size false) && looksB md ops && conB ops C && skB md ops C

theorem wp_region_dagR {id : Nat} {Q : Exit → Act → World → Prop} {a : Act} {w : World} {l : List Oper} (n : Nat) (S : List (Tmp × TSpec)) (C : List (Tmp × List Tmp × List Tmp)) (R : World → World → Prop) (hrf : ∀ w, R w w) (htr : ∀ a b c, R a b → R b c → R a c) (hdr : R w w.drew)
    (hm : P.follows .mixedOrders = true) (hB : dagB .any l.toArray C n = true) (hsz : dstB l.toArray a.tmps.size = true)
    (h : wpD P l.toArray R w S C (fun a' => ∀ w', R w w' → Ends l.toArray S C n a' w' → wpList P l.toArray Q (l.drop n) a' w') (l.take n) 0 a) : (Code.region id l.toArray true).wp P Q a w := by
  simp only [dagB, Bool.and_eq_true, Bool.or_eq_true, decide_eq_true_eq] at hB
  obtain ⟨⟨⟨⟨⟨hsel, hcase⟩, hlex⟩, hlk⟩, hcn⟩, hsk⟩ := hB
  have hn' : n ≤ l.toArray.size := by rcases hcase with h | h <;> omega
  have hn : n ≤ l.length := by simpa using hn'
  have htl : (l.take n).length = n := by simp; omega
  have hdl : (l.drop n).length = l.toArray.size - n := by simp
  have inv0 : HeadInv .any l.toArray n (Array.replicate l.toArray.size false) :=
    ⟨by simp, fun j oj _ hl => (by rw [getD_replicate_false] at hl; cases hl), fun t _ ht => getD_in (by simpa using ht) (getD_replicate_false _ _)⟩
  have hwt : ∀ i, i < n → ∀ listed, HeadInv .any l.toArray n listed → listed.getD i true = false → ∀ t, n ≤ t → t ∉ Region.ready .any l.toArray listed := by
    intro i hi listed inv hun t ht
    rcases hcase with hc | ⟨⟨hc1, hc2⟩, hc3⟩
    · intro hr
      obtain ⟨_, o, ho, _⟩ := mem_ready.1 hr
      have := (Array.getElem?_eq_some_iff.1 ho).1
      omega
    · exact tail_waits hc2 hc3 hc1 inv _ i rfl hi hun t ht
  have H := wpAnyD_lex (md := .any) (g := l.toArray.size - n) hsel hn' hwt (l.take n) 0 _ a (fun j hj => by
    have hj' : j < n := by rw [htl] at hj; exact hj
    simp [hj']) (by simpa using htl) inv0 (fun i hi => by omega) (by rw [htl]; exact hlex) h
  refine wp_region_any hm ?_
  have := wpAny_of_dag (Q := Q) (g := l.toArray.size - n) hlk hcn hsk hrf htr (fun listed a' w' hL hw' hl' => by
    have := wpAny_of_seq (md := .any) (Q' := Q) (l.drop n) n listed a' w' (fun j => by simp [List.getElem?_drop]) (by rw [hdl]; exact hL.1) (hL.2.2 w' hw' (hl'.ends hL.2.1))
    rwa [hdl] at this) _ _ _ w.drew hdr (by simp) (fun j oj _ hl => by rw [getD_replicate_false] at hl; cases hl) (fun i o d hi => (by rw [getD_replicate_false] at hi; cases hi)) hsz H
  rw [htl, show n + (l.toArray.size - n) = l.toArray.size by omega] at this
  exact this

/-! The steps of a walk, behind a wall (as WpQ). E: what all words stand; R: what the class is closed under. -/
structure WpD (P : Program) (ops : Array Oper) (E R : World → World → Prop) (w0 : World) (S : List (Tmp × TSpec)) (C : List (Tmp × List Tmp × List Tmp)) (Fin : Act → Prop) (l : List Oper) (k : Nat) (a : Act) : Prop where
  out : Stab E S → (∀ a b, E a b → R a b) → wpD P ops R w0 S C Fin l k a
/-- At the class of the worlds in which nothing old has turned; all operations are walked so. -/
theorem wp_region_dag0 {id : Nat} {Q : Exit → Act → World → Prop} {a : Act} {w : World} {l : List Oper} (S : List (Tmp × TSpec)) (hst : Stab (fun a b => Ext a b) S) (hm : P.follows .mixedOrders = true) (hB : dagB .any l.toArray [] l.length = true) (hsz : dstB l.toArray a.tmps.size = true)
    (h : WpD P l.toArray (fun a b => Ext a b) (fun a b => Ext a b) w S [] (fun a' => ∀ w', Ext w w' → Ends l.toArray S [] l.length a' w' → Q .normal a' w') l 0 a) : (Code.region id l.toArray true).wp P Q a w := by
  refine wp_region_dagR l.length S [] (fun a b => Ext a b) (fun w => Kp.refl _ w) (fun _ _ _ h k => h.trans k) (Kp.refl _ w).drew hm hB hsz ?_
  rw [List.take_length, List.drop_length]
  exact h.out hst (fun _ _ h => h)
/-- Where blocks that are made on the way are written too; the first n operations are walked so. -/
theorem wp_region_dagK {id : Nat} {Q : Exit → Act → World → Prop} {a : Act} {w : World} {l : List Oper} (n : Nat) (C : List (Tmp × List Tmp × List Tmp)) (S : List (Tmp × TSpec)) (hst : Stab (fun a b => Ext a b) S) (hm : P.follows .mixedOrders = true) (hB : dagB .any l.toArray C n = true) (hsz : dstB l.toArray a.tmps.size = true)
    (h : WpD P l.toArray (fun a b => Ext a b) (fun a b => Kp (fun i => w.heap.size ≤ i) a b) w S C (fun a' => ∀ w', Kp (fun i => w.heap.size ≤ i) w w' → Ends l.toArray S C n a' w' → wpList P l.toArray Q (l.drop n) a' w') (l.take n) 0 a) : (Code.region id l.toArray true).wp P Q a w :=
  wp_region_dagR n S C (fun a b => Kp (fun i => w.heap.size ≤ i) a b) (fun w => Kp.refl _ w) (fun _ _ _ h k => h.trans k) (Kp.refl _ w).drew hm hB hsz (h.out hst (fun _ _ h => h.kp))

/-- An operation's law at the list, as a word on its run. -/
theorem DUpon.of_list {o : Oper} {a : Act} {w : World} {K : Value → World → Prop} {d : Tmp} (hd : o.dst = .some d) (hlt : d < a.tmps.size) (hg : o.guard = none)
    (h : wpList P ops (fun e a' w' => e = .normal ∧ ∃ v, a' = a.put o.dst v ∧ K v w') [o] a w) : DUpon P K ((execOp a.eval o).run P w) := by
  have hw : Region.wanted o (yielded ops a.tmps) = true := by unfold Region.wanted; rw [hg]
  have inj : ∀ v u : Value, a.put o.dst v = a.put o.dst u → v = u := by
    intro v u e
    have := congrArg (fun x : Act => x.tmps[d]?) e
    simpa [hd, Act.put, hlt] using this
  simp only [wpList, hw, if_true] at h
  rcases h with h | ⟨_, h⟩
  · unfold Oper.wp at h
    generalize (execOp a.eval o).run P w = r at *
    cases r with
    | ok n w' =>
      cases n <;> simp only [Oper.upon] at h <;> simp only [DUpon]
      case value u => obtain ⟨_, v, e, k⟩ := h; rwa [inj _ _ e]
      case skip => obtain ⟨_, v, e, k⟩ := h; rwa [inj _ _ e]
      case defer df =>
        obtain ⟨_, v, e, k⟩ := h
        have := congrArg (fun x : Act => x.defers.length) e
        simp [hd, Act.put] at this
      case enter f args =>
        refine h.mono fun e w'' he => ?_
        cases e with
        | returned u => obtain ⟨_, v, e, k⟩ := he; exact ⟨u, rfl, by rwa [inj _ _ e]⟩
        | panicked c => exact absurd he.1 (by simp)
        | outgrown => obtain ⟨_, _, hq, _⟩ := he; cases hq
      case row row args => exact Rows.mono h fun u w'' he => by obtain ⟨_, v, e, k⟩ := he; rwa [inj _ _ e]
    | halt x w' => cases x <;> simp only [Oper.upon] at h; exact absurd h.1 (by simp)
  · obtain ⟨_, _, hq, _⟩ := h; cases hq

variable {E : World → World → Prop} {Fin : Act → Prop} {a : Act} {o : Oper} {rest : List Oper} {k : Nat}
theorem wpD_nil (h : Fin a) : WpD P ops E R w0 S C Fin [] k a := ⟨fun _ _ => h⟩
theorem wpD_skip (hs : (dspec S o.dst).A undef ∧ ∀ w, (dspec S o.dst).V undef w) (hw : Region.wanted o (yielded ops a.tmps) = false) (h : WpD P ops E R w0 S C Fin rest (k + 1) (a.put o.dst undef)) : WpD P ops E R w0 S C Fin (o :: rest) k a := by
  refine ⟨fun hsb hER => ⟨?_, fun v hv => ?_⟩⟩
  · unfold DLoc; rw [if_neg (by simp [hw])]; exact ⟨hs.1, fun w _ => hs.2 w⟩
  · unfold DAl at hv; rw [if_neg (by simp [hw])] at hv; subst hv; exact h.out hsb hER
theorem wpD_skipv (hs : dspec S o.dst = .val undef) (hw : Region.wanted o (yielded ops a.tmps) = false) (h : WpD P ops E R w0 S C Fin rest (k + 1) (a.put o.dst undef)) : WpD P ops E R w0 S C Fin (o :: rest) k a :=
  wpD_skip (by rw [hs]; exact ⟨rfl, fun _ => trivial⟩) hw h
/-- It yields this very value, in the world that it got. -/
theorem wpD_val {c : Value} (hs : dspec S o.dst = .val c) (hrf : ∀ w, R w w) (hw : Region.wanted o (yielded ops a.tmps) = true) (h : ∀ w, R w0 w → Facts ops S k o a w → (execOp a.eval o).run P w = .ok (.value c) w) (hk : WpD P ops E R w0 S C Fin rest (k + 1) (a.put o.dst c)) :
    WpD P ops E R w0 S C Fin (o :: rest) k a := by
  refine ⟨fun hsb hER => ⟨?_, fun v hv => ?_⟩⟩
  · unfold DLoc; rw [if_pos hw, hs]
    exact ⟨⟨c, rfl⟩, fun w hw hf => by rw [h w hw hf]; exact ⟨rfl, trivial, hrf w, fun _ _ _ h => h⟩⟩
  · unfold DAl at hv; rw [if_pos hw, hs] at hv
    obtain rfl : v = c := hv
    exact hk.out hsb hER
/-- It yields this very value, whatever it makes besides. -/
theorem wpD_con {c : Value} (hs : dspec S o.dst = .val c) (hw : Region.wanted o (yielded ops a.tmps) = true) (h : ∀ w, R w0 w → Facts ops S k o a w → DUpon P (CPost E w c) ((execOp a.eval o).run P w)) (hk : WpD P ops E R w0 S C Fin rest (k + 1) (a.put o.dst c)) :
    WpD P ops E R w0 S C Fin (o :: rest) k a := by
  refine ⟨fun hsb hER => ⟨?_, fun v hv => ?_⟩⟩
  · unfold DLoc; rw [if_pos hw, hs]
    exact ⟨⟨c, rfl⟩, fun w hw hf => (h w hw hf).mono fun v w' hv => ⟨hv.1, trivial, hER _ _ hv.2, hsb.pres hv.2⟩⟩
  · unfold DAl at hv; rw [if_pos hw, hs] at hv
    obtain rfl : v = c := hv
    exact hk.out hsb hER
/-- It yields some value, of which this much is known. -/
theorem wpD_made {A : Value → Prop} {V : Value → World → Prop} (t : Tmp) (ht : o.dst = some t) (hst : tlook S t = ⟨A, V⟩) (hA : ∃ v, A v) (hw : Region.wanted o (yielded ops a.tmps) = true) (h : ∀ w, R w0 w → Facts ops S k o a w → DUpon P (MPost E w A V) ((execOp a.eval o).run P w))
    (hk : ∀ v, A v → WpD P ops E R w0 S C Fin rest (k + 1) (a.put o.dst v)) : WpD P ops E R w0 S C Fin (o :: rest) k a := by
  have hs : dspec S o.dst = ⟨A, V⟩ := by rw [ht]; exact hst
  refine ⟨fun hsb hER => ⟨?_, fun v hv => ?_⟩⟩
  · unfold DLoc; rw [if_pos hw, hs]
    exact ⟨hA, fun w hw hf => (h w hw hf).mono fun v w' ⟨h1, h2, h3⟩ => ⟨h1, h2, hER _ _ h3, hsb.pres h3⟩⟩
  · unfold DAl at hv; rw [if_pos hw, hs] at hv
    exact (hk v hv).out hsb hER
/-- It yields some value, and may write blocks that were made on the way: what it uses up is lost. -/
theorem wpD_used {A : Value → Prop} {V : Value → World → Prop} (t : Tmp) (ht : o.dst = some t) (hst : tlook S t = ⟨A, V⟩) (hA : ∃ v, A v) (hw : Region.wanted o (yielded ops a.tmps) = true)
    (h : ∀ w, R w0 w → Facts ops S k o a w → DUpon P (fun v w' => A v ∧ V v w' ∧ R w w' ∧ PresL (outOf C (some t)) w w' S) ((execOp a.eval o).run P w))
    (hk : ∀ v, A v → WpD P ops E R w0 S C Fin rest (k + 1) (a.put o.dst v)) : WpD P ops E R w0 S C Fin (o :: rest) k a := by
  have hs : dspec S o.dst = ⟨A, V⟩ := by rw [ht]; exact hst
  refine ⟨fun hsb hER => ⟨?_, fun v hv => ?_⟩⟩
  · unfold DLoc; rw [if_pos hw, hs]
    exact ⟨hA, fun w hw hf => (h w hw hf).mono fun v w' ⟨h1, h2, h3, h4⟩ => ⟨h1, h2, h3, by rw [ht]; exact h4.pres⟩⟩
  · unfold DAl at hv; rw [if_pos hw, hs] at hv
    exact (hk v hv).out hsb hER
end
end Av
