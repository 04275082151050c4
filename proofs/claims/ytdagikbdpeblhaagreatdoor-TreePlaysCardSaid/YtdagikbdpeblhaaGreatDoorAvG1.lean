/- Texts put together: AvBase, AvFrame, AvFrameL, AvPath. -/
import Derived.WalkKit
import Derived.WalkSpells
import Derived.WalkLawsBesides
import Derived.Lib.Hide
import Derived.Deep.Light
import Derived.Lib.Strings
import Derived.Test.YtdagikbdpeblhaaGreatDoorRows
import Derived.Test.YtdagikbdpeblhaaGreatDoorTie
import Derived.Test.YtdagikbdpeblhaaGreatDoorCards
import Derived.Test.YtdagikbdpeblhaaGreatDoorAvS
import Derived.ProofKit
import Derived.OpenShut
import Derived.LaidMore
import Derived.Lay
import Derived.SevenTiedAt
import Derived.HandedShaped
import Derived.Carry
import Derived.ChangeOld
import Derived.SliceStrings
import Derived.WideShapes
import Derived.Handed
import Derived.LaidSub
import Derived.Lib.LaidTab
import Derived.Lib.SplitLaws
import Derived.Lib.Join

/- Vocabulary for walks: what stays of memory, slices that are read, and slices that a call owns. Plain; no program. -/
namespace Av
set_option maxRecDepth 100000
open Go Go.RowKit

/-- Of what lay in w nothing has turned in w' but the blocks in S. -/
structure Kp (S : Nat → Prop) (w w' : World) : Prop where
  os : w'.os = w.os
  tape : w'.tape = w.tape
  output : w'.output = w.output
  size : w.heap.size ≤ w'.heap.size
  block : ∀ k, k < w.heap.size → ¬ S k → w'.heap[k]? = w.heap[k]?

/-- Nothing that lay there has turned. -/
abbrev Ext (w w' : World) : Prop := Kp (fun _ => False) w w'

theorem Kp.refl (S : Nat → Prop) (w : World) : Kp S w w := ⟨rfl, rfl, rfl, Nat.le_refl _, fun _ _ _ => rfl⟩
theorem Kp.trans {S : Nat → Prop} {a b c : World} (h : Kp S a b) (k : Kp S b c) : Kp S a c :=
  ⟨k.os.trans h.os, k.tape.trans h.tape, k.output.trans h.output, Nat.le_trans h.size k.size,
   fun i hi hs => (k.block i (Nat.lt_of_lt_of_le hi h.size) hs).trans (h.block i hi hs)⟩
/-- A later step may also turn blocks that were not there at the start. -/
theorem Kp.next {S T : Nat → Prop} {a b c : World} (h : Kp S a b) (k : Kp T b c) (hT : ∀ i, i < a.heap.size → T i → S i) : Kp S a c :=
  ⟨k.os.trans h.os, k.tape.trans h.tape, k.output.trans h.output, Nat.le_trans h.size k.size,
   fun i hi hs => (k.block i (Nat.lt_of_lt_of_le hi h.size) (fun t => hs (hT i hi t))).trans (h.block i hi hs)⟩
theorem Kp.mono {S T : Nat → Prop} {w w' : World} (h : Kp S w w') (hst : ∀ i, i < w.heap.size → S i → T i) : Kp T w w' :=
  ⟨h.os, h.tape, h.output, h.size, fun i hi hs => h.block i hi (fun s => hs (hst i hi s))⟩
theorem Kp.ext {S : Nat → Prop} {a b c : World} (h : Kp S a b) (k : Ext b c) : Kp S a c := h.next k (fun _ _ f => f.elim)
theorem Ext.kp {S : Nat → Prop} {w w' : World} (h : Ext w w') : Kp S w w' := h.mono (fun _ _ f => f.elim)
theorem Kp.drew {S : Nat → Prop} {a w : World} (h : Kp S a w) : Kp S a w.drew := ⟨h.os, h.tape, h.output, h.size, h.block⟩
theorem Kp.drewN {S : Nat → Prop} {a w : World} (h : Kp S a w) (n : Nat) : Kp S a (w.drewN n) := ⟨h.os, h.tape, h.output, h.size, h.block⟩
theorem Kp.alloc {S : Nat → Prop} {a w : World} (h : Kp S a w) (o : Obj) : Kp S a (w.alloc o) :=
  h.next (T := fun _ => False) ⟨rfl, rfl, rfl, by simp, fun k hk _ => Below.heap_alloc _ _ _ hk⟩ (fun _ _ f => f.elim)
theorem Kp.setCell {S : Nat → Prop} {a w : World} (h : Kp S a w) (p : Addr) (u : Value) (hp : p.block < a.heap.size → S p.block) : Kp S a (w.setCell p u) :=
  h.next (T := fun k => k = p.block) ⟨rfl, rfl, rfl, by simp [World.setCell], fun k _ hs => Below.heap_setCell _ _ _ _ hs⟩ (fun i hi e => by subst e; exact hp hi)
theorem Kp.of_below {w w' : World} (h : Below w.heap.size w w') : Ext w w' := ⟨h.os, h.tape, h.output, h.size, fun k hk _ => h.block k hk⟩
theorem Kp.below {w w' : World} (h : Ext w w') : Below w.heap.size w w' := ⟨h.os, h.tape, h.output, h.size, fun k hk => h.block k hk (fun f => f)⟩
theorem Kp.grown {S : Nat → Prop} {a w w' : World} {row : Option Nat} (h : Kp S a w) (hg : w.grownBy w' row) (hr : ∀ k, row = some k → k < a.heap.size → S k) : Kp S a w' :=
  h.next (T := fun k => row = some k) ⟨hg.os, hg.tape, hg.output, hg.size, fun k hk hs => hg.block k hk (fun e => hs e.symm)⟩ (fun i hi e => hr i e hi)
theorem Kp.cell {S : Nat → Prop} {w w' : World} (h : Kp S w w') {p : Addr} {v : Value} (hc : w.cell? p = some v) (hs : ¬ S p.block) : w'.cell? p = some v :=
  (World.cell?_of_block (w := w) (h.block p.block (World.block_lt_of_cell? w p hc) hs)).trans hc
theorem Kp.frozen {S : Nat → Prop} {w w' : World} (h : Kp S w w') {p : Addr} (hb : p.block < w.heap.size) (hs : ¬ S p.block) : w'.frozen? p = w.frozen? p :=
  World.frozen?_of_block (w := w) (h.block p.block hb hs)
theorem Kp.obj {S : Nat → Prop} {w w' : World} (h : Kp S w w') {b : Nat} {o : Obj} (ho : w.heap[b]? = some o) (hs : ¬ S b) : w'.heap[b]? = some o :=
  (h.block b (Array.getElem?_eq_some_iff.1 ho).1 hs).trans ho

/-- A slice of n elements of k cells each that can be read: its cells hold xs. -/
def Sl (w : World) (k : Nat) (v : Value) (n : Nat) (xs : List Value) : Prop :=
  xs.length = n * k ∧ n ≤ maxLen ∧ ∃ a c, v = .slice a n c ∧ n ≤ c ∧ (n = 0 ∨ ∃ b off, a = some ⟨b, off, none⟩ ∧ b < w.heap.size ∧ ∀ i x, xs[i]? = some x → w.cell? ⟨b, off + i, none⟩ = some x)

theorem Sl.kp {S : Nat → Prop} {w w' : World} {k : Nat} {v : Value} {n : Nat} {xs : List Value} (h : Sl w k v n xs) (hk : Kp S w w') (hs : ∀ b, v.ownBlock = some b → b < w.heap.size → ¬ S b) : Sl w' k v n xs := by
  obtain ⟨h1, h2, a, c, rfl, hcc, h3⟩ := h
  refine ⟨h1, h2, a, c, rfl, hcc, ?_⟩
  rcases h3 with h3 | ⟨b, off, rfl, hb, hc⟩
  · exact .inl h3
  · exact .inr ⟨b, off, rfl, Nat.lt_of_lt_of_le hb hk.size, fun i x hx => hk.cell (hc i x hx) (hs b rfl hb)⟩
theorem Sl.ext {w w' : World} {k : Nat} {v : Value} {n : Nat} {xs : List Value} (h : Sl w k v n xs) (hk : Ext w w') : Sl w' k v n xs := h.kp hk (fun _ _ _ f => f)
/-- Open a slice: its value, and each cell under its bound. -/
theorem Sl.open {w : World} {k : Nat} {v : Value} {n : Nat} {xs : List Value} (h : Sl w k v n xs) :
    ∃ a c, v = .slice a n c ∧ n ≤ c ∧ n ≤ maxLen ∧ xs.length = n * k ∧ (0 < n → ∃ b off, a = some ⟨b, off, none⟩ ∧ b < w.heap.size ∧ ∀ i x, xs[i]? = some x → w.cell? ⟨b, off + i, none⟩ = some x) := by
  obtain ⟨h1, h2, a, c, rfl, hcc, h3⟩ := h
  refine ⟨a, c, rfl, hcc, h2, h1, fun hn => ?_⟩
  rcases h3 with h3 | h3
  · omega
  · exact h3
theorem Sl.nil (w : World) (k : Nat) : Sl w k (.slice none 0 0) 0 [] := ⟨by simp, Nat.zero_le _, none, 0, rfl, Nat.le_refl _, .inl rfl⟩
/-- What a call owns can be read. -/
theorem Sl.of_owns {w : World} {base : Nat} {e : TypeId} {k : Nat} {v : Value} {n : Nat} {xs : List Value} (h : w.ownsRow base e k v n xs) : Sl w k v n xs := by
  obtain ⟨h1, h2⟩ := h
  rcases h2 with ⟨rfl, rfl⟩ | ⟨g, cap, cur, rfl, hb, hg, hn, hm, hcs, ht⟩
  · exact ⟨h1, Nat.zero_le _, none, 0, rfl, Nat.le_refl _, .inl rfl⟩
  · refine ⟨h1, Nat.le_trans hn hm, some ⟨g, 0, none⟩, cap, rfl, hn, .inr ⟨g, 0, rfl, (Array.getElem?_eq_some_iff.1 hg).1, fun i x hx => ?_⟩⟩
    rw [← ht, List.getElem?_take] at hx
    split at hx
    · simp [World.cell?, hg]; simpa using hx
    · simp at hx
/-- A block just laid, as a slice of its own. -/
theorem Sl.of_block {w : World} {b : Nat} {k n c : Nat} {xs : List Value} {e : TypeId} {fr : Nat × Nat} (h : w.heap[b]? = some (.cells xs.toArray e fr)) (hl : xs.length = n * k) (hm : n ≤ maxLen) (hcc : n ≤ c) :
    Sl w k (.slice (some ⟨b, 0, none⟩) n c) n xs :=
  ⟨hl, hm, _, _, rfl, hcc, .inr ⟨b, 0, rfl, (Array.getElem?_eq_some_iff.1 h).1, fun i x hx => by simp [World.cell?, h]; simpa using hx⟩⟩

theorem ownsRow.kp {S : Nat → Prop} {w w' : World} {base : Nat} {e : TypeId} {k : Nat} {v : Value} {n : Nat} {xs : List Value} (h : w.ownsRow base e k v n xs) (hk : Kp S w w') (hs : ∀ b, v.ownBlock = some b → ¬ S b) : w'.ownsRow base e k v n xs := by
  obtain ⟨h1, h2⟩ := h
  refine ⟨h1, ?_⟩
  rcases h2 with h2 | ⟨g, cap, cur, rfl, hb, hg, r⟩
  · exact .inl h2
  · exact .inr ⟨g, cap, cur, rfl, hb, hk.obj hg (hs g rfl), r⟩
theorem ownsRow.ext {w w' : World} {base : Nat} {e : TypeId} {k : Nat} {v : Value} {n : Nat} {xs : List Value} (h : w.ownsRow base e k v n xs) (hk : Ext w w') : w'.ownsRow base e k v n xs := ownsRow.kp h hk (fun _ _ f => f)
/-- A slice of strings that can be read. -/
def Strs (w : World) (v : Value) (xs : List ByteArray) : Prop := Sl w 1 v xs.length (xs.map Value.string)
theorem Strs.kp {S : Nat → Prop} {w w' : World} {v : Value} {xs : List ByteArray} (h : Strs w v xs) (hk : Kp S w w') (hs : ∀ b, v.ownBlock = some b → b < w.heap.size → ¬ S b) : Strs w' v xs := Sl.kp h hk hs
theorem Strs.ext {w w' : World} {v : Value} {xs : List ByteArray} (h : Strs w v xs) (hk : Ext w w') : Strs w' v xs := Sl.ext h hk
theorem Strs.nil (w : World) : Strs w (.slice none 0 0) [] := Sl.nil w 1
/-- Open it: one way for none, one for some. -/
theorem Strs.open {w : World} {v : Value} {xs : List ByteArray} (h : Strs w v xs) :
    ∃ a c, v = .slice a xs.length c ∧ xs.length ≤ c ∧ xs.length ≤ maxLen ∧ (0 < xs.length → ∃ b off, a = some ⟨b, off, none⟩ ∧ b < w.heap.size ∧ ∀ i (hi : i < xs.length), w.cell? ⟨b, off + i, none⟩ = some (.string xs[i])) := by
  obtain ⟨a, c, rfl, hcc, h1, h2, h3⟩ := Sl.open h
  refine ⟨a, c, rfl, hcc, h1, fun hn => ?_⟩
  obtain ⟨b, off, rfl, hb, hc⟩ := h3 hn
  exact ⟨b, off, rfl, hb, fun i hi => hc i _ (by rw [List.getElem?_map, List.getElem?_eq_getElem hi]; rfl)⟩
theorem Strs.of_cells {w : World} {b off c : Nat} {xs : List ByteArray} (hm : xs.length ≤ maxLen) (hcc : xs.length ≤ c) (hb : b < w.heap.size) (h : ∀ i (hi : i < xs.length), w.cell? ⟨b, off + i, none⟩ = some (.string xs[i])) :
    Strs w (.slice (some ⟨b, off, none⟩) xs.length c) xs :=
  ⟨by simp, hm, _, _, rfl, hcc, .inr ⟨b, off, rfl, hb, fun i x hx => by
    rw [List.getElem?_map, Option.map_eq_some_iff] at hx
    obtain ⟨y, hy, rfl⟩ := hx
    obtain ⟨hi, rfl⟩ := List.getElem?_eq_some_iff.1 hy
    exact h i hi⟩⟩
theorem Strs.of_block {w : World} {b c : Nat} {xs : List ByteArray} {e : TypeId} {fr : Nat × Nat} (h : w.heap[b]? = some (.cells (xs.map Value.string).toArray e fr)) (hm : xs.length ≤ maxLen) (hcc : xs.length ≤ c) :
    Strs w (.slice (some ⟨b, 0, none⟩) xs.length c) xs := Sl.of_block h (by simp) hm hcc
theorem Strs.of_owns {w : World} {base : Nat} {e : TypeId} {v : Value} {n : Nat} {xs : List ByteArray} (h : w.ownsRow base e 1 v n (xs.map Value.string)) : Strs w v xs := by
  have hn : n = xs.length := by have := h.1; simp at this; exact this.symm
  subst hn
  exact Sl.of_owns h


/-- One more element of one cell. The element's type is e, the slice's t. -/
theorem wpList_app1 {P : Program} {ops : Array Oper} {rest : List Oper} {o : Oper} {a : Act} {Q : Exit → Act → World → Prop} {w : World} (t e : TypeId) (hfacts : P.underlying t = some (.slice e) ∧ (P.info? e).map (fun i => (i.zero.map fun z => z.cells.size, i.size, decide (i.bytes ≤ 64))) = some (some 1, 1, true))
    (hgd : o.guard = none) (s x : Operand) (ho : o.op = .call { callee := .builtin .append, args := #[s, x], argTypes := #[t, t] })
    (base : Nat) (v : Value) (n : Nat) (xs : List Value) (hs : a.eval s = v) (hown : w.ownsRow base e 1 v n xs)
    (b c : Nat) (u : Value) (hx : a.eval x = .slice (some ⟨b, 0, none⟩) 1 c) (hy : w.cell? ⟨b, 0, none⟩ = some u) (hu : u.oneCell' = true) (hn : n ≤ 1000000000000) (hbase : base ≤ w.heap.size)
    (h : ∀ v' w', w'.ownsRow base e 1 v' (n + 1) (xs ++ [u]) → Kp (fun k => v.ownBlock = some k) w w' → wpList P ops Q rest (a.put o.dst v') w') : wpList P ops Q (o :: rest) a w := by
  obtain ⟨ht, hi⟩ := hfacts
  cases hie : P.info? e with
  | none => simp [hie] at hi
  | some i =>
    simp only [hie, Option.map_some, Option.some.injEq, Prod.mk.injEq, decide_eq_true_eq] at hi
    obtain ⟨hz, hsz, hby⟩ := hi
    cases hze : i.zero with
    | none => simp [hze] at hz
    | some z =>
      simp only [hze, Option.map_some, Option.some.injEq] at hz
      have hnb : (n + 1) * i.bytes ≤ 140737488355328 := by
        have := Nat.mul_le_mul (show n + 1 ≤ 1000000000001 by omega) hby
        omega
      refine wpList_append_own w hgd s x t ho base e i z 1 i.bytes ht hie hze hsz rfl hz (by decide) v n xs hs hown ⟨b, 0, none⟩ 1 c [u] hx rfl ?_ ?_ (by unfold maxLen; omega) hnb hbase ?_
      · intro j u' hj
        match j, hj with
        | 0, hj => simp at hj; subst hj; exact hy
      · intro u' hu'; simp at hu'; subst hu'; exact hu
      · intro v' w' h1 h2 _
        exact h v' w' h1 ((Kp.refl _ w).grown h2 (fun k hk _ => hk))

theorem bytes_append (a b : List UInt8) : (⟨a.toArray⟩ ++ ⟨b.toArray⟩ : ByteArray) = ⟨(a ++ b).toArray⟩ := by
  apply ByteArray.ext; simp
theorem bytes_eq {a b : ByteArray} (h : a.data.toList = b.data.toList) : a = b := by
  apply ByteArray.ext; exact Array.toList_inj.1 h
theorem bytes_self (a : ByteArray) : (⟨a.data.toList.toArray⟩ : ByteArray) = a := bytes_eq (by simp)
theorem ret_val {a b : Value} (h : a = b) : Ending.returned a = .returned b := by rw [h]
end Av

/- The frame of a law's row: the arguments read behind the call as they read before, for nothing that lay there has turned. -/
namespace Go.Proofs.YtdagikbdpeblhaaGreatDoor
set_option maxRecDepth 100000
open Go.ChangeShapes Go.WideShapes Go.ChangeAt Go.RowKit Av

/-- Each parameter's type can be read and is a row of the table. -/
def rowedAll (P : Program) (ts : List TypeId) : Bool := ts.all fun t => P.readableRec t && decide (t < P.types.size)

theorem trodAll_ext {H : Type} {enc : TypeId × Value → H} {P : Program} (hl : laidOutB P = true) {W W' : World} (hb : Below W.heap.size W W') : ∀ {ts : List TypeId} {vs : List Value} {ds : List (DataW H)} {ps : List MemPlace}, rowedAll P ts = true →
    DataW.TrodAll enc P W 0 (fun _ => true) true ts vs ds ps → DataW.TrodAll enc P W' 0 (fun b => decide (b < W.heap.size)) true ts vs ds ps := by
  intro ts
  induction ts with
  | nil => intro vs ds ps _ h; obtain ⟨rfl, rfl, rfl⟩ := trodAll_nil h; rfl
  | cons t ts ih =>
    intro vs ds ps hr h
    simp only [rowedAll, List.all_cons, Bool.and_eq_true, decide_eq_true_eq] at hr
    obtain ⟨v, vs', d, ds', p, q, rfl, rfl, rfl, h1, h2⟩ := trodAll_cons h
    exact trodAll_cons_mk (Below.trod hl hr.1.1 hr.1.2 h1 hb (fun x hx => (DataW.TrodAll.lt (trodAll_mk1 h1)) x hx)) (ih hr.2 h2)

theorem gl_of_shape {W : World} (h : W.ShapedOpen Tryz.prog) : ∃ m : Int, W.cell? ⟨0, 0, none⟩ = some (.int .i64 m) := Tryz.laysM146.s1_3 W h
end Go.Proofs.YtdagikbdpeblhaaGreatDoor

/- The frame of a law's row, where the row lists tables. -/
namespace Go.Proofs.YtdagikbdpeblhaaGreatDoor
set_option maxRecDepth 100000
open Go.ChangeShapes Go.WideShapes Go.ChangeAt Go.RowKit Av

/-- WHAT A LAW's ROW COMES TO: one contract over arguments that can be read. -/
theorem law_lifted_laid {f : FuncId} {fn : Func} {s : ChangeSpec} {laid : List (String × DataW Unit)} {os : Os} (started : os.Started) {H : Type} {enc : TypeId × Value → H}
    (hnoInit : Tryz.prog.inits.idxOf? f = none) (hfn : Tryz.prog.funcs[f]? = some fn) (hvars : s.vars = []) (hres : fn.resultTypes = #[4]) (hrow : rowedAll Tryz.prog fn.params.toList = true)
    (hplain : (laid.all fun x => x.2.handleName?.isNone) = true) (hspec : ∀ ds : List (DataW H), ds.length = fn.params.toList.length → s.fn H ds = { results := [.lit (.bool true)], args := ds })
    (witness : ∃ (w : World) (tape : Tape) (i : Input), w.os = os ∧ (w.forCall tape i).Shaped Tryz.prog ∧ i.vars = [] ∧ Input.okWide Tryz.prog (w.forCall tape i) .any w.heap.size f i ∧
      ((s.pre enc Tryz.prog fn [] false (w.forCall tape i).memory i.args ∧ laidMetH Tryz.prog laid (w.forCall tape i).memory) ∧ sizedMet enc Tryz.prog fn (OpenSpec.ofChange s) false (w.forCall tape i).memory i.args) ∧ Assume.holds {} Tryz.prog (lone (Frame.enter Tryz.prog f i.args .normal) [] (w.forCall tape i)))
    (contract : ∀ (W : World) (base : Nat) (args : Array Value) (ds : List (DataW H)) (p : List MemPlace),
      (∀ (j : Nat) t v, fn.params[j]? = some t → args[j]? = some v → Value.okWide Tryz.prog W .any base t v) →
      DataW.TrodAll enc Tryz.prog W 0 (fun _ => true) true fn.params.toList args.toList ds p →
      W.ShapedOpen Tryz.prog → laidMet Tryz.prog laid W → Calls Tryz.prog f args W fun e W' => e = .returned (.bool true) ∧ Ext W W') :
    ReturnsInHanded {} Tryz.checked os f .any (fun w args => (s.pre enc Tryz.prog fn [] false w args ∧ laidMetH Tryz.prog laid w) ∧ sizedMet enc Tryz.prog fn (OpenSpec.ofChange s) false w args) (s.post enc Tryz.prog fn false true false false) := by
  have own : ownKnob Tryz.prog.godebug = none := by kernel_rfl
  refine returnsInHanded_of_calls own started hnoInit witness ?_
  intro w tape i _ hsh _ hok hpre _
  obtain ⟨_, _, _, fn', hfn', _, _, _, _, hval⟩ := hok
  have e : fn' = fn := Option.some.inj (hfn'.symm.trans hfn)
  subst e
  obtain ⟨⟨⟨ds, gs, before, hw, _⟩, hlaid⟩, _⟩ := hpre
  rw [MakeChecks.laidMetH_plain _ _ _ hplain] at hlaid
  have hw' := DataW.Whole.of_heap (w' := w.forCall tape i) (by rfl) hw
  have hW := hw'
  obtain ⟨p, q, hA, hV, rfl, _, _⟩ := hw'
  rw [hvars] at hV
  have hgs : gs = [] ∧ q = [] := trodVars_none hV
  obtain ⟨rfl, rfl⟩ := hgs
  have hlen : ds.length = fn'.params.toList.length := by
    have : ∀ {ts : List TypeId} {vs : List Value} {ds : List (DataW H)} {ps : List MemPlace}, DataW.TrodAll enc Tryz.prog (w.forCall tape i) 0 (fun _ => true) true ts vs ds ps → ds.length = ts.length := by
      intro ts
      induction ts with
      | nil => intro vs ds ps h; obtain ⟨rfl, rfl, rfl⟩ := trodAll_nil h; rfl
      | cons t ts ih => intro vs ds ps h; obtain ⟨v, vs', d, ds', p, q, rfl, rfl, rfl, h1, h2⟩ := trodAll_cons h; simp [ih h2]
    exact this hA
  refine (contract (w.forCall tape i) w.heap.size i.args ds p hval hA hsh (laidMet.of_heap (by rfl) hlaid)).mono fun e W' ⟨he, hx⟩ => ?_
  subst he
  refine ChangeSpec.post_blind ?_
  have hsp := hspec ds hlen
  refine ⟨ds, [], _, [], p, [], hW, ?_, ?_, ?_, (Kp.below hx).frame _, fun h => by cases h⟩
  · rw [List.append_nil, hsp, hres]; exact trodAll_mk1 (shut_bool Tryz.underlying4 _)
  · rw [List.append_nil, hsp]; exact trodAll_ext (by kernel_rfl) (Kp.below hx) hrow hA
  · rw [List.append_nil, hsp, hvars]; rfl


/-- The table of powers of ten, off the row's list. -/
theorem tab_of_laid {W : World} {laid : List (String × DataW Unit)} (h : laidMet Tryz.prog laid W) (hl : (laid.filter fun x => x.1 == "internal/strconv.uint64pow10") = [("internal/strconv.uint64pow10", Lib.tabData .u64 Lib.pow10Tab)]) :
    Lib.TabIs Tryz.prog W "internal/strconv.uint64pow10" .u64 Lib.pow10Tab := by
  have h2 := h.filter (fun x => x.1 == "internal/strconv.uint64pow10")
  rw [hl] at h2
  exact Lib.tabIs_of_head (g := 3) (t := 310) (e := 210) (n := 20) (by kernel_rfl) (by kernel_rfl) Tryz.underlying310 Tryz.underlying210 (by kernel_rfl) (by kernel_rfl) h2
end Go.Proofs.YtdagikbdpeblhaaGreatDoor

/- Paths as lists of bytes: what chapter 1 says, in plain Lean. No program. -/
namespace Av
set_option maxRecDepth 100000
abbrev Bs := List UInt8

def sign (c : UInt8) : Bool := decide (33 ≤ c) && decide (c ≤ 126)
/-- May a text without strokes be a name? -/
def nameL (l : Bs) : Bool := l.all sign && decide (1 ≤ l.length) && decide (l.length ≤ 40) && (l != [46]) && (l != [46, 46])
/-- A text cut at each stroke. -/
def cut : Bs → List Bs
  | [] => [[]]
  | c :: t => if c = 47 then [] :: cut t else match cut t with
    | h :: r => (c :: h) :: r
    | [] => [[c]]
theorem cut_ne (l : Bs) : cut l ≠ [] := by
  cases l with
  | nil => simp [cut]
  | cons c t =>
    unfold cut
    split
    · simp
    · split <;> simp
theorem cut_length_pos (l : Bs) : 1 ≤ (cut l).length := by
  have := cut_ne l
  cases h : cut l with
  | nil => exact absurd h this
  | cons a b => simp
/-- One more byte behind. -/
theorem cut_snoc_stroke (l : Bs) : cut (l ++ [47]) = cut l ++ [[]] := by
  induction l with
  | nil => simp [cut]
  | cons c t ih =>
    simp only [List.cons_append, cut, ih]
    by_cases h : c = 47
    · simp [h]
    · simp only [h, if_false]
      cases ht : cut t with
      | nil => exact absurd ht (cut_ne t)
      | cons a b => simp
theorem cut_snoc (l : Bs) (c : UInt8) (h : c ≠ 47) : ∃ i x, cut l = i ++ [x] ∧ cut (l ++ [c]) = i ++ [x ++ [c]] := by
  induction l with
  | nil => exact ⟨[], [], by simp [cut], by simp [cut, h]⟩
  | cons d t ih =>
    obtain ⟨i, x, e1, e2⟩ := ih
    by_cases hd : d = 47
    · exact ⟨[] :: i, x, by simp [cut, hd, e1], by simp [cut, hd, e2]⟩
    · cases i with
      | nil => exact ⟨[], d :: x, by simp [cut, hd, e1], by simp [cut, hd, e2]⟩
      | cons a i => exact ⟨(d :: a) :: i, x, by simp [cut, hd, e1], by simp [cut, hd, e2]⟩
theorem cut_length (l : Bs) : (cut l).length = l.count 47 + 1 := by
  induction l with
  | nil => simp [cut]
  | cons c t ih =>
    unfold cut
    by_cases h : c = 47
    · subst h; simp [ih]
    · simp only [h, if_false]
      cases ht : cut t with
      | nil => exact absurd ht (cut_ne t)
      | cons a b => simp only [ht, List.length_cons] at ih ⊢; rw [List.count_cons_of_ne (by simpa using h)]; exact ih
/-- No piece holds a stroke. -/
theorem cut_free (l : Bs) : ∀ s ∈ cut l, (47 : UInt8) ∉ s := by
  induction l with
  | nil => simp [cut]
  | cons c t ih =>
    unfold cut
    by_cases h : c = 47
    · simp only [h, if_true, List.mem_cons]
      rintro s (rfl | hs)
      · simp
      · exact ih s hs
    · simp only [h, if_false]
      cases ht : cut t with
      | nil => exact absurd ht (cut_ne t)
      | cons a b =>
        intro s hs
        simp only [List.mem_cons] at hs
        rcases hs with rfl | hs
        · have := ih a (by rw [ht]; simp)
          simp only [List.mem_cons, not_or]; exact ⟨fun e => h e.symm, this⟩
        · exact ih s (by rw [ht]; simp [hs])
theorem cut_len_le (l : Bs) : ∀ s ∈ cut l, s.length ≤ l.length := by
  induction l with
  | nil => simp [cut]
  | cons c t ih =>
    unfold cut
    by_cases h : c = 47
    · simp only [h, if_true, List.mem_cons, List.length_cons]
      rintro s (rfl | hs)
      · simp
      · have := ih s hs; omega
    · simp only [h, if_false]
      cases ht : cut t with
      | nil => exact absurd ht (cut_ne t)
      | cons a b =>
        intro s hs
        simp only [List.mem_cons] at hs
        rcases hs with rfl | hs
        · have := ih a (by rw [ht]; simp); simp; omega
        · have := ih s (by rw [ht]; simp [hs]); simp; omega
theorem splitK_cons (k : Nat) (c : UInt8) (t : Bs) (h : c ≠ 47) : ∃ a b, Go.Lib.splitK [47] 0 k t = a :: b ∧ Go.Lib.splitK [47] 0 k (c :: t) = (c :: a) :: b := by
  cases k with
  | zero => exact ⟨t, [], rfl, rfl⟩
  | succ k =>
    have hp : List.isPrefixOf [47] (c :: t) = false := by
      simp only [List.isPrefixOf, Bool.and_true]
      simpa using fun e => h e.symm
    have hi : Go.Lib.index (c :: t) [47] = if Go.Lib.index t [47] == -1 then -1 else Go.Lib.index t [47] + 1 := by
      simp only [Go.Lib.index, hp]; rfl
    have hge := Go.Lib.index_ge t [47]
    unfold Go.Lib.splitK
    by_cases hm : Go.Lib.index t [47] = -1
    · simp [hm, hi]
    · have e1 : (Go.Lib.index t [47] == -1) = false := by simpa using hm
      have e2 : (Go.Lib.index t [47] + 1 == -1) = false := by simp; omega
      have e3 : (Go.Lib.index t [47] + 1).toNat = (Go.Lib.index t [47]).toNat + 1 := by omega
      simp [hi, e1, e2, e3]
theorem splitK_cut : ∀ (s : Bs) (k : Nat), s.count 47 = k → Go.Lib.splitK [47] 0 k s = cut s := by
  intro s
  induction s with
  | nil => intro k h; simp at h; subst h; simp [Go.Lib.splitK, cut]
  | cons c t ih =>
    intro k h
    by_cases hc : c = 47
    · subst hc
      simp at h
      subst h
      have hi : Go.Lib.index (47 :: t) [47] = 0 := by simp [Go.Lib.index, List.isPrefixOf]
      unfold Go.Lib.splitK cut
      simp [hi, ih _ rfl]
    · have hk : t.count 47 = k := by rw [List.count_cons_of_ne (by simpa using hc)] at h; exact h
      obtain ⟨a, b, e1, e2⟩ := splitK_cons k c t hc
      rw [e2]
      have := ih k hk
      rw [e1] at this
      unfold cut
      simp [hc, ← this]

/-- Is a text a path? -/
def goodL (p : Bs) : Bool := match p with
  | [] => false
  | c :: t => (c == 47) && decide (p.length ≤ 200) && (cut t).all nameL && decide ((cut t).length ≤ 8)
def partsL (p : Bs) : List Bs := if goodL p then cut (p.drop 1) else []
def ofL (l : List Bs) : Bs := l.flatMap fun s => 47 :: s
def parentL (p : Bs) : Option Bs := if (partsL p).length < 2 then none else some (ofL (partsL p).dropLast)
def topL (p : Bs) : Bs := (partsL p).headD []
def lastL (p : Bs) : Bs := (partsL p).getLastD []

theorem good_iff_parts (p : Bs) : goodL p = true ↔ partsL p ≠ [] := by
  unfold partsL
  by_cases h : goodL p = true
  · simp [h, cut_ne]
  · simp [h]
theorem good_head (p : Bs) (h : goodL p = true) : ∃ t, p = 47 :: t ∧ t.length < 200 ∧ (cut t).all nameL = true ∧ (cut t).length ≤ 8 ∧ partsL p = cut t := by
  cases p with
  | nil => simp [goodL] at h
  | cons c t =>
    have h' := h
    simp only [goodL, Bool.and_eq_true, decide_eq_true_eq, beq_iff_eq, List.length_cons] at h'
    obtain ⟨⟨⟨rfl, h2⟩, h3⟩, h4⟩ := h'
    exact ⟨t, rfl, by omega, h3, h4, by simp [partsL, h]⟩
theorem parts_len (p : Bs) : (partsL p).length ≤ 8 := by
  by_cases h : goodL p = true
  · obtain ⟨t, rfl, _, _, h4, h5⟩ := good_head p h
    rw [h5]; exact h4
  · simp [partsL, h]
theorem parts_name (p : Bs) : ∀ s ∈ partsL p, nameL s = true ∧ (47 : UInt8) ∉ s := by
  by_cases h : goodL p = true
  · obtain ⟨t, rfl, _, h3, _, h5⟩ := good_head p h
    rw [h5]
    intro s hs
    exact ⟨List.all_eq_true.1 h3 s hs, cut_free t s hs⟩
  · simp [partsL, h]
theorem join_ofL : ∀ (l : List Bs), l ≠ [] → 47 :: Go.Lib.join l [47] = ofL l
  | [], h => absurd rfl h
  | [x], _ => by simp [Go.Lib.join, List.intercalate, ofL]
  | x :: y :: r, _ => by
    have ih := join_ofL (y :: r) (by simp)
    have e : Go.Lib.join (x :: y :: r) [47] = x ++ 47 :: Go.Lib.join (y :: r) [47] := by simp [Go.Lib.join, List.intercalate]
    rw [e, ih]
    simp [ofL]
theorem ofL_dropLast (l : List Bs) : (ofL l.dropLast).length ≤ (ofL l).length := by
  unfold ofL
  rw [List.length_flatMap, List.length_flatMap]
  cases h : l.getLast? with
  | none => rw [List.getLast?_eq_none_iff.1 h]; simp
  | some x =>
    obtain ⟨i, rfl⟩ := List.getLast?_eq_some_iff.1 h
    simp
theorem ofL_cut (t : Bs) : ofL (cut t) = 47 :: t := by
  induction t with
  | nil => simp [cut, ofL]
  | cons c t ih =>
    unfold cut
    by_cases h : c = 47
    · subst h
      simp only [if_true, ofL, List.flatMap_cons, List.singleton_append] at ih ⊢
      rw [ih]
    · simp only [h, if_false]
      cases ht : cut t with
      | nil => exact absurd ht (cut_ne t)
      | cons a b =>
        rw [ht] at ih
        simp only [ofL, List.flatMap_cons, List.cons_append, List.cons.injEq, true_and] at ih ⊢
        rw [ih]
theorem good_cons' (t : Bs) (h : t.length < 200) : goodL (47 :: t) = ((cut t).all nameL && decide ((cut t).length ≤ 8)) := by
  have : decide ((47 :: t).length ≤ 200) = true := by simp; omega
  simp only [goodL, this, beq_self_eq_true, Bool.true_and]
theorem good_len (p : Bs) (h : goodL p = true) : 2 ≤ p.length ∧ p.length ≤ 200 := by
  obtain ⟨t, rfl, h1, h2, _, _⟩ := good_head p h
  refine ⟨?_, by simp; omega⟩
  cases t with
  | nil => simp [cut, nameL] at h2
  | cons c t => simp
theorem ofL_parts (p : Bs) (h : goodL p = true) : ofL (partsL p) = p := by
  obtain ⟨t, rfl, _, _, _, h5⟩ := good_head p h
  rw [h5, ofL_cut]
theorem parent_len (p : Bs) : (ofL (partsL p).dropLast).length ≤ 200 := by
  by_cases h : goodL p = true
  · have h1 := ofL_dropLast (partsL p)
    rw [ofL_parts p h] at h1
    have := good_len p h
    omega
  · simp [partsL, h, ofL]
theorem cut_names : ∀ (l : List Bs), l ≠ [] → (∀ s ∈ l, (47 : UInt8) ∉ s) → cut ((ofL l).drop 1) = l
  | [], h, _ => absurd rfl h
  | [s], hne, h => by
    have hs := h s (by simp)
    simp only [ofL, List.flatMap_cons, List.flatMap_nil, List.append_nil, List.drop_succ_cons, List.drop_zero]
    clear h hne
    induction s with
    | nil => rfl
    | cons c t ih =>
      simp only [List.mem_cons, not_or] at hs
      have hc : ¬ c = 47 := fun e => hs.1 e.symm
      simp [cut, hc, ih hs.2]
  | s :: y :: r, hne, h => by
    have ih := cut_names (y :: r) (by simp) (fun x hx => h x (List.mem_cons_of_mem _ hx))
    have hs := h s (by simp)
    have e : (ofL (s :: y :: r)).drop 1 = s ++ 47 :: (ofL (y :: r)).drop 1 := by simp [ofL]
    rw [e]
    clear h e hne
    generalize (ofL (y :: r)).drop 1 = z at ih ⊢
    induction s with
    | nil => simp [cut, ih]
    | cons c t ih2 =>
      simp only [List.mem_cons, not_or] at hs
      have hc : ¬ c = 47 := fun e => hs.1 e.symm
      simp only [List.cons_append, cut, hc, if_false, ih2 hs.2]
theorem ofL_head (l : List Bs) (h : l ≠ []) : ofL l = 47 :: (ofL l).drop 1 := by
  cases l with
  | nil => exact absurd rfl h
  | cons a b => simp [ofL]
/-- A path of names is a path, and these are its names. -/
theorem parts_of_names (l : List Bs) (h : l ≠ []) (hn : ∀ s ∈ l, nameL s = true) (hf : ∀ s ∈ l, (47 : UInt8) ∉ s) (h8 : l.length ≤ 8) (hl : (ofL l).length ≤ 200) : goodL (ofL l) = true ∧ partsL (ofL l) = l := by
  have hc := cut_names l h hf
  have hg : goodL (ofL l) = true := by
    obtain ⟨t, ht⟩ : ∃ t, ofL l = 47 :: t := ⟨_, ofL_head l h⟩
    rw [ht] at hl hc ⊢
    simp only [List.drop_succ_cons, List.drop_zero] at hc
    simp only [List.length_cons] at hl
    rw [good_cons' _ (by omega), hc]
    simp only [Bool.and_eq_true, decide_eq_true_eq]
    exact ⟨List.all_eq_true.2 hn, h8⟩
  exact ⟨hg, by unfold partsL; rw [hg, if_pos rfl]; exact hc⟩
theorem parent_good (p : Bs) (h2 : 2 ≤ (partsL p).length) : goodL (ofL (partsL p).dropLast) = true ∧ partsL (ofL (partsL p).dropLast) = (partsL p).dropLast := by
  have hne : (partsL p).dropLast ≠ [] := by intro e; have := congrArg List.length e; simp at this; omega
  have hmem : ∀ s ∈ (partsL p).dropLast, s ∈ partsL p := fun s hs => List.dropLast_subset _ hs
  exact parts_of_names _ hne (fun s hs => (parts_name p s (hmem s hs)).1) (fun s hs => (parts_name p s (hmem s hs)).2) (by have := parts_len p; simp; omega) (parent_len p)
theorem top_parent (p q : Bs) (h : parentL p = some q) : topL q = topL p ∧ goodL q = true ∧ (partsL q).length + 1 = (partsL p).length := by
  unfold parentL at h
  split at h
  · cases h
  · rename_i h2
    simp only [Option.some.injEq] at h
    subst h
    obtain ⟨h3, h4⟩ := parent_good p (by omega)
    refine ⟨?_, h3, by rw [h4]; simp; omega⟩
    unfold topL
    rw [h4]
    cases hp : partsL p with
    | nil => simp [hp] at h2
    | cons a b =>
      cases b with
      | nil => simp [hp] at h2
      | cons c d => rfl
end Av
