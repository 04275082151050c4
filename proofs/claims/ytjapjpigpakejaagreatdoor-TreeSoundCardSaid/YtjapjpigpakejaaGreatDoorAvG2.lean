/- Texts put together: AvFrame, AvFrameL. -/
import Derived.Test.YtjapjpigpakejaaGreatDoorRows
import Derived.Test.YtjapjpigpakejaaGreatDoorTie
import Derived.Test.YtjapjpigpakejaaGreatDoorCards
import Derived.Test.YtjapjpigpakejaaGreatDoorShelf
import Derived.Test.YtjapjpigpakejaaGreatDoorAvBase
import Derived.ProofKit
import Derived.OpenShut
import Derived.LaidMore
import Derived.Lay
import Derived.SevenTiedAt
import Derived.HandedShaped
import Derived.Carry
import Derived.ChangeOld
import Derived.SliceStrings
import Derived.WideShapes
import Derived.Handed
import Derived.LaidSub
import Derived.Lib.LaidTab

/- The frame of a law's row: the arguments read behind the call as they read before, for nothing that lay there has turned. -/
namespace Go.Proofs.YtjapjpigpakejaaGreatDoor
set_option maxRecDepth 100000
open Go.ChangeShapes Go.WideShapes Go.ChangeAt Go.RowKit Av

/-- Each parameter's type can be read and is a row of the table. -/
def rowedAll (P : Program) (ts : List TypeId) : Bool := ts.all fun t => P.readableRec t && decide (t < P.types.size)

theorem trodAll_ext {H : Type} {enc : TypeId × Value → H} {P : Program} (hl : laidOutB P = true) {W W' : World} (hb : Below W.heap.size W W') : ∀ {ts : List TypeId} {vs : List Value} {ds : List (DataW H)} {ps : List MemPlace}, rowedAll P ts = true →
    DataW.TrodAll enc P W 0 (fun _ => true) true ts vs ds ps → DataW.TrodAll enc P W' 0 (fun b => decide (b < W.heap.size)) true ts vs ds ps := by
  intro ts
  induction ts with
  | nil => intro vs ds ps _ h; obtain ⟨rfl, rfl, rfl⟩ := trodAll_nil h; rfl
  | cons t ts ih =>
    intro vs ds ps hr h
    simp only [rowedAll, List.all_cons, Bool.and_eq_true, decide_eq_true_eq] at hr
    obtain ⟨v, vs', d, ds', p, q, rfl, rfl, rfl, h1, h2⟩ := trodAll_cons h
    exact trodAll_cons_mk (Below.trod hl hr.1.1 hr.1.2 h1 hb (fun x hx => (DataW.TrodAll.lt (trodAll_mk1 h1)) x hx)) (ih hr.2 h2)

/-- WHAT A LAW's ROW COMES TO: one contract over arguments that can be read. -/
theorem law_lifted {f : FuncId} {fn : Func} {s : ChangeSpec} {laid : List (String × DataW Unit)} {os : Os} (started : os.Started) {H : Type} {enc : TypeId × Value → H}
    (hnoInit : Tryz.prog.inits.idxOf? f = none) (hfn : Tryz.prog.funcs[f]? = some fn) (hvars : s.vars = []) (hres : fn.resultTypes = #[4]) (hrow : rowedAll Tryz.prog fn.params.toList = true)
    (hspec : ∀ ds : List (DataW H), ds.length = fn.params.toList.length → s.fn H ds = { results := [.lit (.bool true)], args := ds })
    (witness : ∃ (w : World) (tape : Tape) (i : Input), w.os = os ∧ (w.forCall tape i).Shaped Tryz.prog ∧ i.vars = [] ∧ Input.okWide Tryz.prog (w.forCall tape i) .any w.heap.size f i ∧
      ((s.pre enc Tryz.prog fn [] false (w.forCall tape i).memory i.args ∧ laidMetH Tryz.prog laid (w.forCall tape i).memory) ∧ sizedMet enc Tryz.prog fn (OpenSpec.ofChange s) false (w.forCall tape i).memory i.args) ∧ Assume.holds {} Tryz.prog (lone (Frame.enter Tryz.prog f i.args .normal) [] (w.forCall tape i)))
    (contract : ∀ (W : World) (base : Nat) (args : Array Value) (ds : List (DataW H)) (p : List MemPlace),
      (∀ (j : Nat) t v, fn.params[j]? = some t → args[j]? = some v → Value.okWide Tryz.prog W .any base t v) →
      DataW.TrodAll enc Tryz.prog W 0 (fun _ => true) true fn.params.toList args.toList ds p →
      W.ShapedOpen Tryz.prog → Calls Tryz.prog f args W fun e W' => e = .returned (.bool true) ∧ Ext W W') :
    ReturnsInHanded {} Tryz.checked os f .any (fun w args => (s.pre enc Tryz.prog fn [] false w args ∧ laidMetH Tryz.prog laid w) ∧ sizedMet enc Tryz.prog fn (OpenSpec.ofChange s) false w args) (s.post enc Tryz.prog fn false true false false) := by
  have own : ownKnob Tryz.prog.godebug = none := by kernel_rfl
  refine returnsInHanded_of_calls own started hnoInit witness ?_
  intro w tape i _ hsh _ hok hpre _
  obtain ⟨_, _, _, fn', hfn', _, _, _, _, hval⟩ := hok
  have e : fn' = fn := Option.some.inj (hfn'.symm.trans hfn)
  subst e
  obtain ⟨⟨⟨ds, gs, before, hw, _⟩, _⟩, _⟩ := hpre
  have hw' := DataW.Whole.of_heap (w' := w.forCall tape i) (by rfl) hw
  have hW := hw'
  obtain ⟨p, q, hA, hV, rfl, _, _⟩ := hw'
  rw [hvars] at hV
  have hgs : gs = [] ∧ q = [] := trodVars_none hV
  obtain ⟨rfl, rfl⟩ := hgs
  have hlen : ds.length = fn'.params.toList.length := by
    have : ∀ {ts : List TypeId} {vs : List Value} {ds : List (DataW H)} {ps : List MemPlace}, DataW.TrodAll enc Tryz.prog (w.forCall tape i) 0 (fun _ => true) true ts vs ds ps → ds.length = ts.length := by
      intro ts
      induction ts with
      | nil => intro vs ds ps h; obtain ⟨rfl, rfl, rfl⟩ := trodAll_nil h; rfl
      | cons t ts ih => intro vs ds ps h; obtain ⟨v, vs', d, ds', p, q, rfl, rfl, rfl, h1, h2⟩ := trodAll_cons h; simp [ih h2]
    exact this hA
  refine (contract (w.forCall tape i) w.heap.size i.args ds p hval hA hsh).mono fun e W' ⟨he, hx⟩ => ?_
  subst he
  refine ChangeSpec.post_blind ?_
  have hsp := hspec ds hlen
  refine ⟨ds, [], _, [], p, [], hW, ?_, ?_, ?_, (Kp.below hx).frame _, fun h => by cases h⟩
  · rw [List.append_nil, hsp, hres]; exact trodAll_mk1 (shut_bool Tryz.underlying4 _)
  · rw [List.append_nil, hsp]; exact trodAll_ext (by kernel_rfl) (Kp.below hx) hrow hA
  · rw [List.append_nil, hsp, hvars]; rfl

theorem gl_of_shape {W : World} (h : W.ShapedOpen Tryz.prog) : ∃ m : Int, W.cell? ⟨0, 0, none⟩ = some (.int .i64 m) := Tryz.laysM146.s1_3 W h
theorem strs_of_trod {P : Program} {H : Type} {enc : TypeId × Value → H} {W : World} {t e : TypeId} {a0 : Option Addr} {len cap n : Nat} {x : DataW H × List MemPlace} (ht : P.underlying t = some (.slice e)) (he : P.underlying e = some .string) (hc : P.cellsOf e = 1)
    (h : DataW.trod enc P W 0 (fun _ => true) true n t [.slice a0 len cap] = some x) : ∃ ss : List ByteArray, Strs W (.slice a0 len cap) ss ∧ ∀ x ∈ ss, x.size ≤ maxLen := by
  rcases open_strings ht he hc h with ⟨hcs, hx⟩ | ⟨a, len', cap', ss, hcs, _, hl, hm, hz, hx, hcell, hss⟩
  · simp at hcs
    obtain ⟨rfl, rfl, rfl⟩ := hcs
    exact ⟨[], Strs.nil _, by simp⟩
  · simp at hcs
    obtain ⟨rfl, rfl, rfl⟩ := hcs
    simp only [if_true] at hz
    have hlen : (ss.take len).length = len := by simp; omega
    refine ⟨ss.take len, ?_, fun x hx => hss x (List.mem_of_mem_take hx)⟩
    refine ⟨by simp, by omega, some a, cap, by rw [hlen], by omega, ?_⟩
    by_cases h0 : len = 0
    · exact .inl (by omega)
    · right
      obtain ⟨b, off, spot⟩ := a
      have hspot : spot = none := by simpa [Addr.add] using World.cell?_spot (hcell 0 (by omega))
      subst hspot
      refine ⟨b, off, rfl, World.block_lt_of_cell? _ _ (hcell 0 (by omega)), fun i x hx => ?_⟩
      rw [List.getElem?_map, Option.map_eq_some_iff] at hx
      obtain ⟨y, hy, rfl⟩ := hx
      have hi : i < len := by
        have := (List.getElem?_eq_some_iff.1 hy).1
        omega
      have hX' : ss.getD i ByteArray.empty = y := by
        rw [List.getElem?_take_of_lt hi] at hy
        simp [List.getD, hy]
      have := hcell i (by omega)
      rw [hX'] at this
      rwa [add_plain] at this
/-- A slice of strings that came in. -/
theorem arg_strings {P : Program} {H : Type} {enc : TypeId × Value → H} {W : World} {base : Nat} {r : Reach} {t e : TypeId} {v : Value} {d : DataW H} {p : List MemPlace} (ht : P.underlying t = some (.slice e)) (he : P.underlying e = some .string) (hc : P.cellsOf e = 1)
    (hv : Value.okWide P W r base t v) (h : DataW.Trod enc P W 0 (fun _ => true) true t v d p) : ∃ ss : List ByteArray, Strs W v ss ∧ ∀ x ∈ ss, x.size ≤ maxLen := by
  obtain ⟨a0, len, cap, rfl⟩ := okWide_slice ht hv
  obtain ⟨n, h⟩ := h
  exact strs_of_trod ht he hc h
end Go.Proofs.YtjapjpigpakejaaGreatDoor

/- The frame of a law's row, where the row lists tables. -/
namespace Go.Proofs.YtjapjpigpakejaaGreatDoor
set_option maxRecDepth 100000
open Go.ChangeShapes Go.WideShapes Go.ChangeAt Go.RowKit Av

/-- WHAT A LAW's ROW COMES TO: one contract over arguments that can be read. -/
theorem law_lifted_laid {f : FuncId} {fn : Func} {s : ChangeSpec} {laid : List (String × DataW Unit)} {os : Os} (started : os.Started) {H : Type} {enc : TypeId × Value → H}
    (hnoInit : Tryz.prog.inits.idxOf? f = none) (hfn : Tryz.prog.funcs[f]? = some fn) (hvars : s.vars = []) (hres : fn.resultTypes = #[4]) (hrow : rowedAll Tryz.prog fn.params.toList = true)
    (hplain : (laid.all fun x => x.2.handleName?.isNone) = true) (hspec : ∀ ds : List (DataW H), ds.length = fn.params.toList.length → s.fn H ds = { results := [.lit (.bool true)], args := ds })
    (witness : ∃ (w : World) (tape : Tape) (i : Input), w.os = os ∧ (w.forCall tape i).Shaped Tryz.prog ∧ i.vars = [] ∧ Input.okWide Tryz.prog (w.forCall tape i) .any w.heap.size f i ∧
      ((s.pre enc Tryz.prog fn [] false (w.forCall tape i).memory i.args ∧ laidMetH Tryz.prog laid (w.forCall tape i).memory) ∧ sizedMet enc Tryz.prog fn (OpenSpec.ofChange s) false (w.forCall tape i).memory i.args) ∧ Assume.holds {} Tryz.prog (lone (Frame.enter Tryz.prog f i.args .normal) [] (w.forCall tape i)))
    (contract : ∀ (W : World) (base : Nat) (args : Array Value) (ds : List (DataW H)) (p : List MemPlace),
      (∀ (j : Nat) t v, fn.params[j]? = some t → args[j]? = some v → Value.okWide Tryz.prog W .any base t v) →
      DataW.TrodAll enc Tryz.prog W 0 (fun _ => true) true fn.params.toList args.toList ds p →
      W.ShapedOpen Tryz.prog → laidMet Tryz.prog laid W → Calls Tryz.prog f args W fun e W' => e = .returned (.bool true) ∧ Ext W W') :
    ReturnsInHanded {} Tryz.checked os f .any (fun w args => (s.pre enc Tryz.prog fn [] false w args ∧ laidMetH Tryz.prog laid w) ∧ sizedMet enc Tryz.prog fn (OpenSpec.ofChange s) false w args) (s.post enc Tryz.prog fn false true false false) := by
  have own : ownKnob Tryz.prog.godebug = none := by kernel_rfl
  refine returnsInHanded_of_calls own started hnoInit witness ?_
  intro w tape i _ hsh _ hok hpre _
  obtain ⟨_, _, _, fn', hfn', _, _, _, _, hval⟩ := hok
  have e : fn' = fn := Option.some.inj (hfn'.symm.trans hfn)
  subst e
  obtain ⟨⟨⟨ds, gs, before, hw, _⟩, hlaid⟩, _⟩ := hpre
  rw [MakeChecks.laidMetH_plain _ _ _ hplain] at hlaid
  have hw' := DataW.Whole.of_heap (w' := w.forCall tape i) (by rfl) hw
  have hW := hw'
  obtain ⟨p, q, hA, hV, rfl, _, _⟩ := hw'
  rw [hvars] at hV
  have hgs : gs = [] ∧ q = [] := trodVars_none hV
  obtain ⟨rfl, rfl⟩ := hgs
  have hlen : ds.length = fn'.params.toList.length := by
    have : ∀ {ts : List TypeId} {vs : List Value} {ds : List (DataW H)} {ps : List MemPlace}, DataW.TrodAll enc Tryz.prog (w.forCall tape i) 0 (fun _ => true) true ts vs ds ps → ds.length = ts.length := by
      intro ts
      induction ts with
      | nil => intro vs ds ps h; obtain ⟨rfl, rfl, rfl⟩ := trodAll_nil h; rfl
      | cons t ts ih => intro vs ds ps h; obtain ⟨v, vs', d, ds', p, q, rfl, rfl, rfl, h1, h2⟩ := trodAll_cons h; simp [ih h2]
    exact this hA
  refine (contract (w.forCall tape i) w.heap.size i.args ds p hval hA hsh (laidMet.of_heap (by rfl) hlaid)).mono fun e W' ⟨he, hx⟩ => ?_
  subst he
  refine ChangeSpec.post_blind ?_
  have hsp := hspec ds hlen
  refine ⟨ds, [], _, [], p, [], hW, ?_, ?_, ?_, (Kp.below hx).frame _, fun h => by cases h⟩
  · rw [List.append_nil, hsp, hres]; exact trodAll_mk1 (shut_bool Tryz.underlying4 _)
  · rw [List.append_nil, hsp]; exact trodAll_ext (by kernel_rfl) (Kp.below hx) hrow hA
  · rw [List.append_nil, hsp, hvars]; rfl


/-- The table of powers of ten, off the row's list. -/
theorem tab_of_laid {W : World} {laid : List (String × DataW Unit)} (h : laidMet Tryz.prog laid W) (hl : (laid.filter fun x => x.1 == "internal/strconv.uint64pow10") = [("internal/strconv.uint64pow10", Lib.tabData .u64 Lib.pow10Tab)]) :
    Lib.TabIs Tryz.prog W "internal/strconv.uint64pow10" .u64 Lib.pow10Tab := by
  have h2 := h.filter (fun x => x.1 == "internal/strconv.uint64pow10")
  rw [hl] at h2
  exact Lib.tabIs_of_head (g := 3) (t := 206) (e := 124) (n := 20) (by kernel_rfl) (by kernel_rfl) Tryz.underlying206 Tryz.underlying124 (by kernel_rfl) (by kernel_rfl) h2
end Go.Proofs.YtjapjpigpakejaaGreatDoor
