/- The frame of a law's row, where the row lists tables. -/
import Derived.Test.YtkpcmbgnaenbhaaDoorAvFrame
import Derived.Handed
import Derived.LaidSub
import Derived.Lib.LaidTab
namespace Go.Proofs.YtkpcmbgnaenbhaaDoor
set_option maxRecDepth 100000
open Go.ChangeShapes Go.WideShapes Go.ChangeAt Go.RowKit Av

/-- WHAT A LAW's ROW COMES TO: one contract over arguments that can be read. -/
theorem law_lifted_laid {f : FuncId} {fn : Func} {s : ChangeSpec} {laid : List (String × DataW Unit)} {os : Os} (started : os.Started) {H : Type} {enc : TypeId × Value → H}
    (hnoInit : Tryd.prog.inits.idxOf? f = none) (hfn : Tryd.prog.funcs[f]? = some fn) (hvars : s.vars = []) (hres : fn.resultTypes = #[4]) (hrow : rowedAll Tryd.prog fn.params.toList = true)
    (hplain : (laid.all fun x => x.2.handleName?.isNone) = true) (hspec : ∀ ds : List (DataW H), ds.length = fn.params.toList.length → s.fn H ds = { results := [.lit (.bool true)], args := ds })
    (witness : ∃ (w : World) (tape : Tape) (i : Input), w.os = os ∧ (w.forCall tape i).Shaped Tryd.prog ∧ i.vars = [] ∧ Input.okWide Tryd.prog (w.forCall tape i) .any w.heap.size f i ∧
      ((s.pre enc Tryd.prog fn [] false (w.forCall tape i).memory i.args ∧ laidMetH Tryd.prog laid (w.forCall tape i).memory) ∧ sizedMet enc Tryd.prog fn (OpenSpec.ofChange s) false (w.forCall tape i).memory i.args) ∧ Assume.holds {} Tryd.prog (lone (Frame.enter Tryd.prog f i.args .normal) [] (w.forCall tape i)))
    (contract : ∀ (W : World) (base : Nat) (args : Array Value) (ds : List (DataW H)) (p : List MemPlace),
      (∀ (j : Nat) t v, fn.params[j]? = some t → args[j]? = some v → Value.okWide Tryd.prog W .any base t v) →
      DataW.TrodAll enc Tryd.prog W 0 (fun _ => true) true fn.params.toList args.toList ds p →
      W.ShapedOpen Tryd.prog → laidMet Tryd.prog laid W → Calls Tryd.prog f args W fun e W' => e = .returned (.bool true) ∧ Ext W W') :
    ReturnsInHanded {} Tryd.checked os f .any (fun w args => (s.pre enc Tryd.prog fn [] false w args ∧ laidMetH Tryd.prog laid w) ∧ sizedMet enc Tryd.prog fn (OpenSpec.ofChange s) false w args) (s.post enc Tryd.prog fn false true false false) := by
  have own : ownKnob Tryd.prog.godebug = none := by kernel_rfl
  refine returnsInHanded_of_calls own started hnoInit witness ?_
  intro w tape i _ hsh _ hok hpre _
  obtain ⟨_, _, _, fn', hfn', _, _, _, _, hval⟩ := hok
  have e : fn' = fn := Option.some.inj (hfn'.symm.trans hfn)
  subst e
  obtain ⟨⟨⟨ds, gs, before, hw, _⟩, hlaid⟩, _⟩ := hpre
  rw [MakeChecks.laidMetH_plain _ _ _ hplain] at hlaid
  have hw' := DataW.Whole.of_heap (w' := w.forCall tape i) (by rfl) hw
  have hW := hw'
  obtain ⟨p, q, hA, hV, rfl, _, _⟩ := hw'
  rw [hvars] at hV
  have hgs : gs = [] ∧ q = [] := trodVars_none hV
  obtain ⟨rfl, rfl⟩ := hgs
  have hlen : ds.length = fn'.params.toList.length := by
    have : ∀ {ts : List TypeId} {vs : List Value} {ds : List (DataW H)} {ps : List MemPlace}, DataW.TrodAll enc Tryd.prog (w.forCall tape i) 0 (fun _ => true) true ts vs ds ps → ds.length = ts.length := by
      intro ts
      induction ts with
      | nil => intro vs ds ps h; obtain ⟨rfl, rfl, rfl⟩ := trodAll_nil h; rfl
      | cons t ts ih => intro vs ds ps h; obtain ⟨v, vs', d, ds', p, q, rfl, rfl, rfl, h1, h2⟩ := trodAll_cons h; simp [ih h2]
    exact this hA
  refine (contract (w.forCall tape i) w.heap.size i.args ds p hval hA hsh (laidMet.of_heap (by rfl) hlaid)).mono fun e W' ⟨he, hx⟩ => ?_
  subst he
  refine ChangeSpec.post_blind ?_
  have hsp := hspec ds hlen
  refine ⟨ds, [], _, [], p, [], hW, ?_, ?_, ?_, (Kp.below hx).frame _, fun h => by cases h⟩
  · rw [List.append_nil, hsp, hres]; exact trodAll_mk1 (shut_bool Tryd.underlying4 _)
  · rw [List.append_nil, hsp]; exact trodAll_ext (by kernel_rfl) (Kp.below hx) hrow hA
  · rw [List.append_nil, hsp, hvars]; rfl


/-- The table of powers of ten, off the row's list. -/
theorem tab_of_laid {W : World} {laid : List (String × DataW Unit)} (h : laidMet Tryd.prog laid W) (hl : (laid.filter fun x => x.1 == "internal/strconv.uint64pow10") = [("internal/strconv.uint64pow10", Lib.tabData .u64 Lib.pow10Tab)]) :
    Lib.TabIs Tryd.prog W "internal/strconv.uint64pow10" .u64 Lib.pow10Tab := by
  have h2 := h.filter (fun x => x.1 == "internal/strconv.uint64pow10")
  rw [hl] at h2
  exact Lib.tabIs_of_head (g := 1) (t := 120) (e := 102) (n := 20) (by kernel_rfl) (by kernel_rfl) Tryd.underlying120 Tryd.underlying102 (by kernel_rfl) (by kernel_rfl) h2
end Go.Proofs.YtkpcmbgnaenbhaaDoor
