/- Texts put together: AvLaw21V, AvSortI, AvLaw21G, AvLaw21U. -/
import Derived.Test.YtnkhmkcpdgmjmaaGreatDoorAvG41
import Derived.Test.YtnkhmkcpdgmjmaaGreatDoorAvG18
import Derived.Test.YtnkhmkcpdgmjmaaGreatDoorAvG40

/- From the rows' arguments to the walks: SoloGone. -/
namespace Go.Proofs.YtnkhmkcpdgmjmaaGreatDoor
set_option maxRecDepth 100000
open Go.ChangeShapes Go.WideShapes Go.ChangeAt Go.RowKit Av

theorem soloGone_con {H : Type} {enc : TypeId × Value → H} (W : World) (base : Nat) (args : Array Value) (ds : List (DataW H)) (p : List MemPlace)
    (hval : ∀ (j : Nat) t v, Tryz.f4.params[j]? = some t → args[j]? = some v → Value.okWide Tryz.prog W .any base t v)
    (hA : DataW.TrodAll enc Tryz.prog W 0 (fun _ => true) true Tryz.f4.params.toList args.toList ds p)
    (hsh : W.ShapedOpen Tryz.prog) (hl : laidMet Tryz.prog Rows.soloGoneRow.laid W) : Calls Tryz.prog 4 args W fun e W' => e = .returned (.bool true) ∧ Ext W W' := by
  rw [Tryz.params4] at hA hval
  obtain ⟨v0, v1, v2, d0, d1, d2, p0, p1, p2, rfl, rfl, rfl, h0, h1, h2⟩ := trodAll_three hA
  obtain ⟨n, rfl⟩ := okWide_int Tryz.underlying2 (hval 1 _ v1 rfl rfl)
  obtain ⟨b, rfl⟩ := okWide_bool Tryz.underlying4 (hval 2 _ v2 rfl rfl)
  obtain ⟨os, b1, _, _⟩ := arg_opsl (hval 0 _ v0 rfl rfl) h0
  exact soloGone_any v0 n b os W (gt_of hsh hl (by kernel_rfl)) b1
end Go.Proofs.YtnkhmkcpdgmjmaaGreatDoor

/- Sorted lists, reckoned by insertion; the solo's calls so reckoned. No program. -/
namespace Go.Proofs.YtnkhmkcpdgmjmaaGreatDoor
set_option maxRecDepth 100000
open Go.RowKit Av

def insI {α : Type} (le : α → α → Bool) (a : α) : List α → List α
  | [] => [a]
  | b :: l => if le a b then a :: b :: l else b :: insI le a l
def msI {α : Type} (le : α → α → Bool) : List α → List α
  | [] => []
  | a :: l => insI le a (msI le l)
theorem insI_at {α : Type} {le : α → α → Bool} {a : α} : ∀ (l m : List α), (∀ b ∈ l, (!le a b) = true) → (∀ b ∈ m, le a b = true) → insI le a (l ++ m) = l ++ a :: m
  | [], [], _, _ => rfl
  | [], b :: m, _, h => by
    show (if le a b then _ else _) = _
    rw [if_pos (h b (by simp))]; rfl
  | b :: l, m, h1, h2 => by
    have hb := h1 b (by simp)
    show (if le a b then _ else _) = _
    rw [if_neg (by simpa using hb)]
    show b :: insI le a (l ++ m) = _
    rw [insI_at l m (fun x hx => h1 x (by simp [hx])) h2]; rfl
theorem ms_eq {α : Type} {le : α → α → Bool} (trans : ∀ a b c, le a b = true → le b c = true → le a c = true) (total : ∀ a b, (le a b || le b a) = true) : ∀ l : List α, l.mergeSort le = msI le l
  | [] => by simp [msI]
  | a :: l => by
    obtain ⟨l1, l2, h1, h2, h3⟩ := List.mergeSort_cons (le := le) trans total a l
    have hs := List.pairwise_mergeSort trans total (a :: l)
    rw [h1] at hs
    have hs2 := (List.pairwise_cons.1 (List.pairwise_append.1 hs).2.1).1
    show _ = insI le a (msI le l)
    rw [← ms_eq trans total l, h2, h1, insI_at l1 l2 h3 hs2]
def sortWi (l : List Wt) : List Wt := msI (fun x y => !ltW y x) l
theorem sortW_i (l : List Wt) : sortW l = sortWi l := ms_eq (fun a b c h1 h2 => by simp only [Bool.not_eq_true'] at *; exact ltW_ntrans h2 h1) (fun a b => by
    cases h1 : ltW a b <;> cases h2 : ltW b a <;> simp
    have := ltW_asymm h1; rw [h2] at this; cases this) l
def sortDi (l : List ByteArray) : List ByteArray := msI (fun a b => decide (deepB b ≤ deepB a)) l
theorem sortD_i (l : List ByteArray) : sortD l = sortDi l := ms_eq (fun a b c h1 h2 => by simp only [decide_eq_true_eq] at *; omega) (fun a b => by simp only [Bool.or_eq_true, decide_eq_true_eq]; omega) l
/-! The solo's calls. -/
def fireTi (p : ByteArray) (ch : Int) (l : List Wt) : List Wt := if fireOk p ch then toldW (evG p (optS (parentL p.data.toList)) ch) (sortWi l) else []
def fireGi (p : ByteArray) (ch : Int) (l : List Wt) : List Wt := if fireOk p ch then restW (evG p (optS (parentL p.data.toList)) ch) (sortWi l) else l
theorem fireT_i (p : ByteArray) (ch : Int) (l : List Wt) : fireT p ch l = fireTi p ch l := by unfold fireT fireTi; rw [sortW_i]
theorem fireG_i (p : ByteArray) (ch : Int) (l : List Wt) : fireG p ch l = fireGi p ch l := by unfold fireG fireGi; rw [sortW_i]
def fireSi (s : SoV) (p : ByteArray) (ch : Int) : SoV := { s with wl := fireGi p ch s.wl, ev := (fireTi p ch s.wl).foldl (addEv s.ss) s.ev }
theorem fireS_i : fireS = fireSi := by
  funext s p ch
  unfold fireS fireSi
  rw [fireT_i, fireG_i]
def goneSi (s : SoV) (l : List ByteArray) : SoV := l.foldl (fun s p => fireSi s p 2) s
theorem goneS_i : goneS = goneSi := by
  funext s l
  unfold goneS goneSi
  rw [fireS_i]
def purgeLi (L : RL) (sess : Int) : RL × List ByteArray := ((sortDi (ofBL L sess)).foldl remL L, sortDi (ofBL L sess))
theorem purgeL_i : purgeL = purgeLi := by
  funext L sess
  unfold purgeL purgeLi
  rw [sortD_i]
def endSi (s : SoV) (id : Int) : SoV :=
  let P := purgeLi s.tr id
  let s1 := goneSi { s with zx := s.zx + 1, tr := P.1 } P.2
  { s1 with wl := dropW id s1.wl, ev := fun q => if q = id then [] else s1.ev q, last := mdel s1.last id }
theorem endS_i : endS = endSi := by
  funext s id
  unfold endS endSi
  rw [purgeL_i, goneS_i]
def closeOi (s : SoV) (id : Int) : SoV × Int := if (closeS s.ss id).2 ≠ 0 then (s, (closeS s.ss id).2) else (endSi { s with ss := (closeS s.ss id).1 } id, 0)
theorem closeO_i : closeO = closeOi := by
  funext s id
  unfold closeO closeOi
  rw [endS_i]
def tickOi (s : SoV) : SoV × List Int := ((tickS s.ss).2.foldl endSi { s with ss := (tickS s.ss).1 }, (tickS s.ss).2)
theorem tickO_i : tickO = tickOi := by
  funext s
  unfold tickO tickOi
  rw [endS_i]
def chStepi (s : SoV) (x : OpV × Rp) : SoV := if chOf x.1.kind = 0 then s else fireSi s x.2.path (chOf x.1.kind)
theorem chStep_i : chStep = chStepi := by
  funext s x
  unfold chStep chStepi
  rw [fireS_i]
def changedSi (s : SoV) (ops : List OpV) (r : RpV) : SoV := if r.err ≠ 0 then s else (ops.zip r.res).foldl chStepi s
theorem changedS_i : changedS = changedSi := by
  funext s ops r
  unfold changedS changedSi
  rw [chStep_i]
def doneSi (s : SoV) (sess num : Int) (ops : List OpV) : SoV × RpV :=
  let X := requestL s.room s.tr sess num (s.zx + 1) ops
  let s3 := changedSi { s with zx := s.zx + 1, tr := X.1 } ops X.2
  ({ s3 with last := mset s3.last sess X.2 }, X.2)
theorem doneS_i : doneS = doneSi := by
  funext s sess num ops
  unfold doneS doneSi
  rw [changedS_i]
def askSi (s : SoV) (sess num : Int) (ops : List OpV) : SoV × RpV :=
  if mayR sess num ops ≠ 0 then (s, failRp num (mayR sess num ops) (-1) 0) else
  if (touchS s.ss sess).2 ≠ 0 then (s, failRp num 11 (-1) ops.length) else
  match mget s.last sess with
  | none => doneSi { s with ss := (touchS s.ss sess).1 } sess num ops
  | some r => if num = r.num then ({ s with ss := (touchS s.ss sess).1 }, r)
    else if num < r.num then ({ s with ss := (touchS s.ss sess).1 }, failRp num 1 (-1) ops.length)
    else doneSi { s with ss := (touchS s.ss sess).1 } sess num ops
theorem askS_i : askS = askSi := by
  funext s sess num ops
  unfold askS askSi
  rw [doneS_i]
  rfl
/-! SoloKnown. -/
def pE : ByteArray := ⟨#[47, 101]⟩
def oCe : OpV := ⟨1, pE, ⟨#[]⟩, 0, 1⟩
def oGe : OpV := ⟨5, pE, ⟨#[]⟩, 0, 0⟩
def kn0 : SoV := (openO (soZ 10) 2).1
def kn1 : SoV := (openO kn0 9).1
def kn2 : SoV := (askS kn1 1 5 [oCe]).1
def kn3 : SoV × RpV := askS kn2 1 4 [oGe]
def kn4 : SoV × RpV := askS kn3.1 7 1 [oGe]
def kn5 : SoV × Int := watchO kn4.1 ⟨2, pE, 1⟩
def kn6 : SoV × Int := watchO kn5.1 ⟨7, pE, 1⟩
def kn7 : SoV × List Int := tickO kn6.1
def kn8 : SoV × List Int := tickO kn7.1
def kn9 : SoV × List Wt := eventsO kn8.1 2
def kn10 : SoV × List Wt := eventsO kn9.1 2
def kn11 : SoV × Int := closeO kn10.1 1
def kn12 : SoV × Int := closeO kn11.1 2
theorem kn_open : (openO (soZ 10) 2).2 = (1, 0) ∧ (openO kn0 9).2 = (2, 0) := by decide +kernel
theorem kn_ask : kn3.2.err = 1 ∧ kn3.2.at_ = -1 ∧ kn3.2.res.length = 1 ∧ kn3.2.zxid = 0 ∧ kn4.2.err = 11 := by
  unfold kn4 kn3 kn2
  rw [askS_i]
  decide +kernel
theorem kn_watch : kn5.2 = 0 ∧ kn6.2 = 11 ∧ kn7.2 = [] ∧ kn8.2 = [1] ∧ kn7.1.tr.length ≤ 20 ∧ kn6.1.tr.length ≤ 20 := by
  unfold kn8 kn7 kn6 kn5 kn4 kn3 kn2
  rw [askS_i, tickO_i]
  decide +kernel
theorem kn_events : kn9.2 = [⟨2, pE, 2⟩] ∧ kn10.2 = [] := by
  unfold kn10 kn9 kn8 kn7 kn6 kn5 kn4 kn3 kn2
  rw [askS_i, tickO_i]
  decide +kernel
theorem kn_close : kn11.2 = 11 ∧ kn12.2 = 0 ∧ kn12.1.tr.length = 0 ∧ kn12.1.zx = 3 ∧ kn10.1.tr.length ≤ 20 ∧ kn11.1.tr.length ≤ 20 ∧ kn6.1.room = 10 ∧ kn7.1.room = 10 ∧ kn10.1.room = 10 ∧ kn11.1.room = 10 := by
  unfold kn12 kn11 kn10 kn9 kn8 kn7 kn6 kn5 kn4 kn3 kn2
  rw [askS_i, tickO_i, closeO_i]
  decide +kernel
end Go.Proofs.YtnkhmkcpdgmjmaaGreatDoor

/- Walks of package aviarylaw21: SoloKnown. -/
namespace Go.Proofs.YtnkhmkcpdgmjmaaGreatDoor
set_option maxRecDepth 100000
open Go.RowKit Av

theorem treeNew_no (room : Int) (w : World) (h : room < 1 ∨ 500 < room) : Calls Tryz.prog 12 #[.int .i64 room] w fun e w' => e = .returned (.tuple #[.pointer none, .int .i64 1]) ∧ Ext w w' := by
  by_cases h1 : room < 1
  · go_enter Tryz.func12, Tryz.ntmps12
    go_wp2_with (fail)
    go_ret2
    go_light
    exact ⟨rfl, Kp.refl _ _⟩
  · have h2 : 500 < room := by rcases h with h | h <;> omega
    go_enter Tryz.func12, Tryz.ntmps12
    go_wp2_with (fail)
    go_ret2
    go_light
    exact ⟨rfl, Kp.refl _ _⟩
theorem soNew_no (room : Int) (w : World) (h : room < 1 ∨ 500 < room) : Calls Tryz.prog 30 #[.int .i64 room] w fun e w' => e = .returned (.tuple #[.pointer none, .int .i64 1]) ∧ Ext w w' := by
  go_enter Tryz.func30, Tryz.ntmps30
  go_wp2_with (fail)
  refine (treeNew_no room w h).mono ?_
  rintro e w1 ⟨rfl, hx1⟩
  have HX1 := Lib.hid hx1
  clear hx1
  go_wp2_with (fail)
  go_ret2
  go_light
  exact ⟨rfl, HX1.out⟩
theorem same64_one (n : Int) (a b : Option Addr) (c d : Nat) (w : World) (h1 : ∃ p o, a = some ⟨p, o, none⟩ ∧ w.cell? ⟨p, o, none⟩ = some (.int .i64 n)) (h2 : ∃ p o, b = some ⟨p, o, none⟩ ∧ w.cell? ⟨p, o, none⟩ = some (.int .i64 n)) :
    Calls Tryz.prog 39 #[.slice a 1 c, .slice b 1 d] w fun e w' => e = .returned (.bool true) ∧ Ext w w' := by
  obtain ⟨p1, o1, rfl, hx⟩ := h1
  obtain ⟨p2, o2, rfl, hy⟩ := h2
  go_enter Tryz.func39, Tryz.ntmps39
  go_wp2_with (fail)
  go_loopw [5] (fun s5 wr => (s5 = .int .i64 0 ∨ s5 = .int .i64 1) ∧ Ext w wr) (fun s5 _ => 1 - (intOf s5).toNat)
  case atStart => exact ⟨.inl rfl, Kp.refl _ _⟩
  case round =>
    obtain ⟨hs, hk⟩ := hrel
    have HK := Lib.hid hk
    have HCX := Lib.hid (hk.cell hx (fun f => f))
    have HCY := Lib.hid (hk.cell hy (fun f => f))
    clear hx hy hk
    rcases hs with rfl | rfl
    · go_upto_region 6 with (fail)
      refine' wp_region_dag0 ((17, .val _) :: (18, .val _) :: (19, .val _) :: (20, .val _) :: (21, .val _) :: (22, .val _) :: (23, .val _) :: (24, .val _) :: (25, .val _) :: []) (by exact ⟨fun _ _ _ _ _ => trivial, ⟨fun _ _ _ _ _ => trivial, ⟨fun _ _ _ _ _ => trivial, ⟨fun _ _ _ _ _ => trivial, ⟨fun _ _ _ _ _ => trivial, ⟨fun _ _ _ _ _ => trivial, ⟨fun _ _ _ _ _ => trivial, ⟨fun _ _ _ _ _ => trivial, ⟨fun _ _ _ _ _ => trivial, trivial⟩⟩⟩⟩⟩⟩⟩⟩⟩) (by kernel_rfl) (by kernel_rfl) (by kernel_rfl) ?_
      rotate_left 9
      repeat (first
        | (refine wpD_skipv ?_ ?_ ?_
           focus rfl
           focus rfl
           simp only [Act.put, List.setIfInBounds_toArray, List.set_cons_succ, List.set_cons_zero])
        | (refine' wpD_val (c := _) ?_ (fun w => Kp.refl _ w) ?_ (fun wq hwq hfq => ?_) ?_
           rotate_left
           focus rfl
           focus rfl
           focus ((have cx := hwq.cell HCX.out (fun f => f); have cy := hwq.cell HCY.out (fun f => f)); go_simp; first | done | rfl)
           simp only [Act.put, List.setIfInBounds_toArray, List.set_cons_succ, List.set_cons_zero])
        | (refine' wpD_con (c := _) ?_ ?_ (fun wq hwq hfq => ?_) ?_
           rotate_left
           focus rfl
           focus rfl
           focus ((have cx := hwq.cell HCX.out (fun f => f); have cy := hwq.cell HCY.out (fun f => f)); go_simp; (try (rw [dUpon_enter])); fail)
           simp only [Act.put, List.setIfInBounds_toArray, List.set_cons_succ, List.set_cons_zero])
        | fail)
      refine wpD_nil ?_
      intro w' hx' hend
      clear hend
      have HX := Lib.hid (HK.out.trans hx')
      clear hx'
      go_wp2_with (fail)
      go_light
      refine ⟨⟨.inr ?_, HX.out⟩, ?_⟩
      · rfl
      · simp [intOf]
    · go_wp2_with (fail)
      go_ret
      exact ⟨rfl, HK.out⟩
set_option maxHeartbeats 12800000 in
theorem soloKnown_any (w : World) (hG : GT w) :
    Calls Tryz.prog 5 #[] w fun e w' => e = .returned (.bool true) ∧ Ext w w' := by
  have HG := Lib.hid hG
  have HAW := Lib.hid (awake21_any w hG)
  clear hG
  go_enter Tryz.func5, Tryz.ntmps5
  go_wp2_with (fail)
  refine HAW.out.mono ?_
  rintro e w1 ⟨rfl, hx1⟩
  have HX1 := Lib.hid hx1
  clear hx1 HAW
  go_wp2_with (fail)
  refine (soNew_no 0 w1 (.inl (by decide))).mono ?_
  rintro e w2 ⟨rfl, hx2⟩
  have HX2 := Lib.hid (HX1.out.trans hx2)
  have HG := Lib.hid (HG.out.ext HX2.out)
  clear hx2 HX1
  go_wp2_with (fail)
  refine (soS_new 10 w2 (by decide) (by decide)).mono ?_
  rintro e w3 ⟨g, rfl, h3, hx3⟩
  have H1 := Lib.hid h3
  clear h3 hx3
  go_wp2_with (fail)
  refine (soS_open H1.out (by decide) 2).mono ?_
  rintro e w4 ⟨rfl, h3, ho2⟩
  rw [kn_open.1]
  have H2 : Hid (SoS w2 w4 g (0 + 1) kn0) := h3
  clear h3 ho2 H1
  go_wp2_with (fail)
  refine (soS_open H2.out (by decide) 9).mono ?_
  rintro e w5 ⟨rfl, h3, ho2⟩
  rw [kn_open.2]
  have H3 : Hid (SoS w2 w5 g (0 + 1 + 1) kn1) := h3
  clear h3 ho2 H2
  go_wp2_with (fail)
  obtain ⟨hxA, hoA, hsA⟩ := ops1 w5 oCe _ rfl
  have HXA := Lib.hid hxA
  have HOA := Lib.hid hoA
  have HQSZ := Lib.hid hsA
  clear hxA hoA hsA
  refine (ask21_any 1 5 _ 1 1 _).mono ?_
  rintro e w6 ⟨rfl, hx3⟩
  have HASK := Lib.hid (soS_ask H3.out (by omega) HG.out (HXA.out.trans hx3) (.slice (some ⟨(w5).heap.size, 0, none⟩) 1 1) [oCe] 1 5 (HOA.out.ext hx3) (by intro x hx; rw [List.mem_singleton.1 hx]; decide) (fun i hi => by
    have e2 : (w5).heap.size = i := by simpa [Value.ownBlock] using hi
    have h1 := Nat.lt_of_lt_of_le HQSZ.out hx3.size
    omega))
  clear hx3 HXA HOA HQSZ
  go_wp2_with (fail)
  refine HASK.out.mono ?_
  rintro e w7 ⟨u, rfl, hu1, hs1, ho1⟩
  clear HASK
  have H4 : Hid (SoS w2 w7 g 3 kn2) := hs1
  clear hs1 hu1 ho1 H3
  go_wp2_with (fail)
  obtain ⟨hxA, hoA, hsA⟩ := ops1 w7 oGe _ rfl
  have HXA := Lib.hid hxA
  have HOA := Lib.hid hoA
  have HQSZ := Lib.hid hsA
  clear hxA hoA hsA
  refine (ask21_any 1 4 _ 1 1 _).mono ?_
  rintro e w8 ⟨rfl, hx3⟩
  have HASK := Lib.hid (soS_ask H4.out (by omega) HG.out (HXA.out.trans hx3) (.slice (some ⟨(w7).heap.size, 0, none⟩) 1 1) [oGe] 1 4 (HOA.out.ext hx3) (by intro x hx; rw [List.mem_singleton.1 hx]; decide) (fun i hi => by
    have e2 : (w7).heap.size = i := by simpa [Value.ownBlock] using hi
    have h1 := Nat.lt_of_lt_of_le HQSZ.out hx3.size
    omega))
  clear hx3 HXA HOA HQSZ
  go_wp2_with (fail)
  refine HASK.out.mono ?_
  rintro e w9 ⟨u, rfl, hu1, hs1, ho1⟩
  clear HASK
  obtain ⟨X, hX⟩ : ∃ X, askS kn2 1 4 [oGe] = X := ⟨_, rfl⟩
  have hX3 : kn3 = X := hX
  rw [hX] at hu1 hs1 ⊢
  have HX3 := Lib.hid hX3
  clear hX hX3
  have HOA := Lib.hid ho1
  obtain ⟨rsl, hrsl, hxe⟩ := hu1
  obtain ⟨ua, uc, rfl⟩ := hrsl.slice
  have HU0 : Hid (RpAt w9 0 (.slice ua rsl.length uc) X.2) := ⟨rsl, hrsl, hxe⟩
  clear hrsl hxe
  generalize rsl.length = un at *
  unfold rplA
  obtain ⟨w10, hWD⟩ : ∃ W, (w9).alloc (.cells #[.int .i64 (X.2).num, .int .i64 (X.2).zxid, .int .i64 (X.2).err, .int .i64 (X.2).at_, .slice ua un uc] rplT) = W := ⟨_, rfl⟩
  have hxD : Ext w9 w10 := by rw [← hWD]; exact (Kp.refl _ _).alloc _
  have BA : Hid (Blk w10 (w9).heap.size #[.int .i64 (X.2).num, .int .i64 (X.2).zxid, .int .i64 (X.2).err, .int .i64 (X.2).at_, .slice ua un uc] rplT) := by
    show Blk _ _ _ _
    rw [← hWD]; exact heap_alloc_new w9 _
  have HUA := Lib.hid (HU0.out.ext hxD)
  have HSA := Lib.hid ((hs1).ext hxD)
  have HXD := Lib.hid hxD
  have HWD := Lib.hid hWD
  clear ho1 hs1 HU0 hxD hWD
  go_upto_region 9 with (fail)
  rw [HWD.out]
  clear HXD HWD
  go_wp2_with (fail)
  obtain ⟨hxA, hoA, hsA⟩ := ops1 w10 oGe _ rfl
  have HXA := Lib.hid hxA
  have HOA := Lib.hid hoA
  have HQSZ := Lib.hid hsA
  clear hxA hoA hsA
  refine (ask21_any 7 1 _ 1 1 _).mono ?_
  rintro e w11 ⟨rfl, hx3⟩
  have HASK := Lib.hid (soS_ask HSA.out (by omega) HG.out (HXA.out.trans hx3) (.slice (some ⟨(w10).heap.size, 0, none⟩) 1 1) [oGe] 7 1 (HOA.out.ext hx3) (by intro x hx; rw [List.mem_singleton.1 hx]; decide) (fun i hi => by
    have e2 : (w10).heap.size = i := by simpa [Value.ownBlock] using hi
    have h1 := Nat.lt_of_lt_of_le HQSZ.out hx3.size
    omega))
  clear hx3 HXA HOA HQSZ
  go_wp2_with (fail)
  refine HASK.out.mono ?_
  rintro e w12 ⟨u, rfl, hu2, hs2, ho2⟩
  clear HASK
  obtain ⟨Y, hY⟩ : ∃ Y, askS X.1 7 1 [oGe] = Y := ⟨_, rfl⟩
  have hY4 : kn4 = Y := by unfold kn4; rw [HX3.out]; exact hY
  rw [hY] at hu2 hs2 ⊢
  have HY4 := Lib.hid hY4
  clear hY hY4
  have HOB := Lib.hid ho2
  obtain ⟨rsl, hrsl, hxe⟩ := hu2
  obtain ⟨va, vc, rfl⟩ := hrsl.slice
  have HU0 : Hid (RpAt w12 0 (.slice va rsl.length vc) Y.2) := ⟨rsl, hrsl, hxe⟩
  clear hrsl hxe
  generalize rsl.length = vn at *
  unfold rplA
  obtain ⟨w13, hWD⟩ : ∃ W, (w12).alloc (.cells #[.int .i64 (Y.2).num, .int .i64 (Y.2).zxid, .int .i64 (Y.2).err, .int .i64 (Y.2).at_, .slice va vn vc] rplT) = W := ⟨_, rfl⟩
  have hxD : Ext w12 w13 := by rw [← hWD]; exact (Kp.refl _ _).alloc _
  have BB : Hid (Blk w13 (w12).heap.size #[.int .i64 (Y.2).num, .int .i64 (Y.2).zxid, .int .i64 (Y.2).err, .int .i64 (Y.2).at_, .slice va vn vc] rplT) := by
    show Blk _ _ _ _
    rw [← hWD]; exact heap_alloc_new w12 _
  have HUB := Lib.hid (HU0.out.ext hxD)
  have HSB := Lib.hid ((hs2).ext hxD)
  have HXD := Lib.hid hxD
  have HWD := Lib.hid hWD
  clear ho2 hs2 HU0 hxD hWD
  have HBA := Lib.hid ((HOB.out.blk BA.out (by decide)).kp HXD.out (fun f => f))
  go_upto_region 10 with (fail)
  rw [HWD.out]
  clear HXD HWD
  go_wp2_with (fail)
  have hw := kn_watch
  refine (soS_watch HSB.out (by omega) (HG.out.ext HSB.out.ex).gl ⟨2, pE, 1⟩ (by decide)).mono ?_
  rintro e w14 ⟨rfl, h4, ho4⟩
  rw [show (watchO Y.1 ⟨2, pE, 1⟩).2 = 0 by rw [← HY4.out]; exact hw.1]
  have H5 : Hid (SoS w2 w14 g 6 kn5.1) := by show SoS _ _ _ _ _; unfold kn5; rw [HY4.out]; exact h4
  have HBA := Lib.hid (ho4.blk HBA.out (by decide))
  have HBB := Lib.hid (ho4.blk BB.out (by decide))
  clear h4 ho4 HSB
  go_wp2_with (fail)
  refine (soS_watch H5.out (by omega) (HG.out.ext H5.out.ex).gl ⟨7, pE, 1⟩ (by decide)).mono ?_
  rintro e w15 ⟨rfl, h4, ho4⟩
  rw [show (watchO kn5.1 ⟨7, pE, 1⟩).2 = 11 from hw.2.1]
  have H6 : Hid (SoS w2 w15 g 7 kn6.1) := h4
  have HBA := Lib.hid (ho4.blk HBA.out (by decide))
  have HBB := Lib.hid (ho4.blk HBB.out (by decide))
  clear h4 ho4 H5
  go_wp2_with (fail)
  have hc := kn_close
  refine (soS_tick H6.out (by omega) HG.out (by rw [hc.2.2.2.2.2.2.1]; decide) hw.2.2.2.2.2).mono ?_
  rintro e w16 ⟨v, rfl, hv, h4, ho4⟩
  obtain ⟨xa, xc, rfl⟩ := owns_slice hv
  rw [show (tickO kn6.1).2 = [] from hw.2.2.1] at h4 ⊢
  have H7 : Hid (SoS w2 w16 g 8 kn7.1) := h4
  have HBA := Lib.hid (ho4.blk HBA.out (by decide))
  have HBB := Lib.hid (ho4.blk HBB.out (by decide))
  clear h4 ho4 H6 hv
  go_wp2_with (fail)
  refine (soS_tick H7.out (by omega) HG.out (by rw [hc.2.2.2.2.2.2.2.1]; decide) hw.2.2.2.2.1).mono ?_
  rintro e w17 ⟨v, rfl, hv, h4, ho4⟩
  obtain ⟨ya, yc, rfl⟩ := owns_slice hv
  rw [show (tickO kn7.1).2 = [1] from hw.2.2.2.1] at hv h4 ⊢
  have H8 : Hid (SoS w2 w17 g 10 kn8.1) := h4
  have HBA := Lib.hid (ho4.blk HBA.out (by decide))
  have HBB := Lib.hid (ho4.blk HBB.out (by decide))
  have hv8 := hv
  clear h4 ho4 H7 hv
  go_wp2_with (fail)
  have hev := kn_events
  obtain ⟨B8, hr8, hok8⟩ := H8.out
  have HY8 := Lib.hid hv8
  have HOK8 := Lib.hid hok8
  have HA8 := Lib.hid hr8.safeA
  refine (soEvents_any hr8 2).mono ?_
  rintro e w18 ⟨v, B9, rfl, hv, hr9, hk9, hs9, hoff⟩
  obtain ⟨la, lc, rfl⟩ := owns_slice hv
  have e9 : (eventsO kn8.1 2).2 = [⟨2, pE, 2⟩] := hev.1
  rw [e9] at hv hoff ⊢
  have HSZ9 := Lib.hid hk9.size
  have HR9 : Hid (SoR w2 w18 g (20 * 10) B9 kn9.1) := hr9
  have HLR := Lib.hid hv
  have HOFF := Lib.hid hoff
  have HYR := Lib.hid (owns_kpT HY8.out hk9 (hr8.safeA.noT (by decide)))
  have HBA := Lib.hid (HBA.out.kp hk9 (hr8.safeA.blk HBA.out (by decide)))
  have HBB := Lib.hid (HBB.out.kp hk9 (hr8.safeA.blk HBB.out (by decide)))
  clear hv hr8 hr9 hk9 hs9 hoff HY8 e9
  go_wp2_with (fail)
  refine (soEvents_any HR9.out 2).mono ?_
  rintro e w19 ⟨v, B10, rfl, hv, hr10, hk10, hs10, _⟩
  obtain ⟨ma, mc, rfl⟩ := owns_slice hv
  have e10 : (eventsO kn9.1 2).2 = [] := hev.2
  rw [e10]
  have HR10 : Hid (SoR w2 w19 g (20 * 10) B10 kn10.1) := hr10
  have HLR := Lib.hid (ownsRow.kp HLR.out hk10 (fun i hi hs => (HOFF.out i hi).2 hs))
  have HOFF2 : Hid (∀ i, (Value.slice la [(⟨2, pE, 2⟩ : Wt)].length lc).ownBlock = some i → i < w19.heap.size ∧ ¬ SoFr g B10 i) := fun i hi => ⟨by have := (HOFF.out i hi).1; have := hk10.size; have := HSZ9.out; omega, fun hs => (HOFF.out i hi).2 (hs10 i hs)⟩
  have HYR := Lib.hid (owns_kpT HYR.out hk10 (HR9.out.safeA.noT (by decide)))
  have HBA := Lib.hid (HBA.out.kp hk10 (HR9.out.safeA.blk HBA.out (by decide)))
  have HBB := Lib.hid (HBB.out.kp hk10 (HR9.out.safeA.blk HBB.out (by decide)))
  have HOK10 : Hid (SoOk 10 kn10.1) := (HOK8.out.told 2).told 2
  clear hv hr10 hk10 hs10 HR9 HOFF HSZ9 HOK8 HA8 e10
  go_wp2_with (fail)
  have hc := kn_close
  refine (soClose_small HR10.out HOK10.out (by decide) (by decide) HG.out 1 (by rw [hc.2.2.2.2.2.2.2.2.1]; decide) (Nat.le_trans (ofBL_len _ _) hc.2.2.2.2.1)).mono ?_
  rintro e w20 ⟨rfl, ⟨B11, hr11, hk11, hs11⟩, hok11⟩
  rw [show (closeO kn10.1 1).2 = 11 from hc.1]
  have HR11 : Hid (SoR w2 w20 g (20 * 10 + 20) B11 kn11.1) := hr11
  have HOK11 : Hid (SoOk (10 + 1) kn11.1) := hok11
  have HLR := Lib.hid (ownsRow.kp HLR.out hk11 (fun i hi hs => (HOFF2.out i hi).2 hs))
  have HOFF3 : Hid (∀ i, (Value.slice la [(⟨2, pE, 2⟩ : Wt)].length lc).ownBlock = some i → ¬ SoFr g B11 i) := fun i hi hs => by
    rcases hs11 i hs with h | h
    · exact (HOFF2.out i hi).2 h
    · have := (HOFF2.out i hi).1; omega
  have HYR := Lib.hid (owns_kpT HYR.out hk11 (HR10.out.safeA.noT (by decide)))
  have HBA := Lib.hid (HBA.out.kp hk11 (HR10.out.safeA.blk HBA.out (by decide)))
  have HBB := Lib.hid (HBB.out.kp hk11 (HR10.out.safeA.blk HBB.out (by decide)))
  clear hr11 hk11 hs11 hok11 HR10 HOFF2 HOK10 hc
  go_wp2_with (fail)
  have hc := kn_close
  refine (soClose_small HR11.out HOK11.out (by decide) (by decide) HG.out 2 (by rw [hc.2.2.2.2.2.2.2.2.2]; decide) (Nat.le_trans (ofBL_len _ _) hc.2.2.2.2.2.1)).mono ?_
  rintro e w21 ⟨rfl, ⟨B12, hr12, hk12, hs12⟩, hok12⟩
  rw [show (closeO kn11.1 2).2 = 0 from hc.2.1]
  have HR12 : Hid (SoR w2 w21 g (20 * 10 + 20 + 20) B12 kn12.1) := hr12
  have hlr := ownsRow.kp HLR.out hk12 (fun i hi hs => HOFF3.out i hi hs)
  have HYR := Lib.hid (owns_kpT HYR.out hk12 (HR11.out.safeA.noT (by decide)))
  have hba := HBA.out.kp hk12 (HR11.out.safeA.blk HBA.out (by decide))
  have hbb := HBB.out.kp hk12 (HR11.out.safeA.blk HBB.out (by decide))
  clear hr12 hk12 hs12 hok12 HR11 HOFF3 HOK11 hc HLR
  obtain ⟨_, _, hsl, _, _, _, hop⟩ := Sl.open (Sl.of_owns hlr)
  simp only [Value.slice.injEq, true_and] at hsl
  obtain ⟨rfl, rfl⟩ := hsl
  obtain ⟨lq, loff, rfl, _, hlc⟩ := hop (by decide)
  have l0 : w21.cell? ⟨lq, loff, none⟩ = some (.int .i64 2) := hlc 0 _ rfl
  have l1 : w21.cell? ⟨lq, loff + 1, none⟩ = some (.string ⟨#[47, 101]⟩) := hlc 1 _ rfl
  have l2 : w21.cell? ⟨lq, loff + 2, none⟩ = some (.int .i64 2) := hlc 2 _ rfl
  have a0 := hba.cell 0 _ rfl
  have a1 := hba.cell 1 _ rfl
  have a2 := hba.cell 2 _ rfl
  have a3 := hba.cell 3 _ rfl
  have a4 := hba.cell 4 _ rfl
  have b0 := hbb.cell 0 _ rfl
  have b1 := hbb.cell 1 _ rfl
  have b2 := hbb.cell 2 _ rfl
  have b3 := hbb.cell 3 _ rfl
  have b4 := hbb.cell 4 _ rfl
  have hke := kn_ask
  rw [HX3.out, HY4.out] at hke
  have he1 : (X.2.err == 1) = true := by rw [hke.1]; rfl
  have he2 : (X.2.at_ == -1) = true := by rw [hke.2.1]; rfl
  have he3 : ((un : Int) == 1) = true := by
    obtain ⟨rsl, hrsl, hxe⟩ := HUA.out
    obtain ⟨_, _, hse⟩ := hrsl.slice
    simp only [Value.slice.injEq] at hse
    have h1 := congrArg List.length hxe
    rw [List.length_map, hke.2.2.1, ← hse.2.1] at h1
    rw [h1]; rfl
  have he4 : (X.2.zxid == 0) = true := by rw [hke.2.2.2.1]; rfl
  have he5 : (Y.2.err == 11) = true := by rw [hke.2.2.2.2]; rfl
  clear hke hlc hop hlr hba hbb
  go_wp2_with (fail)
  have hxA : Ext w21 (w21.alloc (.cells #[.int .i64 1] 2)) := (Kp.refl _ _).alloc _
  have hyr := owns_kpT HYR.out (Ext.kp (S := fun _ => False) hxA) (fun _ f => f.elim)
  obtain ⟨_, _, hsl, _, _, _, hop⟩ := Sl.open (Sl.of_owns hyr)
  simp only [Value.slice.injEq, true_and] at hsl
  obtain ⟨rfl, rfl⟩ := hsl
  obtain ⟨yq, yoff, rfl, _, hyc⟩ := hop (by decide)
  have y0 : (w21.alloc (.cells #[.int .i64 1] 2)).cell? ⟨yq, yoff, none⟩ = some (.int .i64 1) := hyc 0 _ rfl
  have nb : Blk (w21.alloc (.cells #[.int .i64 1] 2)) w21.heap.size #[.int .i64 1] 2 := heap_alloc_new w21 _
  have n0 := nb.cell 0 _ rfl
  have HSAME := Lib.hid (same64_one 1 _ _ yc 1 _ ⟨_, _, rfl, y0⟩ ⟨_, _, rfl, n0⟩)
  have HXA := Lib.hid hxA
  clear hxA hyr hyc hop y0 n0 nb
  refine HSAME.out.mono ?_
  rintro e w22 ⟨rfl, hx22⟩
  have HX22 := Lib.hid (HXA.out.trans hx22)
  have l0' := HX22.out.cell l0 (fun f => f)
  have l1' := HX22.out.cell l1 (fun f => f)
  have l2' := HX22.out.cell l2 (fun f => f)
  have HR22 := Lib.hid (HR12.out.ext HX22.out)
  clear hx22 HSAME l0 l1 l2 a0 a1 a2 a3 a4 b0 b1 b2 b3 b4
  go_wp2_with (fail)
  refine (soTree_any HR22.out (by decide)).mono ?_
  rintro e w23 ⟨b', m', c', rfl, ht, hx23⟩
  have HT := Lib.hid ht
  have HX23 := Lib.hid hx23
  have hc := kn_close
  have HLN : Hid (((pl c').length : Int) = 0) := by
    show _ = _
    rw [← ht.len, hc.2.2.1]; rfl
  clear ht hx23 l0' l1' l2' hc
  go_wp2_with (fail)
  refine (tsLen HT.out.ts).mono ?_
  rintro e w24 ⟨rfl, rfl⟩
  rw [HLN.out]
  have HR23 := Lib.hid (HR22.out.ext HX23.out)
  go_wp2_with (fail)
  refine (soZxid_any HR23.out).mono ?_
  rintro e w25 ⟨rfl, rfl⟩
  have hc := kn_close
  rw [hc.2.2.2.1]
  clear hc
  go_wp2_with (fail)
  go_ret
  exact ⟨rfl, HX2.out.trans HR23.out.ex⟩
end Go.Proofs.YtnkhmkcpdgmjmaaGreatDoor

/- From the rows' arguments to the walks: SoloKnown. -/
namespace Go.Proofs.YtnkhmkcpdgmjmaaGreatDoor
set_option maxRecDepth 100000
open Go.ChangeShapes Go.WideShapes Go.ChangeAt Go.RowKit Av

theorem soloKnown_con {H : Type} {enc : TypeId × Value → H} (W : World) (base : Nat) (args : Array Value) (ds : List (DataW H)) (p : List MemPlace)
    (_hval : ∀ (j : Nat) t v, Tryz.f5.params[j]? = some t → args[j]? = some v → Value.okWide Tryz.prog W .any base t v)
    (hA : DataW.TrodAll enc Tryz.prog W 0 (fun _ => true) true Tryz.f5.params.toList args.toList ds p)
    (hsh : W.ShapedOpen Tryz.prog) (hl : laidMet Tryz.prog Rows.soloKnownRow.laid W) : Calls Tryz.prog 5 args W fun e W' => e = .returned (.bool true) ∧ Ext W W' := by
  rw [Tryz.params5] at hA
  obtain ⟨rfl, rfl, rfl⟩ := trodAll_none hA
  exact soloKnown_any W (gt_of hsh hl (by kernel_rfl))
end Go.Proofs.YtnkhmkcpdgmjmaaGreatDoor
