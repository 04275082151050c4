/- Texts put together: AvWPathC, AvWTree, AvWTreeB. -/
import Derived.Test.YtdagikbdpeblhaaGreatDoorAvG9
import Derived.Test.YtdagikbdpeblhaaGreatDoorAvG2
import Derived.Lib.LaidTab
import Derived.Test.YtdagikbdpeblhaaGreatDoorAvG8

/- Walks of package path: Name, Top, Within, Number. -/
namespace Go.Proofs.YtdagikbdpeblhaaGreatDoor
set_option maxRecDepth 100000
open Go.RowKit Av

/-- The table of powers of ten, and internal/bytealg.MaxLen. -/
structure GT (w : World) : Prop where
  gl : GL w
  tab : Lib.TabIs Tryz.prog w "internal/strconv.uint64pow10" .u64 Lib.pow10Tab
theorem var_ext {P : Program} {w w' : World} {n : String} {cs : Array Value} (h : w.var? P n = some cs) (k : Ext w w') : w'.var? P n = some cs := by
  unfold World.var? at *
  cases hg : P.globalNamed n with
  | none => rw [hg] at h; cases h
  | some g =>
    rw [hg] at h
    simp only [Option.bind_some] at h ⊢
    cases hb : w.heap[g]? with
    | none => rw [hb] at h; cases h
    | some o => rw [k.obj hb (fun f => f)]; rwa [hb] at h
theorem GT.ext {w w' : World} (h : GT w) (k : Ext w w') : GT w' := ⟨h.gl.ext k, var_ext h.tab k⟩

theorem path_small (p : ByteArray) (h : goodL p.data.toList = true) : p.size ≤ 200 := by rw [Lib.size_eq]; exact (good_len _ h).2
theorem Itoa_any (n : Int) (h0 : 0 ≤ n) (h1 : n ≤ 2147483647) (w : World) (hG : GT w) :
    Calls Tryz.prog 185 #[.int .i64 n] w fun e w' => e = .returned (.string ⟨(Lib.decDigits n.toNat).toArray⟩) ∧ Ext w w' := by
  refine (Tryz.strconv_Itoa n (by omega) (by omega) w hG.tab).mono ?_
  rintro e w' ⟨rfl, k, os, rfl⟩
  refine ⟨ret_val ?_, ?_⟩
  · rw [Lib.itoa, if_neg (by omega)]
  · refine ⟨rfl, rfl, rfl, by simp [Go.Sort.grow], fun j hj _ => ?_⟩
    simp only [Go.Sort.grow]
    exact Array.getElem?_append_left hj
theorem Repeat_any (c : Int) (h0 : 0 ≤ c) (h1 : c ≤ 10) (w : World) :
    Calls Tryz.prog 186 #[.string ⟨#[48]⟩, .int .i64 c] w fun e w' => e = .returned (.string ⟨(List.replicate c.toNat (48 : UInt8)).toArray⟩) ∧ Ext w w' := by
  obtain ⟨k, rfl⟩ := Int.eq_ofNat_of_zero_le h0
  refine (Tryz.strings_Repeat ⟨#[48]⟩ k w (by omega) (by show 1 * k ≤ _; omega)).mono ?_
  rintro e w' ⟨rfl, hb⟩
  refine ⟨ret_val ?_, Kp.of_below hb⟩
  rw [show (⟨#[48]⟩ : ByteArray).data.toList = List.replicate 1 48 from rfl, Lib.repeatL_replicate, Nat.mul_one]
  rfl

set_option maxHeartbeats 400000 in
theorem pathTop_any (p : ByteArray) (w : World) (hG : GL w) (hp : p.size ≤ maxLen) :
    Calls Tryz.prog 109 #[.string p] w fun e w' => e = .returned (.string ⟨(topL p.data.toList).toArray⟩) ∧ Ext w w' := by
  have HPt := Lib.hid (Parts_any p w hG hp)
  go_enter Tryz.func109, Tryz.ntmps109
  go_wp2_with (fail)
  refine HPt.out.mono ?_
  rintro e w1 ⟨v, ps, rfl, hps, hst, hx⟩
  obtain ⟨a', c', rfl, hcc, hm, hop⟩ := Strs.open hst
  have HO := Lib.hid hop
  have HPS := Lib.hid hps
  clear hst hop hps
  by_cases h0 : 0 < ps.length
  · obtain ⟨b, off, rfl, hb, hc⟩ := HO.out h0
    have hcell := hc 0 h0
    rw [Nat.add_zero] at hcell
    have h0' : ((ps.length : Int) == 0) = false := by rw [beq_eq_false_iff_ne]; omega
    clear hc
    go_wp2_with (fail)
    go_ret
    go_light
    refine ⟨ret_val ?_, hx⟩
    have : topL p.data.toList = ps[0].data.toList := by
      unfold topL
      rw [← HPS.out]
      cases ps with
      | nil => simp at h0
      | cons x y => rfl
    rw [this, bytes_self]; rfl
  · have h0' : ((ps.length : Int) == 0) = true := by rw [beq_iff_eq]; omega
    go_wp2_with (fail)
    go_ret
    go_light
    refine ⟨ret_val ?_, hx⟩
    have : topL p.data.toList = [] := by
      unfold topL
      rw [← HPS.out, List.eq_nil_of_length_eq_zero (by omega : ps.length = 0)]; rfl
    rw [this]; rfl

/-- The last name, out of the slice of names. -/
theorem last_of {p : Bs} {ps : List ByteArray} (h : ps.map (·.data.toList) = partsL p) (h0 : ps.length - 1 < ps.length) : (⟨(lastL p).toArray⟩ : ByteArray) = ps[ps.length - 1] := by
  have : lastL p = ps[ps.length - 1].data.toList := by
    unfold lastL
    rw [← h, List.getLastD_eq_getLast?, List.getLast?_eq_getElem?, List.length_map, List.getElem?_map, List.getElem?_eq_getElem h0]
    rfl
  rw [this, bytes_self]
theorem last_nil {p : Bs} {ps : List ByteArray} (h : ps.map (·.data.toList) = partsL p) (h0 : ps.length = 0) : lastL p = [] := by
  unfold lastL
  rw [← h, List.eq_nil_of_length_eq_zero h0]; rfl

set_option maxHeartbeats 400000 in
theorem pathName_any (p : ByteArray) (w : World) (hG : GL w) (hp : p.size ≤ maxLen) :
    Calls Tryz.prog 167 #[.string p] w fun e w' => e = .returned (.string ⟨(lastL p.data.toList).toArray⟩) ∧ Ext w w' := by
  have HPt := Lib.hid (Parts_any p w hG hp)
  go_enter Tryz.func167, Tryz.ntmps167
  go_wp2_with (fail)
  refine HPt.out.mono ?_
  rintro e w1 ⟨v, ps, rfl, hps, hst, hx⟩
  obtain ⟨a', c', rfl, hcc, hm, hop⟩ := Strs.open hst
  have HO := Lib.hid hop
  have HPS := Lib.hid hps
  unfold maxLen at hm
  clear hst hop hps
  by_cases h0 : 0 < ps.length
  · obtain ⟨b, off, rfl, hb, hc⟩ := HO.out h0
    have hlt : ps.length - 1 < ps.length := by omega
    have hcell := hc (ps.length - 1) hlt
    have h0' : ((ps.length : Int) == 0) = false := by rw [beq_eq_false_iff_ne]; omega
    have q1 : 1 ≤ (ps.length : Int) := by omega
    have e2 : ((ps.length : Int) - 1).toNat = ps.length - 1 := by omega
    have HL := Lib.hid (last_of HPS.out hlt)
    clear hc
    go_wp2_with (fail)
    go_ret
    go_light
    exact ⟨ret_val (by rw [HL.out]; rfl), hx⟩
  · have h0' : ((ps.length : Int) == 0) = true := by rw [beq_iff_eq]; omega
    have HL := Lib.hid (last_nil HPS.out (by omega))
    go_wp2_with (fail)
    go_ret
    go_light
    exact ⟨ret_val (by rw [HL.out]; rfl), hx⟩

def errI (o : Option Bs) : Int := if o.isSome then 0 else 1
set_option maxHeartbeats 400000 in
theorem pathNumber_any (p : ByteArray) (n : Int) (w : World) (hG : GT w) (hp : p.size ≤ maxLen) :
    Calls Tryz.prog 163 #[.string p, .int .i64 n] w fun e w' => e = .returned (.tuple #[.string (optS (numberL p.data.toList n)), .int .i64 (errI (numberL p.data.toList n))]) ∧ Ext w w' := by
  have H1 := Lib.hid (Good_any p w hG.gl hp)
  by_cases h0 : 0 ≤ n
  · by_cases h1 : n ≤ 2147483647
    · have HI := Lib.hid (fun w1 (k : Ext w w1) => Itoa_any n h0 h1 w1 (hG.ext k))
      obtain ⟨hd1, hd2⟩ := dec_len (n := n.toNat) (by omega)
      have hpad : padL n.toNat = List.replicate (10 - (Lib.decDigits n.toNat).length) 48 ++ Lib.decDigits n.toNat := rfl
      have hpl := padL_len (n := n.toNat) (by omega)
      have HN : Hid (∀ g1 g2, goodL p.data.toList = g1 → goodL (p.data.toList ++ padL n.toNat) = g2 → numberL p.data.toList n = if g1 && g2 then some (p.data.toList ++ padL n.toNat) else none) := by
        show ∀ g1 g2, _ → _ → _
        rintro g1 g2 rfl rfl
        unfold numberL
        simp [h0, h1]
      obtain ⟨D, hD⟩ : ∃ D, Lib.decDigits n.toNat = D := ⟨_, rfl⟩
      obtain ⟨Z, hZ⟩ : ∃ Z, padL n.toNat = Z := ⟨_, rfl⟩
      rw [hD] at hd1 hd2 hpad HI
      rw [hZ] at hpad hpl HN
      have HP := Lib.hid hpad
      have hsz : (⟨D.toArray⟩ : ByteArray).size = D.length := by simp [ByteArray.size]
      have HSZ := Lib.hid hsz
      clear hD hZ hpad hsz
      go_enter Tryz.func163, Tryz.ntmps163
      go_wp2_with (fail)
      refine H1.out.mono ?_
      rintro e w1 ⟨rfl, hx1⟩
      cases g1 : goodL p.data.toList with
      | false =>
        have hr := HN.out false _ g1 rfl
        simp only [Bool.false_and, Bool.false_eq_true, if_false] at hr
        have HR := Lib.hid hr
        clear g1 hr
        go_wp2_with (fail)
        go_ret2
        go_light
        exact ⟨by rw [HR.out]; rfl, hx1⟩
      | true =>
        have G1 := Lib.hid g1
        have hql : p.size ≤ 200 := path_small p g1
        clear g1
        go_wp2_with (fail)
        refine (HI.out w1 hx1).mono ?_
        rintro e w2 ⟨rfl, hx2⟩
        go_wp2_with (fail)
        refine (Repeat_any (10 - (D.length : Int)) (by omega) (by omega) w2).mono ?_
        rintro e w3 ⟨rfl, hx3⟩
        rw [show (10 - (D.length : Int)).toNat = 10 - D.length by omega]
        obtain ⟨R, hR⟩ : ∃ R, List.replicate (10 - D.length) (48 : UInt8) = R := ⟨_, rfl⟩
        have hrl : R.length = 10 - D.length := by rw [← hR]; simp
        have hRl : (⟨R.toArray⟩ : ByteArray).size ≤ 10 := by show R.toArray.size ≤ 10; simp; omega
        have hDl : (⟨D.toArray⟩ : ByteArray).size ≤ 10 := by show D.toArray.size ≤ 10; simp; omega
        have HC : Hid (p ++ (⟨R.toArray⟩ ++ ⟨D.toArray⟩) = (⟨(p.data.toList ++ Z).toArray⟩ : ByteArray)) := by
          show _ = _
          conv => lhs; rw [← bytes_self p]
          rw [bytes_append, bytes_append, ← hR, ← HP.out]
        have hRD : (⟨R.toArray⟩ ++ ⟨D.toArray⟩ : ByteArray).size ≤ 20 := by rw [bytes_append]; show (R ++ D).toArray.size ≤ 20; simp; omega
        have c2 : ∀ wx, (Op.stringOp .add p (⟨R.toArray⟩ ++ ⟨D.toArray⟩)).run Tryz.prog wx = .ok (.string ⟨(p.data.toList ++ Z).toArray⟩) wx := fun wx => by
          rw [run_string_add_sum (P := Tryz.prog) wx _ _ (by omega), HC.out]
        rw [hR]
        clear hR hrl
        go_wp2_with (fail)
        have hx := (hx1.ext hx2).ext hx3
        refine (Good_any _ _ (hG.gl.ext hx) (by show (p.data.toList ++ Z).toArray.size ≤ _; rw [List.size_toArray, List.length_append, ← Lib.size_eq, hpl]; unfold maxLen; omega)).mono ?_
        rintro e w4 ⟨rfl, hx4⟩
        rw [show (⟨(p.data.toList ++ Z).toArray⟩ : ByteArray).data.toList = p.data.toList ++ Z by simp]
        cases g2 : goodL (p.data.toList ++ Z) with
        | false =>
          have hr := HN.out _ _ G1.out g2
          simp only [Bool.and_false, Bool.false_eq_true, if_false] at hr
          have HR := Lib.hid hr
          clear g2 hr
          go_wp2_with (fail)
          go_ret2
          go_light
          exact ⟨by rw [HR.out]; rfl, hx.ext hx4⟩
        | true =>
          have hr := HN.out _ _ G1.out g2
          simp only [Bool.and_true, if_true] at hr
          have HR := Lib.hid hr
          clear g2 hr
          go_wp2_with (fail)
          go_ret2
          go_light
          exact ⟨by rw [HR.out]; rfl, hx.ext hx4⟩
    · have hr : numberL p.data.toList n = none := by simp [numberL, h1]
      have HR := Lib.hid hr
      have h1' : 2147483647 < n := by omega
      clear hr
      go_enter Tryz.func163, Tryz.ntmps163
      go_wp2_with (fail)
      refine H1.out.mono ?_
      rintro e w1 ⟨rfl, hx1⟩
      cases g1 : goodL p.data.toList
      all_goals
        clear g1
        go_wp2_with (fail)
        go_ret2
        go_light
        exact ⟨by rw [HR.out]; rfl, hx1⟩
  · have hr : numberL p.data.toList n = none := by simp [numberL, h0]
    have HR := Lib.hid hr
    have h0' : n < 0 := by omega
    clear hr
    go_enter Tryz.func163, Tryz.ntmps163
    go_wp2_with (fail)
    refine H1.out.mono ?_
    rintro e w1 ⟨rfl, hx1⟩
    cases g1 : goodL p.data.toList
    all_goals
      clear g1
      go_wp2_with (fail)
      go_ret2
      go_light
      exact ⟨by rw [HR.out]; rfl, hx1⟩
end Go.Proofs.YtdagikbdpeblhaaGreatDoor

/- Walks of package tree: New, fail, wrong, lay, Remove. -/
namespace Go.Proofs.YtdagikbdpeblhaaGreatDoor
set_option maxRecDepth 100000
open Go.RowKit Av

abbrev rsuT : TypeId := 44
def NewPost (w : World) (room : Int) (e : Ending) (w' : World) : Prop := ∃ b m, e = .returned (.tuple #[.pointer (some ⟨b, 0, none⟩), .int .i64 0]) ∧ TreeR w' w.heap.size b m room [] ∧ Ext w w'
set_option maxHeartbeats 800000 in
theorem treeNew_any (room : Int) (w : World) (h1 : 1 ≤ room) (h2 : room ≤ 500) : Calls Tryz.prog 6 #[.int .i64 room] w fun e w' => NewPost w room e w' := by
  have hmm := @run_makeMap Tryz.prog
  have a1 : ¬ room < 1 := by omega
  have a2 : ¬ 500 < room := by omega
  go_enter Tryz.func6, Tryz.ntmps6
  go_wp2_with (fail)
  go_ret2
  go_light
  refine ⟨w.heap.size + 1, w.heap.size, rfl, ⟨⟨by omega, by omega, fun e he => by (cases he)⟩, ?_, ?_, fun e he => by (cases he), fun e he => by (cases he)⟩, ((Kp.refl _ _).alloc _).alloc _⟩
  · have := heap_alloc_new (w.alloc (.map #[] 0)) (.cells #[.int .i64 room, .map (some w.heap.size)] trT)
    rw [World.size_alloc] at this
    exact this
  · exact (MapK.new w).kp ((Kp.refl (fun _ => False) _).alloc _) (fun f => f)
/-- A result: err, path, data, names, stat. -/
def resA (e : Int) (p d : ByteArray) (nv : Value) (n : NodeV) : Value := .agg #[.int .i64 e, .string p, .string d, nv, .int .i64 n.made, .int .i64 n.chg, .int .i64 n.ver, .int .i64 n.kids, .int .i64 n.own, .int .i64 n.len, .int .i64 n.cnt]
def ndZ : NodeV := ⟨0, 0, 0, 0, 0, 0, 0, ⟨#[]⟩, 0, []⟩
set_option maxHeartbeats 800000 in
theorem fail_any (z : Int) (w : World) : Calls Tryz.prog 94 #[.int .i64 z] w fun e w' => e = .returned (resA z ⟨#[]⟩ ⟨#[]⟩ (.slice none 0 0) ndZ) ∧ Ext w w' := by
  go_enter Tryz.func94, Tryz.ntmps94
  obtain ⟨wA, hWA⟩ : ∃ wA, w.alloc (.cells #[.int .i64 z, .string ⟨#[]⟩, .string ⟨#[]⟩, .slice none 0 0, .int .i64 0, .int .i64 0, .int .i64 0, .int .i64 0, .int .i64 0, .int .i64 0, .int .i64 0] rsuT) = wA := ⟨_, rfl⟩
  have hxA : Ext w wA := by rw [← hWA]; exact (Kp.refl _ _).alloc _
  have hA : Blk wA w.heap.size #[.int .i64 z, .string ⟨#[]⟩, .string ⟨#[]⟩, .slice none 0 0, .int .i64 0, .int .i64 0, .int .i64 0, .int .i64 0, .int .i64 0, .int .i64 0, .int .i64 0] rsuT := by rw [← hWA]; exact heap_alloc_new w _
  have g0 := hA.cell 0 _ rfl
  have g1 := hA.cell 1 _ rfl
  have g2 := hA.cell 2 _ rfl
  have g3 := hA.cell 3 _ rfl
  have g4 := hA.cell 4 _ rfl
  have g5 := hA.cell 5 _ rfl
  have g6 := hA.cell 6 _ rfl
  have g7 := hA.cell 7 _ rfl
  have g8 := hA.cell 8 _ rfl
  have g9 := hA.cell 9 _ rfl
  have g10 := hA.cell 10 _ rfl
  have HWA := Lib.hid hWA
  have HXA := Lib.hid hxA
  clear hWA hxA hA
  go_wp2_with (fail)
  rw [HWA.out]
  go_light
  exact bodyPost_ret (v := resA z ⟨#[]⟩ ⟨#[]⟩ (.slice none 0 0) ndZ) (by simp [results, Tryz.results94, go_sem, resA, ndZ, g0, g1, g2, g3, g4, g5, g6, g7, g8, g9, g10]) rfl ⟨rfl, HXA.out⟩
set_option maxHeartbeats 800000 in
theorem wrong_any (k ver f : Int) (p d : ByteArray) (g : Nat) (n : NodeV) (w : World) (h : NdAt w g n) : Calls Tryz.prog 137 #[.agg #[.int .i64 k, .string p, .string d, .int .i64 ver, .int .i64 f], .pointer (some ⟨g, 0, none⟩)] w fun e w' => e = .returned (.bool (ver != -1 && ver != n.ver)) ∧ Ext w w' := by
  obtain ⟨nv, hb, _⟩ := h
  obtain ⟨wA, hWA⟩ : ∃ wA, w.alloc (.cells #[.int .i64 k, .string p, .string d, .int .i64 ver, .int .i64 f] 33) = wA := ⟨_, rfl⟩
  have hxA : Ext w wA := by rw [← hWA]; exact (Kp.refl _ _).alloc _
  have hA : Blk wA w.heap.size #[.int .i64 k, .string p, .string d, .int .i64 ver, .int .i64 f] 33 := by rw [← hWA]; exact heap_alloc_new w _
  have H3 := Lib.hid (hA.cell 3 _ rfl)
  have HV := Lib.hid ((hb.kp hxA (fun f => f)).cell 2 (.int .i64 n.ver) rfl)
  generalize n.ver = nver at HV ⊢
  have HWA := Lib.hid hWA
  have HXA := Lib.hid hxA
  clear hWA hxA hA hb
  go_enter Tryz.func137, Tryz.ntmps137
  go_upto_region 1 with (fail)
  rw [HWA.out]
  by_cases h1 : ver = -1
  · have E1 : Hid ((ver != -1) = false) := by show _ = _; rw [h1]; rfl
    clear h1
    refine' wp_region_dag0 ((5, .val _) :: (6, .val _) :: (7, .val _) :: (8, .val _) :: (9, .val _) :: (10, .val _) :: (11, .val _) :: (12, .val _) :: (13, .val _) :: (14, .val _) :: (15, .val _) :: (16, .val _) :: (17, .val _) :: (4, .val _) :: []) (by exact ⟨fun _ _ _ _ _ => trivial, ⟨fun _ _ _ _ _ => trivial, ⟨fun _ _ _ _ _ => trivial, ⟨fun _ _ _ _ _ => trivial, ⟨fun _ _ _ _ _ => trivial, ⟨fun _ _ _ _ _ => trivial, ⟨fun _ _ _ _ _ => trivial, ⟨fun _ _ _ _ _ => trivial, ⟨fun _ _ _ _ _ => trivial, ⟨fun _ _ _ _ _ => trivial, ⟨fun _ _ _ _ _ => trivial, ⟨fun _ _ _ _ _ => trivial, ⟨fun _ _ _ _ _ => trivial, ⟨fun _ _ _ _ _ => trivial, trivial⟩⟩⟩⟩⟩⟩⟩⟩⟩⟩⟩⟩⟩⟩) (by kernel_rfl) (by kernel_rfl) (by kernel_rfl) ?_
    rotate_left 14
    repeat (first
      | (refine wpD_skipv ?_ ?_ ?_
         focus rfl
         focus rfl
         simp only [Act.put, List.setIfInBounds_toArray, List.set_cons_succ, List.set_cons_zero])
      | (refine' wpD_val (c := _) ?_ (fun w => Kp.refl _ w) ?_ (fun wq hwq hfq => ?_) ?_
         rotate_left
         focus rfl
         focus rfl
         focus ((have h3 := hwq.cell H3.out (fun f => f); have e1 := E1.out); go_simp; first | done | rfl)
         simp only [Act.put, List.setIfInBounds_toArray, List.set_cons_succ, List.set_cons_zero])
      | (refine' wpD_con (c := _) ?_ ?_ (fun wq hwq hfq => ?_) ?_
         rotate_left
         focus rfl
         focus rfl
         focus ((have h3 := hwq.cell H3.out (fun f => f); have e1 := E1.out); go_simp; (try (rw [dUpon_enter])); fail)
         simp only [Act.put, List.setIfInBounds_toArray, List.set_cons_succ, List.set_cons_zero])
      | fail)
    refine wpD_nil ?_
    intro w5 hx5 hend
    clear hend
    have HX5 := Lib.hid (HXA.out.ext hx5)
    clear hx5
    go_wp2_with (fail)
    go_ret
    go_light
    exact ⟨ret_bool (by rw [E1.out]; rfl), HX5.out⟩
  · have E1 : Hid ((ver != -1) = true) := by show _ = _; simpa using h1
    clear h1
    refine' wp_region_dag0 ((5, .val _) :: (6, .val _) :: (7, .val _) :: (8, .val _) :: (9, .val _) :: (10, .val _) :: (11, .val _) :: (12, .val _) :: (13, .val _) :: (14, .val _) :: (15, .val _) :: (16, .val _) :: (17, .val _) :: (4, .val _) :: []) (by exact ⟨fun _ _ _ _ _ => trivial, ⟨fun _ _ _ _ _ => trivial, ⟨fun _ _ _ _ _ => trivial, ⟨fun _ _ _ _ _ => trivial, ⟨fun _ _ _ _ _ => trivial, ⟨fun _ _ _ _ _ => trivial, ⟨fun _ _ _ _ _ => trivial, ⟨fun _ _ _ _ _ => trivial, ⟨fun _ _ _ _ _ => trivial, ⟨fun _ _ _ _ _ => trivial, ⟨fun _ _ _ _ _ => trivial, ⟨fun _ _ _ _ _ => trivial, ⟨fun _ _ _ _ _ => trivial, ⟨fun _ _ _ _ _ => trivial, trivial⟩⟩⟩⟩⟩⟩⟩⟩⟩⟩⟩⟩⟩⟩) (by kernel_rfl) (by kernel_rfl) (by kernel_rfl) ?_
    rotate_left 14
    repeat (first
      | (refine wpD_skipv ?_ ?_ ?_
         focus rfl
         focus rfl
         simp only [Act.put, List.setIfInBounds_toArray, List.set_cons_succ, List.set_cons_zero])
      | (refine' wpD_val (c := _) ?_ (fun w => Kp.refl _ w) ?_ (fun wq hwq hfq => ?_) ?_
         rotate_left
         focus rfl
         focus rfl
         focus ((have h3 := hwq.cell H3.out (fun f => f); have hv := hwq.cell HV.out (fun f => f); have e1 := E1.out); go_simp; first | done | rfl)
         simp only [Act.put, List.setIfInBounds_toArray, List.set_cons_succ, List.set_cons_zero])
      | (refine' wpD_con (c := _) ?_ ?_ (fun wq hwq hfq => ?_) ?_
         rotate_left
         focus rfl
         focus rfl
         focus ((have h3 := hwq.cell H3.out (fun f => f); have hv := hwq.cell HV.out (fun f => f); have e1 := E1.out); go_simp; (try (rw [dUpon_enter])); fail)
         simp only [Act.put, List.setIfInBounds_toArray, List.set_cons_succ, List.set_cons_zero])
      | fail)
    refine wpD_nil ?_
    intro w5 hx5 hend
    clear hend
    have HX5 := Lib.hid (HXA.out.ext hx5)
    clear hx5
    go_wp2_with (fail)
    go_ret
    go_light
    exact ⟨ret_bool (by rw [E1.out]; rfl), HX5.out⟩
end Go.Proofs.YtdagikbdpeblhaaGreatDoor

/- Walks of package tree: lay, Remove. -/
namespace Go.Proofs.YtdagikbdpeblhaaGreatDoor
set_option maxRecDepth 100000
open Go.RowKit Av

/-- What a node's numbers and names are. -/
structure NodeOk (n : NodeV) : Prop where
  rise : Rising n.names
  few : n.names.length ≤ 100000
  ver : -9223372036854775808 ≤ n.ver
  kids : -9223372036854775808 ≤ n.kids
  next : -9223372036854775808 ≤ n.next
def TrOk (t : Tr) : Prop := ∀ e ∈ t, NodeOk e.2.2
/-- A parent hears of its child. -/
def tellUp (f : NodeV → Bs → NodeV) (t : Tr) (p : ByteArray) : Tr := match parentL p.data.toList with
  | none => t
  | some up => match mget t ⟨up.toArray⟩ with
    | none => t
    | some (g, n) => mset t ⟨up.toArray⟩ (g, f n (lastL p.data.toList))
def nodeFr (m : Nat) (t : Tr) (i : Nat) : Prop := i = m ∨ ∃ e ∈ t, i = e.2.1
theorem zPtr (w : World) : (zeroValue 117).run Tryz.prog w = .ok (.pointer none) w := by kernel_rfl
theorem tree_look {w : World} {base b m : Nat} {room : Int} {t : Tr} (h : TreeR w base b m room t) (p : ByteArray) : (Instr.lookup 102 (.map (some m)) (.string p) false).run Tryz.prog w = .ok (((mget t p).map fun e => Value.pointer (some ⟨e.1, 0, none⟩)).getD (.pointer none)) w := by
  have := MapK.lookup kStr tNodes h.map (.pointer none) zPtr p false
  rw [mget_ptrs] at this
  exact this
/-- What old memory keeps. -/
theorem gl_keep {w0 w w' : World} {base b m : Nat} {room : Int} {t : Tr} (hG : GL w0) (hb : w0.heap.size ≤ base) (hT : TreeR w base b m room t) (hw : GL w) (k : Kp (nodeFr m t) w w') : GL w' := by
  obtain ⟨x, hx⟩ := hG
  have hlt := World.block_lt_of_cell? w0 _ hx
  refine hw.kp k (fun hs => ?_)
  rcases hs with hs | ⟨e, he, hs⟩
  · have := hT.low.2.1
    simp only at hlt
    omega
  · have := hT.low.2.2 e he
    simp only at hlt
    omega
def LayPost (w : World) (base b m : Nat) (room : Int) (t : Tr) (p : ByteArray) (n : NodeV) (e : Ending) (w' : World) : Prop :=
  (∃ u, e = .returned u) ∧ ∃ g, w.heap.size ≤ g ∧ TreeR w' base b m room (tellUp ndAdd (mset t p (g, n)) p) ∧ Kp (nodeFr m t) w w'
theorem mset_ok {t : Tr} (h : TrOk t) (hk : (t.map (·.1)).Nodup) {p : ByteArray} {g : Nat} {n : NodeV} (hn : NodeOk n) : TrOk (mset t p (g, n)) := by
  intro e he
  rcases mem_mset hk he with rfl | ⟨he, _⟩
  · exact hn
  · exact h e he
set_option maxHeartbeats 3200000 in
theorem treeLay_any (base b m : Nat) (room : Int) (t : Tr) (p : ByteArray) (n : NodeV) (nv : Value) (w0 w : World) (hT : TreeR w base b m room t) (hok : TrOk t) (hn : NodeOk n) (hown : w.ownsRow 0 strT 1 nv n.names.length (n.names.map encStr)) (hG0 : GL w0) (hb0 : w0.heap.size ≤ base) (hG : GL w) (hp : p.size ≤ 1000000) :
    Calls Tryz.prog 136 #[.pointer (some ⟨b, 0, none⟩), .string p, .agg (ndA n nv)] w fun e w' => LayPost w base b m room t p n e w' := by
  obtain ⟨na, nc, rfl⟩ := owns_slice hown
  obtain ⟨wA, hWA⟩ : ∃ wA, w.alloc (.cells (ndA n (.slice na n.names.length nc)) ndT) = wA := ⟨_, rfl⟩
  have hxA : Ext w wA := by rw [← hWA]; exact (Kp.refl _ _).alloc _
  have hA : NdAt wA w.heap.size n := ⟨_, by rw [← hWA]; exact heap_alloc_new w _, ownsRow.ext hown hxA⟩
  have hTA := hT.ext hxA
  obtain ⟨wM, u1, u2, u3, u4⟩ := MapK.update kStr tNodes hTA.map p (.pointer (some ⟨w.heap.size, 0, none⟩))
  have hbw : base ≤ w.heap.size := by have := hT.low.1; have := hT.blk.lt; omega
  have hTM := hTA.lay hbw hA (fun e he e2 => by have := (hT.nod e he).lt; omega) u2 u3
  have hkM : Kp (nodeFr m t) w wM := (Ext.kp hxA).trans (u3.mono (fun i _ e => .inl e))
  have hGM := gl_keep hG0 hb0 hT hG hkM
  have HTM := Lib.hid hTM
  have HKM := Lib.hid hkM
  have HOK := Lib.hid (mset_ok (p := p) (g := w.heap.size) hok hT.keys hn)
  have c1 := hTA.blk.cell 1 _ rfl
  have HPA := Lib.hid (Parent_any p wM hGM (by unfold maxLen; omega))
  have HNA := Lib.hid (fun W (hx : Ext wM W) => pathName_any p W (hGM.ext hx) (by unfold maxLen; omega))
  have HWA := Lib.hid hWA
  have HU1 := Lib.hid u1
  generalize ht1 : mset t p (w.heap.size, n) = t1 at HTM HOK
  have HT1 := Lib.hid ht1
  clear hT hok hn hown hG hG0 hb0 hp hWA hxA hA hTA u1 u2 u3 u4 hTM hkM hGM hbw ht1
  unfold ndA at HWA ⊢
  go_enter Tryz.func136, Tryz.ntmps136
  go_upto_region 1 with (fail)
  rw [HWA.out]
  have hu1 := HU1.out
  go_wp2_with (fail)
  refine HPA.out.mono ?_
  rintro e w2 ⟨rfl, hx2⟩
  have HT2 := Lib.hid (HTM.out.ext hx2)
  have HK2 := Lib.hid (HKM.out.ext hx2)
  have HX2 := Lib.hid hx2
  clear hx2 HPA hu1 c1
  cases hup : parentL p.data.toList with
  | none =>
    have HE : Hid (tellUp ndAdd t1 p = t1) := by show _ = _; unfold tellUp; rw [hup]
    clear hup
    go_wp2_with (fail)
    go_light
    exact bodyPost_end (results_none (by rfl) _ _ _) rfl ⟨⟨_, rfl⟩, w.heap.size, Nat.le_refl _, by rw [HT1.out, HE.out]; exact HT2.out, HK2.out⟩
  | some up =>
    have hlk := tree_look HT2.out ⟨up.toArray⟩
    have c1 := HT2.out.blk.cell 1 _ rfl
    have hos : optS (some up) = ⟨up.toArray⟩ := rfl
    rw [hos]
    cases hg : mget t1 ⟨up.toArray⟩ with
    | none =>
      have HE : Hid (tellUp ndAdd t1 p = t1) := by show _ = _; unfold tellUp; simp only [hup, hg]
      rw [hg] at hlk
      simp only [Option.map_none, Option.getD_none] at hlk
      clear hup hg hos
      go_wp2_with (fail)
      go_light
      exact bodyPost_end (results_none (by rfl) _ _ _) rfl ⟨⟨_, rfl⟩, w.heap.size, Nat.le_refl _, by rw [HT1.out, HE.out]; exact HT2.out, HK2.out⟩
    | some gn =>
      obtain ⟨g2, n2⟩ := gn
      have HE : Hid (tellUp ndAdd t1 p = mset t1 ⟨up.toArray⟩ (g2, ndAdd n2 (lastL p.data.toList))) := by show _ = _; unfold tellUp; simp only [hup, hg]
      rw [hg] at hlk
      simp only [Option.map_some, Option.getD_some] at hlk
      have HGE := Lib.hid hg
      have hmem := mget_mem hg
      have HOK2 := Lib.hid (HOK.out _ hmem)
      have HND := Lib.hid (HT2.out.nod _ hmem)
      have HLK := Lib.hid (fun W (hx : Ext w2 W) => by have := tree_look (HT2.out.ext hx) ⟨up.toArray⟩; rw [hg] at this; exact this)
      have HC1 := Lib.hid c1
      have HIN : Hid (g2 < w.heap.size → ∃ e ∈ t, g2 = e.2.1) := by
        intro hlt
        rw [← HT1.out] at hg
        rw [mget_mset] at hg
        by_cases hpu : (⟨up.toArray⟩ : ByteArray) = p
        · rw [if_pos hpu] at hg
          simp only [Option.some.injEq, Prod.mk.injEq] at hg
          omega
        · rw [if_neg hpu] at hg
          exact ⟨_, mget_mem hg, rfl⟩
      clear hup hg hos hmem
      go_upto_region 4 with (fail)
      refine' wp_region_dagK 8 [] ((28, .val _) :: (29, .val _) :: (30, .val _) :: (31, .val _) :: (32, .val _) :: (33, .val _) :: (34, .val _) :: (35, .val _) :: []) (by exact ⟨fun _ _ _ _ _ => trivial, ⟨fun _ _ _ _ _ => trivial, ⟨fun _ _ _ _ _ => trivial, ⟨fun _ _ _ _ _ => trivial, ⟨fun _ _ _ _ _ => trivial, ⟨fun _ _ _ _ _ => trivial, ⟨fun _ _ _ _ _ => trivial, ⟨fun _ _ _ _ _ => trivial, trivial⟩⟩⟩⟩⟩⟩⟩⟩) (by kernel_rfl) (by kernel_rfl) (by kernel_rfl) ?_
      rotate_left 8
      simp only [List.take_succ_cons, List.take_zero]
      repeat (first
        | (refine wpD_skipv ?_ ?_ ?_
           focus rfl
           focus rfl
           simp only [Act.put, List.setIfInBounds_toArray, List.set_cons_succ, List.set_cons_zero])
        | (refine' wpD_val (c := _) ?_ (fun w => Kp.refl _ w) ?_ (fun wq hwq hfq => ?_) ?_
           rotate_left
           focus rfl
           focus rfl
           focus ((have hext : Ext w2 wq := hwq.mono (fun i hi e => by omega); have c1 := hext.cell HC1.out (fun f => f); have hlk := HLK.out wq hext); go_simp; first | done | rfl)
           simp only [Act.put, List.setIfInBounds_toArray, List.set_cons_succ, List.set_cons_zero])
        | (refine' wpD_con (c := _) ?_ ?_ (fun wq hwq hfq => ?_) ?_
           rotate_left
           focus rfl
           focus rfl
           focus ((have hext : Ext w2 wq := hwq.mono (fun i hi e => by omega); have c1 := hext.cell HC1.out (fun f => f); have hlk := HLK.out wq hext); go_simp; (try (rw [dUpon_enter])); ((with_reducible refine (HNA.out _ (HX2.out.ext hext)).mono ?_); rintro e w' ⟨rfl, hx⟩; exact DEnd.con hx))
           simp only [Act.put, List.setIfInBounds_toArray, List.set_cons_succ, List.set_cons_zero])
        | fail)
      refine wpD_nil ?_
      intro w5 hx5 hend
      clear hend
      have hx5' : Ext w2 w5 := hx5.mono (fun i hi e => by omega)
      have HT5 := Lib.hid (HT2.out.ext hx5')
      have HK5 := Lib.hid (HK2.out.ext hx5')
      have HADD := Lib.hid (statAdd_any g2 n2 (lastL p.data.toList) w5 (HND.out.ext hx5') HOK2.out.rise HOK2.out.few HOK2.out.kids HOK2.out.next)
      clear hx5 hx5'
      go_wp2_with (fail)
      refine HADD.out.mono ?_
      rintro e w6 ⟨⟨u, rfl⟩, hnd6, hk6⟩
      have HT6 := Lib.hid (HT5.out.put HGE.out hnd6 hk6)
      have HK6 : Hid (Kp (nodeFr m t) w w6) := HK5.out.next hk6 (fun i hi e => by
        subst e
        exact .inr (HIN.out hi))
      clear hnd6 hk6
      go_wp2_with (fail)
      go_light
      exact bodyPost_end (results_none (by rfl) _ _ _) rfl ⟨⟨_, rfl⟩, w.heap.size, Nat.le_refl _, by rw [HT1.out, HE.out]; exact HT6.out, HK6.out⟩
end Go.Proofs.YtdagikbdpeblhaaGreatDoor
