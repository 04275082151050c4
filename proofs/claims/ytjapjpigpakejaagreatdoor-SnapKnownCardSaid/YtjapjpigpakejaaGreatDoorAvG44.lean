/- Texts put together: AvLaw14E, AvTreeCon, AvOpsArg, AvLaw14W. -/
import Derived.Test.YtjapjpigpakejaaGreatDoorAvG43
import Derived.Test.YtjapjpigpakejaaGreatDoorAvG34
import Derived.Test.YtjapjpigpakejaaGreatDoorAvG2
import Derived.Test.YtjapjpigpakejaaGreatDoorAvG14
import Derived.Carry
import Derived.Test.YtjapjpigpakejaaGreatDoorAvG33

/- Walks of package aviarylaw14: SnapKnown. -/
namespace Go.Proofs.YtjapjpigpakejaaGreatDoor
set_option maxRecDepth 100000
open Go.RowKit Av

def oKa : OpV := ⟨1, ⟨#[47, 97]⟩, ⟨#[120]⟩, 0, 0⟩
def oKb : OpV := ⟨1, ⟨#[47, 97, 47, 98]⟩, ⟨#[]⟩, 0, 0⟩
theorem known_two : (doP 5 (doP 5 [] oKa 1 1 false).1 oKb 1 2 false).1.length = 2 := by decide +kernel
abbrev pAB : ByteArray := ⟨#[47, 97, 47, 98]⟩
def PO : Pt := [(pAB, ndZ)]
theorem po_get (p : ByteArray) : mget PO p = if p = pAB then some ndZ else none := rfl
theorem po_num : AllN NumOk PO := fun p n h => by
  rw [po_get] at h
  split at h
  · simp only [Option.some.injEq] at h
    subst h
    have h0 : (0 : Int) ≤ 0 ∧ (0 : Int) ≤ mostN := by unfold mostN; omega
    exact ⟨⟨by decide, by decide⟩, ⟨by decide, by decide⟩, h0, h0, ⟨by decide, by decide⟩, h0⟩
  · cases h
theorem po_ok : OkT PO := by
  refine ⟨fun p n h => ?_, fun p n h => ?_, by decide⟩
  · rw [po_get] at h
    split at h
    · rename_i e
      subst e
      decide +kernel
    · cases h
  · rw [po_get] at h
    split at h
    · simp only [Option.some.injEq] at h
      subst h
      exact ⟨rfl, rfl, by decide, fun x hx => by cases hx⟩
    · cases h
theorem po_k : PtK 0 PO := ⟨by decide, fun e he => by
  obtain rfl : e = (pAB, ndZ) := by simpa [PO] using he
  exact ⟨List.Pairwise.nil, Nat.le_refl _, by decide, by decide, by decide⟩⟩
theorem entsB_gen {P : Pt} {K : Nat} (hk : PtK K P) (hK : K ≤ 500) (ho : OkT P) (hn : AllN NumOk P) : EntsB (ownL P) := by
  have hmem : ∀ e ∈ ownL P, mget P e.1 = some e.2 := fun e he => by
    have h1 := mget_of_mem (rise_nodup (own_sorted hk.1).rise) (k := e.1) he
    rw [(own_sorted hk.1).get] at h1
    exact h1
  refine ⟨(own_sorted hk.1).rise, fun e he => ho.good _ _ (hmem e he), fun e he => ?_, fun e he => (hk.2 _ (mget_mem (hmem e he))).rise, ?_⟩
  · exact nodeB_of (hn _ _ (hmem e he)) (ho.parts _ _ (hmem e he)) (hk.2 _ (mget_mem (hmem e he))) hK
  · rw [own_len]; exact ho.size
theorem po_sound : soundB (ownL PO) = false := by
  have hg := (own_sorted po_k.1).get
  have h1 : ([47, 97, 47, 98] : Bs) ∈ pathsP (ownL PO) := paths_mem.2 (by rw [hg, po_get]; decide)
  have h2 : upOk (ownL PO) [47, 97, 47, 98] = false := by
    have hp : parentL ([47, 97, 47, 98] : Bs) = some [47, 97] := by decide +kernel
    unfold upOk
    rw [hp]
    simp only
    rw [hg, po_get, if_neg (by decide)]
  have h3 : (pathsP (ownL PO)).all (upOk (ownL PO)) = false := by
    rw [← Bool.not_eq_true, List.all_eq_true]
    intro h
    have := h _ h1
    rw [h2] at this
    cases this
  unfold soundB
  rw [h3]; rfl
theorem po_load : loadP true 5 [] pAB ndZ = (PO, 0) := by decide +kernel
set_option maxHeartbeats 12800000 in
theorem snapKnown_any (w : World) (hG : GT w) : Calls Tryz.prog 5 #[] w fun e w' => e = .returned (.bool true) ∧ Ext w w' := by
  have HG := Lib.hid hG
  clear hG
  go_enter Tryz.func5, Tryz.ntmps5
  go_wp2_with (fail)
  refine (snapAwake_any w HG.out).mono ?_
  rintro e w1 ⟨rfl, hx1⟩
  have HX1 := Lib.hid hx1
  have HG1 := Lib.hid (HG.out.ext hx1)
  clear hx1 HG
  go_wp2_with (fail)
  refine (tsNew 5 w1 w1 (Kp.refl _ _) (by omega) (by omega)).mono ?_
  rintro e w2 ⟨b, m, rfl, h2, _, _, _⟩
  have HD1 := Lib.hid (tsDo h2 HG1.out (by omega) oKa 1 1 (by decide) (by decide))
  clear h2
  unfold oKa at HD1
  simp only at HD1
  go_wp2_with (fail)
  refine HD1.out.mono ?_
  rintro e w3 ⟨t3, nv3, rfl, _, h3, hp3, _, _⟩
  have HD2 := Lib.hid (tsDo h3 HG1.out (by omega) oKb 1 2 (by decide) (by decide))
  have HP3 := Lib.hid hp3
  clear h3 hp3 HD1
  unfold oKb at HD2
  simp only at HD2
  go_wp2_with (fail)
  refine HD2.out.mono ?_
  rintro e w4 ⟨t, nv4, rfl, _, h4, hp4, _, _⟩
  have HT4 := Lib.hid h4
  have hgd : GoodS 5 (pl t) := by
    rw [hp4, HP3.out]
    have hg0 : GoodS 5 (pl ([] : Tr)) := GoodS.nil (by omega)
    have hk0 : PtK 0 (pl ([] : Tr)) := PtK.nil
    have hg1 := hg0.step hk0 oKa (sess := 1) (z := 1) ⟨by omega, by omega⟩ ⟨by omega, by omega⟩
    exact hg1.step (hk0.doP 5 oKa 1 1 false) oKb (sess := 1) (z := 2) ⟨by omega, by omega⟩ ⟨by omega, by omega⟩
  have hln : (pl t).length = 2 := by rw [hp4, HP3.out]; exact known_two
  have HGD := Lib.hid hgd
  have hpk := h4.pk
  have HSD := Lib.hid (sound_own hgd hpk)
  have HOL : Hid ((ownL (pl t)).length = 2) := by show _ = _; rw [own_len, hln]
  have HOG : Hid (∀ p, mget (ownL (pl t)) p = mget (pl t) p) := (own_sorted hpk.1).get
  have HPUT : Hid (∀ W, Ext w4 W → Calls Tryz.prog 34 #[.pointer (some ⟨b, 0, none⟩)] W fun e w' => ∃ v, e = .returned v ∧ OwnBy w' W.heap.size v (encL (ownL (pl t))) ∧ Ext W w') := fun W hW => snapPut_any (HT4.out.ext hW) (hgd.ok (by omega)) (by omega)
  have HGE : Hid (∀ W v (rm : Int), Ext w1 W → BytesR W v (encL (ownL (pl t))) → 1 ≤ rm → rm ≤ 500 → Calls Tryz.prog 33 #[v, .int .i64 rm] W fun e w' => GetPost W rm 2 (ownL (pl t)) e w') := fun W v rm hW hb h1 h2 =>
    snapGet_enc (ownL (pl t)) 2 v rm W (HG1.out.ext hW) hb (hgd.ents hpk (by omega) (by omega)) (own_nk hpk) (by omega) (encL_small hpk (by omega) (hgd.ok (by omega))) h1 h2
  clear h4 hp4 HD2 HP3 hgd hln hpk
  go_wp2_with (fail)
  refine (HPUT.out w4 (Kp.refl _ _)).mono ?_
  rintro e w5 ⟨v5, rfl, hb5, hx5⟩
  have HX5 := Lib.hid hx5
  clear hb5 hx5
  go_wp2_with (fail)
  refine (snapGet_bad v5 0 w5 (.inl (by omega))).mono ?_
  rintro e w6 ⟨rfl, hx6⟩
  have HX6 := Lib.hid (HX5.out.trans hx6)
  clear hx6 HX5
  go_wp2_with (fail)
  refine (HPUT.out w6 HX6.out).mono ?_
  rintro e w7 ⟨v7, rfl, hb7, hx7⟩
  have HB7 := Lib.hid hb7.bytes
  have HX7 := Lib.hid (HX6.out.trans hx7)
  clear hb7 hx7 HX6
  go_wp2_with (fail)
  refine (HGE.out w7 v7 1 (HT4.out.ex.trans HX7.out) HB7.out (by omega) (by omega)).mono ?_
  rintro e w8 ⟨hx8, hcase⟩
  rcases hcase with ⟨hf, _⟩ | ⟨_, _, rfl⟩ | ⟨_, hr, _⟩
  · rw [HSD.out] at hf; cases hf
  · have HX8 := Lib.hid (HX7.out.trans hx8)
    clear hx8 HX7 HB7
    go_wp2_with (fail)
    refine (HPUT.out w8 HX8.out).mono ?_
    rintro e w9 ⟨v9, rfl, hb9, hx9⟩
    have HB9 := Lib.hid hb9.bytes
    have HX9 := Lib.hid (HX8.out.trans hx9)
    clear hb9 hx9 HX8
    go_wp2_with (fail)
    refine (HGE.out w9 v9 2 (HT4.out.ex.trans HX9.out) HB9.out (by omega) (by omega)).mono ?_
    rintro e w10 ⟨hx10, hcase⟩
    rcases hcase with ⟨hf, _⟩ | ⟨_, hr, _⟩ | ⟨_, _, b', m', u, rfl, hu, hget, hlen⟩
    · rw [HSD.out] at hf; cases hf
    · rw [HOL.out] at hr; omega
    · have hT9 := HT4.out.ext HX9.out
      have HT10 := Lib.hid (hT9.ext hx10)
      have HU10 : Hid (TS w1 w10 b' m' 2 2 u) := ⟨hu.tr.less hT9.ex.size, hu.pk, hT9.ex.trans hx10⟩
      have hsame : ∀ p, mget (pl u) p = mget (pl t) p := fun p => by rw [hget, HOG.out]
      have HOU : Hid (OkT (pl u)) := by
        refine ⟨fun p n hp => (HGD.out.ok (by omega)).good p n (by rw [← hsame]; exact hp), fun p n hp => HGD.out.parts p n (by rw [← hsame]; exact hp), ?_⟩
        rw [hlen, HOL.out]; omega
      have HEQ : Hid (ownL (pl t) = ownL (pl u)) := own_same HT4.out.pk.1 hu.pk.1 (fun p => (hsame p).symm)
      clear hT9 hu hget hlen hsame hx10 HX9 HB9 HGE HSD HOG HPUT
      go_wp2_with (fail)
      refine (snapGet_nil (.slice none 0 0) 5 w10 (BytesR.nil _) (by omega) (by omega)).mono ?_
      rintro e w11 ⟨rfl, hx11⟩
      have HT11 := Lib.hid (HT10.out.ext hx11)
      have HU11 := Lib.hid (HU10.out.ext hx11)
      clear hx11 HT10 HU10
      go_wp2_with (fail)
      refine (tsNew 5 w11 w11 (Kp.refl _ _) (by omega) (by omega)).mono ?_
      rintro e w12 ⟨bo, mo, rfl, ho, hx12, _, _⟩
      have HAT := Lib.hid (Apart.new (b' := bo) (m' := mo) HT11.out.tr ho.tr (Nat.le_refl _)).symm
      have HAU := Lib.hid (Apart.new (b' := bo) (m' := mo) HU11.out.tr ho.tr (Nat.le_refl _)).symm
      have HT12 := Lib.hid (HT11.out.ext hx12)
      have HU12 := Lib.hid (HU11.out.ext hx12)
      have HO12 : Hid (TS w1 w12 bo mo 5 0 []) := ⟨ho.tr.less HT11.out.ex.size, ho.pk, HT11.out.ex.trans hx12⟩
      have hld := tsLoad HO12.out HG1.out (by omega) pAB ndZ (.slice none 0 0) true (by decide) ⟨Sl.nil _ _, .inl rfl⟩ ⟨List.Pairwise.nil, Nat.le_refl _, by decide, by decide, by decide⟩ (fun s hs => by cases hs) ⟨fun _ => ⟨by decide +kernel, ⟨fun j hj => by simp [ndZ] at hj, by decide⟩⟩, fun _ => rfl⟩
      rw [show pl ([] : Tr) = [] from rfl, po_load] at hld
      have HLD := Lib.hid hld
      clear ho hx12 hld HT11 HU11
      unfold ndA ndZ at HLD
      simp only at HLD
      go_wp2_with (fail)
      refine HLD.out.mono ?_
      rintro e w13 ⟨o, rfl, ho, hpo, hk, _⟩
      have HT13 := Lib.hid (TS.other HAT.out HO12.out HT12.out hk)
      have HU13 := Lib.hid (TS.other HAU.out HO12.out HU12.out hk)
      have HO13 := Lib.hid ho
      have HPO := Lib.hid hpo
      have HOO : Hid (OkT (pl o)) := by show OkT _; rw [hpo]; exact po_ok
      have HPUT := Lib.hid (snapPut_any ho HOO.out (by omega))
      rw [hpo] at HPUT
      have HGE : Hid (∀ W v, Ext w1 W → BytesR W v (encL (ownL PO)) → Calls Tryz.prog 33 #[v, .int .i64 5] W fun e w' => GetPost W 5 0 (ownL PO) e w') := fun W v hW hb =>
        snapGet_enc (ownL PO) 0 v 5 W (HG1.out.ext hW) hb (entsB_gen po_k (by omega) po_ok po_num) (own_nk po_k) (by omega) (encL_small po_k (by omega) po_ok) (by omega) (by omega)
      clear ho hpo hk HLD HT12 HU12 HO12 HAT HAU
      go_wp2_with (fail)
      refine HPUT.out.mono ?_
      rintro e w14 ⟨v14, rfl, hb14, hx14⟩
      have HB14 := Lib.hid hb14.bytes
      have HX14 := Lib.hid hx14
      clear hb14 hx14 HPUT
      go_wp2_with (fail)
      refine (HGE.out w14 v14 (HO13.out.ex.trans HX14.out) HB14.out).mono ?_
      rintro e w15 ⟨hx15, hcase⟩
      rcases hcase with ⟨_, rfl⟩ | ⟨hf, _⟩ | ⟨hf, _⟩
      · have HX15 := Lib.hid (HX14.out.trans hx15)
        have HS1 := Lib.hid (snapSame_any (HT13.out.ext HX15.out) (HU13.out.ext HX15.out) (HGD.out.ok (by omega)) HOU.out (by omega) (by omega))
        rw [decide_eq_true HEQ.out] at HS1
        have HS2 := Lib.hid (fun W (hW : Ext w15 W) => snapSame_any ((HT13.out.ext HX15.out).ext hW) ((HO13.out.ext HX15.out).ext hW) (HGD.out.ok (by omega)) HOO.out (by omega) (by omega))
        rw [decide_eq_false (fun h : ownL (pl t) = ownL (pl o) => by
          have h1 := congrArg List.length h
          rw [HOL.out, HPO.out, own_len] at h1
          cases h1)] at HS2
        clear hx15 HB14 HGE HX14
        go_wp2_with (fail)
        refine HS1.out.mono ?_
        rintro e w16 ⟨rfl, hx16⟩
        have HX16 := Lib.hid hx16
        clear hx16 HS1
        go_wp2_with (fail)
        refine (HS2.out w16 HX16.out).mono ?_
        rintro e w17 ⟨rfl, hx17⟩
        have HX17 := Lib.hid (HX1.out.trans ((HT13.out.ex.trans HX15.out).trans (HX16.out.trans hx17)))
        clear hx17 HS2
        go_wp2_with (fail)
        go_ret
        exact ⟨rfl, HX17.out⟩
      · rw [po_sound] at hf; cases hf
      · rw [po_sound] at hf; cases hf
  · rw [HOL.out] at hr; omega
end Go.Proofs.YtjapjpigpakejaaGreatDoor

/- Arguments of the tree's laws; tables. -/
namespace Go.Proofs.YtjapjpigpakejaaGreatDoor
set_option maxRecDepth 100000
open Go.ChangeShapes Go.WideShapes Go.ChangeAt Go.RowKit Av

theorem gt_of {W : World} {laid : List (String × DataW Unit)} (hsh : W.ShapedOpen Tryz.prog) (h : laidMet Tryz.prog laid W) (hl : (laid.filter fun x => x.1 == "internal/strconv.uint64pow10") = [("internal/strconv.uint64pow10", Lib.tabData .u64 Lib.pow10Tab)]) : GT W :=
  ⟨gl_of_shape hsh, tab_of_laid h hl⟩
/-- An op that comes in as an argument. -/
theorem arg_op {H : Type} {enc : TypeId × Value → H} {W : World} {base : Nat} {r : Reach} {v : Value} {d : DataW H} {p : List MemPlace} (hv : Value.okWide Tryz.prog W r base 30 v) (h : DataW.Trod enc Tryz.prog W 0 (fun _ => true) true 30 v d p) :
    ∃ o : OpV, v = o.val ∧ (o.path.size ≤ maxLen ∧ o.data.size ≤ maxLen) ∧ Op64 o := by
  obtain ⟨cs, rfl, _⟩ := okWide_struct Tryz.underlying30 hv
  obtain ⟨fuel, h⟩ := h
  obtain ⟨o, hcs, h1, h2, h3⟩ := trod_op h
  obtain ⟨cs⟩ := cs
  simp only [Value.cells] at hcs
  subst hcs
  exact ⟨o, rfl, ⟨h1, h2⟩, h3⟩
end Go.Proofs.YtjapjpigpakejaaGreatDoor

/- Ops that come in as an argument. -/
namespace Go.Proofs.YtjapjpigpakejaaGreatDoor
set_option maxRecDepth 100000
open Go.ChangeShapes Go.WideShapes Go.ChangeAt Go.RowKit Av

theorem arg_opsl {H : Type} {enc : TypeId × Value → H} {W : World} {base : Nat} {r : Reach} {v : Value} {d : DataW H} {p : List MemPlace} (hv : Value.okWide Tryz.prog W r base 69 v) (h : DataW.Trod enc Tryz.prog W 0 (fun _ => true) true 69 v d p) :
    ∃ xs : List OpV, OpsAt W v xs ∧ OpsSz xs ∧ ∀ o ∈ xs, Op64 o := by
  obtain ⟨a0, len, cap, rfl⟩ := okWide_slice Tryz.underlying69 hv
  obtain ⟨n, h⟩ := h
  obtain ⟨v', hcs, xs, h1, h2, h3⟩ := trod_ops h
  simp only [Value.cells, List.cons.injEq, and_true] at hcs
  subst hcs
  exact ⟨xs, h1, h2, h3⟩
end Go.Proofs.YtjapjpigpakejaaGreatDoor

/- From the rows' arguments to the walks: SnapKnown. -/
namespace Go.Proofs.YtjapjpigpakejaaGreatDoor
set_option maxRecDepth 100000
open Go.ChangeShapes Go.WideShapes Go.ChangeAt Go.RowKit Av

theorem snapKnown_con {H : Type} {enc : TypeId × Value → H} (W : World) (base : Nat) (args : Array Value) (ds : List (DataW H)) (p : List MemPlace)
    (_hval : ∀ (j : Nat) t v, Tryz.f5.params[j]? = some t → args[j]? = some v → Value.okWide Tryz.prog W .any base t v)
    (hA : DataW.TrodAll enc Tryz.prog W 0 (fun _ => true) true Tryz.f5.params.toList args.toList ds p)
    (hsh : W.ShapedOpen Tryz.prog) (hl : laidMet Tryz.prog Rows.snapKnownRow.laid W) : Calls Tryz.prog 5 args W fun e W' => e = .returned (.bool true) ∧ Ext W W' := by
  rw [Tryz.params5] at hA
  obtain ⟨rfl, rfl, rfl⟩ := trodAll_none hA
  exact snapKnown_any W (gt_of hsh hl (by kernel_rfl))
end Go.Proofs.YtjapjpigpakejaaGreatDoor
