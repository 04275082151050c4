/- Texts put together: AvLaw14C, AvTreeCon, AvOpsArg, AvLaw14Y. -/
import Derived.Test.YtjapjpigpakejaaGreatDoorAvG43
import Derived.Test.YtjapjpigpakejaaGreatDoorAvG34
import Derived.Test.YtjapjpigpakejaaGreatDoorAvG2
import Derived.Test.YtjapjpigpakejaaGreatDoorAvG14
import Derived.Carry
import Derived.Test.YtjapjpigpakejaaGreatDoorAvG33

/- Walks of package aviarylaw14: SnapRoom. -/
namespace Go.Proofs.YtjapjpigpakejaaGreatDoor
set_option maxRecDepth 100000
open Go.RowKit Av

def oNew : OpV := ⟨1, ⟨#[47, 110, 101, 119]⟩, ⟨#[]⟩, 0, 0⟩
theorem full_new {room : Int} {t : Pt} (h : mget t ⟨#[47, 110, 101, 119]⟩ = none) (hl : room ≤ (t.length : Int)) : doP room t oNew 1 1 false = (t, ⟨9, ⟨#[]⟩, ⟨#[]⟩, [], ndZ⟩) := by
  have hg : goodO oNew = 0 := by decide +kernel
  have hp : parentL oNew.path.data.toList = none := by decide +kernel
  have hq : placeP room t oNew.path oNew.flags = (⟨#[]⟩, 9) := by
    unfold placeP
    rw [hp]
    simp only
    unfold finQ
    rw [show mget t oNew.path = none from h, if_neg (by simp), if_pos hl]
  unfold doP
  rw [if_neg (by rw [hg]; simp), if_neg (by omega), if_pos (show oNew.kind = 1 from rfl)]
  unfold createP
  simp only [hq]
  rfl
set_option maxHeartbeats 12800000 in
theorem snapRoom_any (v1 : Value) (xs : List OpV) (w : World) (hG : GT w) (h1 : OpsAt w v1 xs) :
    Calls Tryz.prog 7 #[v1] w fun e w' => e = .returned (.bool true) ∧ Ext w w' := by
  have HG := Lib.hid hG
  have HA := Lib.hid (fun W (hW : Ext w W) => grown_any v1 xs W (hG.ext hW) (h1.ext hW))
  clear hG h1
  go_enter Tryz.func7, Tryz.ntmps7
  go_wp2_with (fail)
  refine (snapAwake_any w HG.out).mono ?_
  rintro e w1 ⟨rfl, hx1⟩
  have HX1 := Lib.hid hx1
  clear hx1
  go_wp2_with (fail)
  refine (HA.out w1 HX1.out).mono ?_
  rintro e w2 ⟨hx2, hcA⟩
  have HX2 := Lib.hid (HX1.out.trans hx2)
  rcases hcA with rfl | ⟨b, m, t, rfl, ht, hgt⟩
  · clear hx2 HA
    go_wp2_with (fail)
    go_ret
    exact ⟨rfl, HX2.out⟩
  · have HT2 := Lib.hid ht
    have HGT := Lib.hid hgt
    have HLN := Lib.hid (fun W (hW : Ext w2 W) => tsLen (ht.ext hW))
    have hsz : ((pl t).length : Int) ≤ 60 := hgt.snd.size
    have hpk := ht.pk
    have HSD := Lib.hid (sound_own hgt hpk)
    have HPUT : Hid (∀ W, Ext w2 W → Calls Tryz.prog 34 #[.pointer (some ⟨b, 0, none⟩)] W fun e w' => ∃ v, e = .returned v ∧ OwnBy w' W.heap.size v (encL (ownL (pl t))) ∧ Ext W w') := fun W hW => snapPut_any (ht.ext hW) (hgt.ok (by omega)) (by omega)
    have HGE : Hid (∀ W v (rm : Int), Ext w W → BytesR W v (encL (ownL (pl t))) → 1 ≤ rm → rm ≤ 500 → Calls Tryz.prog 33 #[v, .int .i64 rm] W fun e w' => GetPost W rm 20 (ownL (pl t)) e w') := fun W v rm hW hb h1 h2 =>
      snapGet_enc (ownL (pl t)) 20 v rm W (HG.out.ext hW) hb (hgt.ents hpk (by omega) (by omega)) (own_nk hpk) (by omega) (encL_small hpk (by omega) (hgt.ok (by omega))) h1 h2
    have HOL : Hid ((ownL (pl t)).length = (pl t).length) := own_len _
    obtain ⟨n, hn⟩ : ∃ n, (pl t).length = n := ⟨_, rfl⟩
    rw [hn] at HLN hsz HOL
    clear hx2 ht hgt HA hpk hn
    go_wp2_with (fail)
    refine (HLN.out w2 (Kp.refl _ _)).mono ?_
    rintro e w3 ⟨rfl, rfl⟩
    by_cases h2 : (n : Int) < 2
    · go_wp2_with (fail)
      go_ret
      exact ⟨rfl, HX2.out⟩
    · go_wp2_with (fail)
      refine (HPUT.out w2 (Kp.refl _ _)).mono ?_
      rintro e w3 ⟨v3, rfl, hb3, hx3⟩
      have HB3 := Lib.hid hb3.bytes
      have HX3 := Lib.hid hx3
      have HGB := Lib.hid (HG.out.ext (HX2.out.trans hx3))
      clear hb3 hx3
      go_wp2_with (fail)
      refine (HLN.out w3 HX3.out).mono ?_
      rintro e w4 ⟨rfl, rfl⟩
      go_wp2_with (fail)
      refine (HGE.out w3 v3 (n : Int) (HX2.out.trans HX3.out) HB3.out (by omega) (by omega)).mono ?_
      rintro e w4 ⟨hx4, hcase⟩
      rcases hcase with ⟨hf, _⟩ | ⟨_, hr, _⟩ | ⟨_, _, b', m', u, rfl, hu, hget, hlen⟩
      · rw [HSD.out] at hf; cases hf
      · rw [HOL.out] at hr; omega
      · have HU4 := Lib.hid hu
        have HX4 := Lib.hid (HX3.out.trans hx4)
        have HUL : Hid ((pl u).length = n) := hlen.trans HOL.out
        clear hx4 hu hget hlen HB3
        go_wp2_with (fail)
        refine (HPUT.out w4 HX4.out).mono ?_
        rintro e w5 ⟨v5, rfl, hb5, hx5⟩
        have HB5 := Lib.hid hb5.bytes
        have HX5 := Lib.hid (HX4.out.trans hx5)
        have HU5 := Lib.hid (HU4.out.ext hx5)
        clear hb5 hx5 HU4 HX4 HPUT
        go_wp2_with (fail)
        refine (HLN.out w5 HX5.out).mono ?_
        rintro e w6 ⟨rfl, rfl⟩
        have e7 : IntKind.i64.wrap ((n : Int) - 1) = (n : Int) - 1 := IntWalk.i64_in _ (by omega)
        obtain ⟨rm, hrm⟩ : ∃ rm : Int, (n : Int) - 1 = rm := ⟨_, rfl⟩
        rw [hrm] at e7
        go_wp2_with (fail)
        first | rw [hrm] | skip
        first | rw [e7] | skip
        refine (HGE.out w5 v5 rm (HX2.out.trans HX5.out) HB5.out (by omega) (by omega)).mono ?_
        rintro e w6 ⟨hx6, hcase⟩
        rcases hcase with ⟨hf, _⟩ | ⟨_, _, rfl⟩ | ⟨_, hr, _⟩
        · rw [HSD.out] at hf; cases hf
        · have HX6 := Lib.hid (HX2.out.trans (HX5.out.trans hx6))
          have HU6 := Lib.hid (HU5.out.ext hx6)
          have HN := Lib.hid (tsNode HU6.out (by omega) ⟨#[47, 110, 101, 119]⟩)
          clear hx6 HU5 HX5 HB5 HGE HLN e7
          go_wp2_with (fail)
          cases hg : mget (pl u) ⟨#[47, 110, 101, 119]⟩ with
          | some k =>
            have hnode : nodeP (pl u) ⟨#[47, 110, 101, 119]⟩ = (k, true) := by unfold nodeP; rw [hg]
            rw [hnode] at HN
            clear hnode hg
            refine HN.out.mono ?_
            rintro e w7 ⟨nv7, rfl, ho7, ht7, hx7⟩
            obtain ⟨a7, c7, rfl⟩ := owns_slice ho7
            obtain ⟨wC, hWC⟩ : ∃ wC, w7.alloc (.cells #[.int .i64 k.made, .int .i64 k.chg, .int .i64 k.ver, .int .i64 k.kids, .int .i64 k.own, .int .i64 k.len, .int .i64 k.cnt, .string k.data, .int .i64 k.next, .slice a7 k.names.length c7] ndT) = wC := ⟨_, rfl⟩
            have HXC : Hid (Ext w wC) := by show Ext _ _; rw [← hWC]; exact (HX6.out.trans hx7).alloc _
            have HWC := Lib.hid hWC
            clear hWC ho7 ht7 hx7
            unfold ndA
            go_upto_region 12 with (fail)
            rw [HWC.out]
            go_wp2_with (fail)
            go_ret
            exact ⟨rfl, HXC.out⟩
          | none =>
            have hnode : nodeP (pl u) ⟨#[47, 110, 101, 119]⟩ = (ndZ, false) := by unfold nodeP; rw [hg]
            rw [hnode] at HN
            have HDO := Lib.hid (fun W (hW : Ext w6 W) => tsDoE (HU6.out.ext hW) HGB.out (by omega) oNew 1 1 (by decide) (by decide) (full_new hg (by rw [HUL.out]; exact Int.le_refl _)) 0 rfl)
            clear hnode hg
            refine HN.out.mono ?_
            rintro e w7 ⟨nv7, rfl, ho7, ht7, hx7⟩
            obtain ⟨a7, c7, rfl⟩ := owns_slice ho7
            obtain ⟨k, hk⟩ : ∃ k, ndZ = k := ⟨_, rfl⟩
            rw [hk] at HDO ⊢
            obtain ⟨wC, hWC⟩ : ∃ wC, w7.alloc (.cells #[.int .i64 k.made, .int .i64 k.chg, .int .i64 k.ver, .int .i64 k.kids, .int .i64 k.own, .int .i64 k.len, .int .i64 k.cnt, .string k.data, .int .i64 k.next, .slice a7 k.names.length c7] ndT) = wC := ⟨_, rfl⟩
            have HD := Lib.hid (HDO.out wC (by rw [← hWC]; exact hx7.alloc _))
            have HWC := Lib.hid hWC
            clear hWC ho7 ht7 hx7 HDO hk HN
            unfold ndA
            unfold oNew at HD
            simp only at HD
            go_upto_region 12 with (fail)
            rw [HWC.out]
            clear HWC
            go_wp2_with (fail)
            refine HD.out.mono ?_
            rintro e w8 ⟨t8, a8, c8, rfl, _, h8, _, _, _⟩
            have HX8 := Lib.hid ((HX2.out.trans HX3.out).trans h8.ex)
            clear h8 HD
            go_wp2_with (fail)
            change Oper.upon _ _ _ _ _ (Result.ok (Next.value (Value.int IntKind.i64 9)) _)
            go_wp2_with (fail)
            go_ret
            exact ⟨rfl, HX8.out⟩
        · rw [HOL.out] at hr; omega
end Go.Proofs.YtjapjpigpakejaaGreatDoor

/- Arguments of the tree's laws; tables. -/
namespace Go.Proofs.YtjapjpigpakejaaGreatDoor
set_option maxRecDepth 100000
open Go.ChangeShapes Go.WideShapes Go.ChangeAt Go.RowKit Av

theorem gt_of {W : World} {laid : List (String × DataW Unit)} (hsh : W.ShapedOpen Tryz.prog) (h : laidMet Tryz.prog laid W) (hl : (laid.filter fun x => x.1 == "internal/strconv.uint64pow10") = [("internal/strconv.uint64pow10", Lib.tabData .u64 Lib.pow10Tab)]) : GT W :=
  ⟨gl_of_shape hsh, tab_of_laid h hl⟩
/-- An op that comes in as an argument. -/
theorem arg_op {H : Type} {enc : TypeId × Value → H} {W : World} {base : Nat} {r : Reach} {v : Value} {d : DataW H} {p : List MemPlace} (hv : Value.okWide Tryz.prog W r base 30 v) (h : DataW.Trod enc Tryz.prog W 0 (fun _ => true) true 30 v d p) :
    ∃ o : OpV, v = o.val ∧ (o.path.size ≤ maxLen ∧ o.data.size ≤ maxLen) ∧ Op64 o := by
  obtain ⟨cs, rfl, _⟩ := okWide_struct Tryz.underlying30 hv
  obtain ⟨fuel, h⟩ := h
  obtain ⟨o, hcs, h1, h2, h3⟩ := trod_op h
  obtain ⟨cs⟩ := cs
  simp only [Value.cells] at hcs
  subst hcs
  exact ⟨o, rfl, ⟨h1, h2⟩, h3⟩
end Go.Proofs.YtjapjpigpakejaaGreatDoor

/- Ops that come in as an argument. -/
namespace Go.Proofs.YtjapjpigpakejaaGreatDoor
set_option maxRecDepth 100000
open Go.ChangeShapes Go.WideShapes Go.ChangeAt Go.RowKit Av

theorem arg_opsl {H : Type} {enc : TypeId × Value → H} {W : World} {base : Nat} {r : Reach} {v : Value} {d : DataW H} {p : List MemPlace} (hv : Value.okWide Tryz.prog W r base 69 v) (h : DataW.Trod enc Tryz.prog W 0 (fun _ => true) true 69 v d p) :
    ∃ xs : List OpV, OpsAt W v xs ∧ OpsSz xs ∧ ∀ o ∈ xs, Op64 o := by
  obtain ⟨a0, len, cap, rfl⟩ := okWide_slice Tryz.underlying69 hv
  obtain ⟨n, h⟩ := h
  obtain ⟨v', hcs, xs, h1, h2, h3⟩ := trod_ops h
  simp only [Value.cells, List.cons.injEq, and_true] at hcs
  subst hcs
  exact ⟨xs, h1, h2, h3⟩
end Go.Proofs.YtjapjpigpakejaaGreatDoor

/- From the rows' arguments to the walks: SnapRoom. -/
namespace Go.Proofs.YtjapjpigpakejaaGreatDoor
set_option maxRecDepth 100000
open Go.ChangeShapes Go.WideShapes Go.ChangeAt Go.RowKit Av

theorem snapRoom_con {H : Type} {enc : TypeId × Value → H} (W : World) (base : Nat) (args : Array Value) (ds : List (DataW H)) (p : List MemPlace)
    (hval : ∀ (j : Nat) t v, Tryz.f7.params[j]? = some t → args[j]? = some v → Value.okWide Tryz.prog W .any base t v)
    (hA : DataW.TrodAll enc Tryz.prog W 0 (fun _ => true) true Tryz.f7.params.toList args.toList ds p)
    (hsh : W.ShapedOpen Tryz.prog) (hl : laidMet Tryz.prog Rows.snapRoomRow.laid W) : Calls Tryz.prog 7 args W fun e W' => e = .returned (.bool true) ∧ Ext W W' := by
  rw [Tryz.params7] at hA hval
  obtain ⟨v0, d0, rfl, rfl, h0⟩ := trodAll_one hA
  obtain ⟨xs, a1, _, _⟩ := arg_opsl (hval 0 _ v0 rfl rfl) h0
  exact snapRoom_any v0 xs W (gt_of hsh hl (by kernel_rfl)) a1
end Go.Proofs.YtjapjpigpakejaaGreatDoor
