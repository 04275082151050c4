/- Walks of package aviarylaw13: WatchOwn. -/
import Derived.Test.YtiplmahjmkmddaaDoorAvLaw13A
import Derived.Test.YtiplmahjmkmddaaDoorAvWatArg
import Derived.StillTailTactics
namespace Go.Proofs.YtiplmahjmkmddaaDoor
set_option maxRecDepth 100000
open Go.RowKit Av

theorem armG_mem {room : Nat} {l : List Wt} {x y : Wt} (h : y ∈ armG room l x) : y ∈ l ∨ (y = x ∧ wtOk x = true) := by
  unfold armG at h
  split at h
  · rename_i hc
    rcases List.mem_append.1 h with h | h
    · exact .inl h
    · simp only [List.mem_singleton] at h; exact .inr ⟨h, hc.1⟩
  · exact .inl h
theorem dropW_mem {s : Int} {l : List Wt} {x : Wt} : x ∈ dropW s l ↔ x ∈ l ∧ x.sess ≠ s := by unfold dropW; simp
theorem dropW_twice (s : Int) (l : List Wt) : dropW s (dropW s l) = dropW s l := by
  unfold dropW; rw [List.filter_filter]; congr 1; funext x; simp
def OwnArm (w0 : World) (b : Nat) (xs : List WActV) (s7 : Value) (wr : World) : Prop :=
  ∃ (k : Nat) (l : List Wt) (ro : Option Nat), k ≤ xs.length ∧ s7 = .int .i64 k ∧ l.length ≤ k ∧ WS w0 wr b ro 1000 l ∧ ∀ x ∈ l, wtOk x = true ∧ ∃ i : Nat, ∃ hi : i < xs.length, x.path = xs[i].p
def OwnFire (w0 : World) (b : Nat) (xs : List WActV) (s : Int) (N : Nat) (s10 s11 : Value) (wr : World) : Prop :=
  ∃ (j told : Nat) (l : List Wt) (ro : Option Nat), j ≤ xs.length ∧ s11 = .int .i64 j ∧ s10 = .int .i64 told ∧ told + l.length = N ∧ WS w0 wr b ro 1000 l ∧ ∀ x ∈ l, (wtOk x = true ∧ x.sess ≠ s) ∧ ∃ i : Nat, ∃ hi : i < xs.length, j ≤ i ∧ x.path = xs[i].p
def OwnEv (n : Nat) (s : Value) : Prop := ∃ j : Nat, j ≤ n ∧ s = .int .i64 j
set_option maxHeartbeats 6400000 in
theorem watchOwn_any (v : Value) (xs : List WActV) (s : Int) (w : World) (hG : GL w) (ha : WActs w v xs) : Calls Tryd.prog 7 #[v, .int .i64 s] w fun e w' => e = .returned (.bool true) ∧ Ext w w' := by
  obtain ⟨ad, c, rfl, hm, hop⟩ := ha.open
  have HOP := Lib.hid hop
  have HSZ := Lib.hid ha.2
  have HG := Lib.hid hG
  unfold maxLen at hm
  clear hG ha hop
  by_cases hbig : 40 < xs.length
  · go_enter Tryd.func7, Tryd.ntmps7
    go_wp2_with (fail)
    refine (awake_any w HG.out).mono ?_
    rintro e w0 ⟨rfl, hx0⟩
    go_wp2_with (fail)
    go_ret
    exact ⟨rfl, hx0⟩
  · have hb40 : ¬ (40 : Int) < (xs.length : Int) := by omega
    have hn40 : xs.length ≤ 40 := by omega
    clear hbig
    go_enter Tryd.func7, Tryd.ntmps7
    go_wp2_with (fail)
    refine (awake_any w HG.out).mono ?_
    rintro e w0 ⟨rfl, hx0⟩
    have HX0 := Lib.hid hx0
    have HG0 := Lib.hid (HG.out.ext hx0)
    clear hx0 HG
    go_wp2_with (fail)
    refine (wsNew 1000 w0 w0 (Kp.refl _ _) (by decide) (by decide)).mono ?_
    rintro e w1 ⟨rfl, h1⟩
    obtain ⟨b, hb⟩ : ∃ b, w0.heap.size = b := ⟨_, rfl⟩
    rw [hb] at h1 ⊢
    have HW := Lib.hid h1
    clear h1
    go_wp2_with (fail)
    go_loopw [7] (fun s7 wr => OwnArm w0 b xs s7 wr) (fun s7 _ => xs.length - (intOf s7).toNat)
    case atStart => exact ⟨0, [], none, Nat.zero_le _, rfl, Nat.le_refl _, HW.out, by simp⟩
    case round =>
      clear HW
      obtain ⟨k, l, ro, hk, rfl, hlk, hws, hall⟩ := hrel
      have HW := Lib.hid hws
      have HALL := Lib.hid hall
      clear hws hall
      by_cases hlt : k < xs.length
      · obtain ⟨g, off, rfl, hg, hcl⟩ := HOP.out (by omega)
        have hxr : Ext w wr := HX0.out.trans HW.out.2.2.2
        have HPS := Lib.hid (HSZ.out xs[k] (List.getElem_mem hlt))
        obtain ⟨c0, c1, c2, c3⟩ := hcl k hlt
        have c1 := hxr.cell c1 (fun f => f)
        have c2 := hxr.cell c2 (fun f => f)
        have c3 := hxr.cell c3 (fun f => f)
        have HPA : Hid (∃ i : Nat, ∃ hi : i < xs.length, xs[k].p = xs[i].p) := ⟨k, hlt, rfl⟩
        obtain ⟨⟨aop, ass, ap, ak⟩, hq⟩ : ∃ a, xs[k] = a := ⟨_, rfl⟩
        rw [hq] at c1 c2 c3 HPS HPA
        simp only at c1 c2 c3 HPS HPA
        have HC1 := Lib.hid c1
        have HC2 := Lib.hid c2
        have HC3 := Lib.hid c3
        clear hq hcl c0 hxr
        by_cases h300 : (300 : Int) < (ap.size : Int)
        · go_wp2_with (fail)
          go_ret
          exact ⟨rfl, HX0.out.trans HW.out.2.2.2⟩
        · go_upto_region 11 with (fail)
          clear c1 c2 c3
          refine' wp_region_dagK 16 [] ((36, .val _) :: (37, .val _) :: (38, .val _) :: (39, .val _) :: (40, .val _) :: (41, .val _) :: (42, .val _) :: (43, .val _) :: (44, .val _) :: (45, .val _) :: (46, .val _) :: (47, .val _) :: (48, .val _) :: (49, .val _) :: (50, .val _) :: (51, .val _) :: []) (by exact ⟨fun _ _ _ _ _ => trivial, ⟨fun _ _ _ _ _ => trivial, ⟨fun _ _ _ _ _ => trivial, ⟨fun _ _ _ _ _ => trivial, ⟨fun _ _ _ _ _ => trivial, ⟨fun _ _ _ _ _ => trivial, ⟨fun _ _ _ _ _ => trivial, ⟨fun _ _ _ _ _ => trivial, ⟨fun _ _ _ _ _ => trivial, ⟨fun _ _ _ _ _ => trivial, ⟨fun _ _ _ _ _ => trivial, ⟨fun _ _ _ _ _ => trivial, ⟨fun _ _ _ _ _ => trivial, ⟨fun _ _ _ _ _ => trivial, ⟨fun _ _ _ _ _ => trivial, ⟨fun _ _ _ _ _ => trivial, trivial⟩⟩⟩⟩⟩⟩⟩⟩⟩⟩⟩⟩⟩⟩⟩⟩) (by kernel_rfl) (by kernel_rfl) (by kernel_rfl) ?_
          rotate_left 16
          simp only [List.take_succ_cons, List.take_zero]
          repeat (first
            | (refine wpD_skipv ?_ ?_ ?_
               focus rfl
               focus rfl
               simp only [Act.put, List.setIfInBounds_toArray, List.set_cons_succ, List.set_cons_zero])
            | (refine' wpD_val (c := _) ?_ (fun w => Kp.refl _ w) ?_ (fun wq hwq hfq => ?_) ?_
               rotate_left
               focus rfl
               focus rfl
               focus (have c1 := hwq.cell HC1.out (by have := World.block_lt_of_cell? wr _ HC1.out; simpa using this); have c2 := hwq.cell HC2.out (by have := World.block_lt_of_cell? wr _ HC1.out; simpa using this); have c3 := hwq.cell HC3.out (by have := World.block_lt_of_cell? wr _ HC1.out; simpa using this); go_simp; first | done | rfl)
               simp only [Act.put, List.setIfInBounds_toArray, List.set_cons_succ, List.set_cons_zero])
            | (refine' wpD_con (c := _) ?_ ?_ (fun wq hwq hfq => ?_) ?_
               rotate_left
               focus rfl
               focus rfl
               focus (have c1 := hwq.cell HC1.out (by have := World.block_lt_of_cell? wr _ HC1.out; simpa using this); have c2 := hwq.cell HC2.out (by have := World.block_lt_of_cell? wr _ HC1.out; simpa using this); have c3 := hwq.cell HC3.out (by have := World.block_lt_of_cell? wr _ HC1.out; simpa using this); go_simp; (try (rw [dUpon_enter])); fail)
               simp only [Act.put, List.setIfInBounds_toArray, List.set_cons_succ, List.set_cons_zero])
            | fail)
          refine wpD_nil ?_
          intro wa hwa hend
          clear hend
          have hxa : Ext wr wa := hwa.mono (fun i hi h => by omega)
          have hA := wsArm (HW.out.ext hxa) HG0.out ⟨ass, ap, ak⟩ HPS.out (by omega)
          clear hwa hxa
          go_wp2_with (fail)
          refine hA.mono ?_
          rintro e w2 ⟨rfl, ro', h2, _, _⟩
          have hal := armG_len 1000 l ⟨ass, ap, ak⟩
          have HW2 := Lib.hid h2
          clear h2 hA
          go_wp2_with (fail)
          go_light
          refine ⟨⟨k + 1, armG 1000 l ⟨ass, ap, ak⟩, ro', by omega, by go_num, by omega, HW2.out, fun x hx => ?_⟩, by simp [intOf]; omega⟩
          rcases armG_mem hx with h | ⟨rfl, ho⟩
          · exact HALL.out x h
          · exact ⟨ho, HPA.out⟩
      · obtain ⟨wo, rfl⟩ : ∃ wo : World, wo = wr := ⟨_, rfl⟩
        have hL := wsLen HW.out
        have hD := wsDrop HW.out s (by omega)
        have hdl : (dropW s l).length ≤ l.length := List.length_filter_le _ _
        have HDM : Hid (∀ x ∈ dropW s l, (wtOk x = true ∧ x.sess ≠ s) ∧ ∃ i : Nat, ∃ hi : i < xs.length, 0 ≤ i ∧ x.path = xs[i].p) := fun x hx => by
          obtain ⟨h1, h2⟩ := dropW_mem.1 hx
          obtain ⟨h3, i, hi, h4⟩ := HALL.out x h1
          exact ⟨⟨h3, h2⟩, i, hi, Nat.zero_le _, h4⟩
        have hdd := dropW_twice s l
        obtain ⟨d, hd⟩ : ∃ d, dropW s l = d := ⟨_, rfl⟩
        rw [hd] at hD hdl HDM hdd
        clear hd HALL
        go_wp2_with (fail)
        refine hL.mono ?_
        rintro e w2 ⟨rfl, rfl⟩
        go_wp2_with (fail)
        refine hD.mono ?_
        rintro e w2 ⟨rfl, h2, _⟩
        have hL := wsLen h2
        have hD2 := wsDrop h2 s (by omega)
        rw [hdd, Nat.sub_self] at hD2
        clear hD h2 HW
        go_wp2_with (fail)
        refine hL.mono ?_
        rintro e w3 ⟨rfl, rfl⟩
        have e1 : (l.length : Int) - ((l.length - d.length : Nat) : Int) = (d.length : Int) := by omega
        go_wp2_with (fail)
        refine hD2.mono ?_
        rintro e w3 ⟨rfl, h3, _⟩
        have HW3 := Lib.hid h3
        clear hD2 h3 hL hdd
        go_wp2_with (fail)
        go_loopw [10, 11] (fun s10 s11 wr => OwnFire w0 b xs s d.length s10 s11 wr) (fun _ s11 _ => xs.length - (intOf s11).toNat)
        case atStart => exact ⟨0, 0, d, ro, Nat.zero_le _, rfl, rfl, by omega, HW3.out, HDM.out⟩
        case round =>
          clear HW3 HDM
          obtain ⟨j, told, m, ro2, hj, rfl, rfl, htm, hws, hall⟩ := hrel
          have HW := Lib.hid hws
          have HALL := Lib.hid hall
          clear hws hall
          by_cases hlj : j < xs.length
          · obtain ⟨g, off, rfl, hg, hcl⟩ := HOP.out (by omega)
            have hxr : Ext w wr := HX0.out.trans HW.out.2.2.2
            have HPS := Lib.hid (HSZ.out xs[j] (List.getElem_mem hlj))
            obtain ⟨c0, c1, c2, c3⟩ := hcl j hlj
            have c2 := hxr.cell c2 (fun f => f)
            obtain ⟨ap, hq⟩ : ∃ a, xs[j].p = a := ⟨_, rfl⟩
            have HQ := Lib.hid hq
            rw [hq] at c2 HPS
            have hF := wsFire HW.out HG0.out ap 2 HPS.out (by omega)
            have hlen := fire_len ap 2 m
            have hse : ∀ e ∈ fireT ap 2 m, e.sess ≠ s := fun e he => by
              obtain ⟨x, hx, h1⟩ := fire_sess he
              rw [← h1]; exact (HALL.out x hx).1.2
            have hga : ∀ x ∈ fireG ap 2 m, (wtOk x = true ∧ x.sess ≠ s) ∧ ∃ i : Nat, ∃ hi : i < xs.length, j + 1 ≤ i ∧ x.path = xs[i].p := fun x hx => by
              obtain ⟨h1, i, hi, h2, h3⟩ := HALL.out x (fire_sub hx)
              refine ⟨h1, i, hi, ?_, h3⟩
              have hne := fire_gone (fun y hy => (HALL.out y hy).1.1) hx
              rcases Nat.lt_or_ge j i with h | h
              · exact h
              · exfalso
                obtain rfl : i = j := by omega
                exact hne (h3.trans HQ.out)
            obtain ⟨T, hT⟩ : ∃ T, fireT ap 2 m = T := ⟨_, rfl⟩
            obtain ⟨G, hGg⟩ : ∃ G, fireG ap 2 m = G := ⟨_, rfl⟩
            rw [hT, hGg] at hF hlen
            rw [hT] at hse
            rw [hGg] at hga
            have HSE := Lib.hid hse
            have HGA := Lib.hid hga
            have HLEN := Lib.hid hlen
            clear hT hGg hse hga hlen hq hcl c0 c1 c3 hxr HALL
            go_wp2_with (fail)
            refine hF.mono ?_
            rintro e w4 ⟨v4, rfl, he4, h4, _⟩
            obtain ⟨av, cv, rfl, hop4⟩ := he4.open
            have HW4 := Lib.hid h4
            have HOP4 := Lib.hid hop4
            have hl4 := HLEN.out
            clear hF he4 h4 hop4 c2 HW
            go_wp2_with (fail)
            go_loop [13] (fun i => OwnEv T.length i) (fun i => T.length - (intOf i).toNat)
            case atStart => exact ⟨0, Nat.zero_le _, rfl⟩
            case round =>
              obtain ⟨q, hq, rfl⟩ := hrel
              by_cases hlq : q < T.length
              · obtain ⟨g3, off3, rfl, _, hc3⟩ := HOP4.out (by omega)
                obtain ⟨t0, t1, t2⟩ := hc3 q hlq
                have hne : ¬ T[q].sess = s := HSE.out T[q] (List.getElem_mem hlq)
                have hnb : (T[q].sess == s) = false := beq_eq_false_iff_ne.2 hne
                clear hc3 t1 t2
                go_wp2_with (fail)
                go_light
                exact ⟨⟨q + 1, by omega, by go_num⟩, by simp [intOf]; omega⟩
              · go_wp2_with (fail)
                go_light
                exact ⟨⟨j + 1, told + T.length, G, ro2, by omega, by go_num, by go_num, by omega, HW4.out, HGA.out⟩, by simp [intOf]; omega⟩
          · have hm0 : m = [] := by
              cases m with
              | nil => rfl
              | cons x r => obtain ⟨_, i, hi, h, _⟩ := HALL.out x (by simp); omega
            subst hm0
            have hL := wsLen HW.out
            have ht : told = d.length := by simpa using htm
            subst ht
            clear HALL
            go_wp2_with (fail)
            refine hL.mono ?_
            rintro e w5 ⟨rfl, rfl⟩
            go_wp2_with (fail)
            refine hL.mono ?_
            rintro e w5 ⟨rfl, rfl⟩
            go_wp2_with (fail)
            go_ret
            exact ⟨ret_bool (by simp), HX0.out.trans HW.out.2.2.2⟩
end Go.Proofs.YtiplmahjmkmddaaDoor
