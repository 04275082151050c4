
/- Walks of package aviarylaw11: TreeOwners. -/
import Derived.Test.YtkpcmbgnaenbhaaGreatDoorAvG42
import Derived.Test.YtkpcmbgnaenbhaaGreatDoorAvHOwners
namespace Go.Proofs.YtkpcmbgnaenbhaaGreatDoor
set_option maxRecDepth 100000
open Go.RowKit Av

theorem has_call {w : World} {a : Option Addr} {c : Nat} {l : List Bs} {x : Bs} {p : ByteArray} (hp : ⟨x.toArray⟩ = p) (hx : x ∈ l) (h : w.ownsRow 0 strT 1 (.slice a l.length c) l.length (l.map encStr)) :
    Calls Tryz.prog 17 #[.slice a l.length c, .string p] w fun e w' => e = .returned (.bool true) ∧ w = w' := by
  subst hp
  have := has_any (.slice a l.length c) l x w (names_own h)
  rwa [decide_eq_true hx] at this
def Ow1 (P : Pt) (L : List Bs) (wS : World) (s7 s9 : Value) (wr : World) : Prop := ∃ j : Nat, j ≤ L.length ∧ s9 = .int .i64 j ∧ s7 = .int .i64 (manyN P (L.take j)) ∧ Ext wS wr
def Ow2 (P : Pt) (L : List Bs) (xs : List ActN) (wT : World) (s6 s12 s13 : Value) (wr : World) : Prop :=
  ∃ (i : Nat) (D : List Int), i ≤ xs.length ∧ s13 = .int .i64 i ∧ s6 = .int .i64 (inN P D L) ∧ wr.ownsRow wT.heap.size i64T 1 s12 D.length (D.map i64V) ∧ D.length ≤ i ∧ (∀ s ∈ D, 1 ≤ s) ∧ (∀ k (h : k < xs.length), k < i → 1 ≤ xs[k].sess → xs[k].sess ∈ D) ∧ Ext wT wr
def Ow3 (D : List Int) (s : Int) (wU : World) (s14 s15 : Value) (wr : World) : Prop := ∃ k : Nat, k ≤ D.length ∧ s15 = .int .i64 k ∧ s14 = .bool (decide (s < 1 ∨ s ∈ D.take k)) ∧ Ext wU wr
set_option maxHeartbeats 40000000 in
theorem treeOwners_any (v : Value) (xs : List ActN) (w : World) (hG : GT w) (ha : ActsN w v xs) :
    Calls Tryz.prog 5 #[v] w fun e w' => e = .returned (.bool true) ∧ Ext w w' := by
  obtain ⟨ad, c, rfl, hm, hop⟩ := ha.open
  have HOP := Lib.hid hop
  have HOK := Lib.hid ha.2
  have HG := Lib.hid hG
  unfold maxLen at hm
  clear hG ha hop
  go_enter Tryz.func5, Tryz.ntmps5
  go_wp2_with (fail)
  refine (awake_any w HG.out).mono ?_
  rintro e w0 ⟨rfl, hx0⟩
  have HX0 := Lib.hid hx0
  have HG0 := Lib.hid (HG.out.ext hx0)
  clear hx0 HG
  by_cases b1 : xs.length ≤ 40
  · have b1' : ¬ (40 : Int) < (xs.length : Int) := by omega
    go_wp2_with (fail)
    refine (tsNew 60 w0 w0 (Kp.refl _ _) (by omega) (by omega)).mono ?_
    rintro e w1 ⟨b, m, rfl, h1, hx1, _, _⟩
    have H1 := Lib.hid h1
    clear h1 hx1 b1'
    go_wp2_with (fail)
    go_loopw [5] (fun s5 wr => ActRel w0 60 xs b m s5 wr) (fun s5 _ => xs.length - (intOf s5).toNat)
    case atStart => exact ⟨0, [], Nat.zero_le _, rfl, H1.out, GoodT.nil (by omega) _⟩
    case round =>
      clear H1
      obtain ⟨i, t, hi, rfl, hts, hgt⟩ := hrel
      have HT := Lib.hid hts
      have HGT := Lib.hid hgt
      clear hts hgt
      by_cases hlt : i < xs.length
      · as_aux_lemma =>
        obtain ⟨g, off, rfl, hg, hcl⟩ := HOP.out (by omega)
        have hxr := HX0.out.trans HT.out.ex
        obtain ⟨a, haa⟩ : ∃ a, xs[i] = a := ⟨_, rfl⟩
        have HOKA : Hid (ActOk w a) := by show ActOk _ _; rw [← haa]; exact HOK.out _ (List.getElem_mem hlt)
        have HMEM : Hid (a.sess ∈ xs.map (·.sess)) := by show _ ∈ _; rw [← haa]; exact List.mem_map.2 ⟨_, List.getElem_mem hlt, rfl⟩
        have HC : Hid (∀ j u, j < 18 → a.cells[j]? = some u → wr.cell? ⟨g, off + i * 18 + j, none⟩ = some u) := fun j u hj hu => hxr.cell (hcl i hlt j u hj (by rw [haa]; exact hu)) (fun f => f)
        clear hcl haa
        have HHV := Lib.hid (fun W (hx : Ext w W) => heavy_any a W ⟨HOKA.out.path, HOKA.out.data, HOKA.out.ndata, ⟨Sl.ext HOKA.out.names.1 hx, HOKA.out.names.2⟩, HOKA.out.nsize, HOKA.out.i64, HOKA.out.n64⟩)
        obtain ⟨op, ⟨k, p, d, v, f⟩, sess, z, n, nv⟩ := a
        unfold ActN.cells at HHV HC
        simp only at HHV HC HMEM
        have c0 := HC.out 0 _ (by decide) rfl
        have c1 := HC.out 1 _ (by decide) rfl
        have c2 := HC.out 2 _ (by decide) rfl
        have c3 := HC.out 3 _ (by decide) rfl
        have c4 := HC.out 4 _ (by decide) rfl
        have c5 := HC.out 5 _ (by decide) rfl
        have c6 := HC.out 6 _ (by decide) rfl
        have c7 := HC.out 7 _ (by decide) rfl
        have c8 := HC.out 8 _ (by decide) rfl
        have c9 := HC.out 9 _ (by decide) rfl
        have c10 := HC.out 10 _ (by decide) rfl
        have c11 := HC.out 11 _ (by decide) rfl
        have c12 := HC.out 12 _ (by decide) rfl
        have c13 := HC.out 13 _ (by decide) rfl
        have c14 := HC.out 14 _ (by decide) rfl
        have c15 := HC.out 15 _ (by decide) rfl
        have c16 := HC.out 16 _ (by decide) rfl
        have c17 := HC.out 17 _ (by decide) rfl
        simp only [Nat.add_zero] at c0
        have HXR := Lib.hid hxr
        clear hxr
        go_wp2_with (fail)
        refine (HHV.out _ HXR.out).mono ?_
        rintro e w2 ⟨r, rfl, hr, hx2⟩
        have HX2 := Lib.hid hx2
        have HR := Lib.hid hr
        have HC2 : Hid (∀ W, Ext w2 W → ∀ j u, j < 18 → [Value.int .i64 op, .int .i64 k, .string p, .string d, .int .i64 v, .int .i64 f, .int .i64 sess, .int .i64 z][j]? = some u → W.cell? ⟨g, off + i * 18 + j, none⟩ = some u) := fun W hW j u hj hu => (hx2.trans hW).cell (HC.out j u hj (by
          have hj8 : j < 8 := by have := (List.getElem?_eq_some_iff.1 hu).1; simpa using this
          rw [← hu]
          match j, hj8 with
          | 0, _ => rfl
          | 1, _ => rfl
          | 2, _ => rfl
          | 3, _ => rfl
          | 4, _ => rfl
          | 5, _ => rfl
          | 6, _ => rfl
          | 7, _ => rfl)) (fun f => f)
        clear hx2 hr c0 c1 c2 c3 c4 c5 c6 c7 c8 c9 c10 c11 c12 c13 c14 c15 c16 c17 HHV HC
        cases r with
        | true =>
          go_wp2_with (fail)
          go_ret
          exact ⟨rfl, HXR.out.trans HX2.out⟩
        | false =>
          as_aux_lemma =>
          have HLT := Lib.hid (HR.out rfl)
          go_upto_region 11 with (fail)
          refine' wp_region_dagK 16 [] ((36, .val _) :: (37, .val _) :: (38, .val _) :: (39, .val _) :: (40, .val _) :: (41, .val _) :: (42, .val _) :: (43, .val _) :: (44, .val _) :: (45, .val _) :: (46, .val _) :: (47, .val _) :: (48, .val _) :: (49, .val _) :: (50, .val _) :: (51, .val _) :: []) (by exact ⟨fun _ _ _ _ _ => trivial, ⟨fun _ _ _ _ _ => trivial, ⟨fun _ _ _ _ _ => trivial, ⟨fun _ _ _ _ _ => trivial, ⟨fun _ _ _ _ _ => trivial, ⟨fun _ _ _ _ _ => trivial, ⟨fun _ _ _ _ _ => trivial, ⟨fun _ _ _ _ _ => trivial, ⟨fun _ _ _ _ _ => trivial, ⟨fun _ _ _ _ _ => trivial, ⟨fun _ _ _ _ _ => trivial, ⟨fun _ _ _ _ _ => trivial, ⟨fun _ _ _ _ _ => trivial, ⟨fun _ _ _ _ _ => trivial, ⟨fun _ _ _ _ _ => trivial, ⟨fun _ _ _ _ _ => trivial, trivial⟩⟩⟩⟩⟩⟩⟩⟩⟩⟩⟩⟩⟩⟩⟩⟩) (by kernel_rfl) (by kernel_rfl) (by kernel_rfl) ?_
          rotate_left 16
          simp only [List.take_succ_cons, List.take_zero]
          repeat (first
            | (refine wpD_skipv ?_ ?_ ?_
               focus rfl
               focus rfl
               simp only [Act.put, List.setIfInBounds_toArray, List.set_cons_succ, List.set_cons_zero])
            | (refine' wpD_val (c := _) ?_ (fun w => Kp.refl _ w) ?_ (fun wq hwq hfq => ?_) ?_
               rotate_left
               focus rfl
               focus rfl
               focus ((have hext : Ext w2 wq := hwq.mono (fun i hi e => by omega); have c1 := HC2.out _ hext 1 _ (by decide) rfl; have c2 := HC2.out _ hext 2 _ (by decide) rfl; have c3 := HC2.out _ hext 3 _ (by decide) rfl; have c4 := HC2.out _ hext 4 _ (by decide) rfl; have c5 := HC2.out _ hext 5 _ (by decide) rfl; have c6 := HC2.out _ hext 6 _ (by decide) rfl; have c7 := HC2.out _ hext 7 _ (by decide) rfl); go_simp; first | done | rfl)
               simp only [Act.put, List.setIfInBounds_toArray, List.set_cons_succ, List.set_cons_zero])
            | (refine' wpD_con (c := _) ?_ ?_ (fun wq hwq hfq => ?_) ?_
               rotate_left
               focus rfl
               focus rfl
               focus ((have hext : Ext w2 wq := hwq.mono (fun i hi e => by omega); have c1 := HC2.out _ hext 1 _ (by decide) rfl; have c2 := HC2.out _ hext 2 _ (by decide) rfl; have c3 := HC2.out _ hext 3 _ (by decide) rfl; have c4 := HC2.out _ hext 4 _ (by decide) rfl; have c5 := HC2.out _ hext 5 _ (by decide) rfl; have c6 := HC2.out _ hext 6 _ (by decide) rfl; have c7 := HC2.out _ hext 7 _ (by decide) rfl); go_simp; (try (rw [dUpon_enter])); fail)
               simp only [Act.put, List.setIfInBounds_toArray, List.set_cons_succ, List.set_cons_zero])
            | fail)
          refine wpD_nil ?_
          intro w3 hx3 hend
          clear hend
          have hx3' : Ext w2 w3 := hx3.mono (fun i hi e => by omega)
          have hTS := HT.out.ext (HX2.out.trans hx3')
          have HD := Lib.hid (tsDo hTS HG0.out (by omega) ⟨k, p, d, v, f⟩ sess z (by have := HLT.out.path; simp only at this ⊢; omega) (by have := HLT.out.data; simp only at this ⊢; omega))
          have HTS := Lib.hid hTS
          clear hx3 hx3' hTS
          as_aux_lemma =>
          go_wp2_with (fail)
          refine HD.out.mono ?_
          intro e w4 hd
          have HDN := Lib.hid hd
          obtain ⟨t', nv', rfl, _⟩ := hd
          go_wp2_with (fail)
          go_light
          refine ⟨acts_step HGT.out HTS.out hlt (a := ⟨op, ⟨k, p, d, v, f⟩, sess, z, n, nv⟩) HMEM.out ?_ HDN.out, ?_⟩
          · go_num
          · simp [intOf]; omega
      · have hTM : ∀ x ∈ pathsP (pl t), ∃ n, mget (pl t) ⟨x.toArray⟩ = some n := fun x hx => Option.ne_none_iff_exists'.1 (paths_mem.1 hx)
        have HM := Lib.hid hTM
        have HLN := Lib.hid (pathsP_len (pl t))
        have HP := Lib.hid (tsPaths HT.out HGT.out.snd (by omega))
        have HOF := Lib.hid (fun W (hx : Ext wr W) s => tsOf (HT.out.ext hx) HGT.out.snd (by omega) s)
        generalize pathsP (pl t) = L at HM HLN HP HOF
        have hL : L.length ≤ 60 := by have h1 := HLN.out; have := HGT.out.snd.size; omega
        have hK : i ≤ 40 := by omega
        clear hTM
        go_wp2_with (fail)
        refine HP.out.mono ?_
        rintro e wS ⟨vS, rfl, hoS, hxS⟩
        obtain ⟨aS, cS, hslS, hopS⟩ := strs_open hoS
        subst hslS
        have HOPS := Lib.hid hopS
        have HTS := Lib.hid (HT.out.ext hxS)
        have HXS := Lib.hid hxS
        clear hopS hoS hxS HP
        go_wp2_with (fail)
        go_loopw [7, 9] (fun s7 s9 wr => Ow1 (pl t) L wS s7 s9 wr) (fun _ s9 _ => L.length - (intOf s9).toNat)
        case atStart => exact ⟨0, Nat.zero_le _, rfl, rfl, Kp.refl _ _⟩
        case round =>
          obtain ⟨j, hj, rfl, rfl, hxr⟩ := hrel
          have HXR := Lib.hid hxr
          clear hxr
          by_cases hlj : j < L.length
          · obtain ⟨g5, off5, rfl, hcl⟩ := HOPS.out (by omega)
            have hc := HXR.out.cell (hcl j hlj) (fun f => f)
            obtain ⟨n, hn⟩ := HM.out L[j] (List.getElem_mem hlj)
            have hmy := fun h => many_yes (P := pl t) hlj h
            have hmn := fun h => many_no (P := pl t) hlj h
            have hxm : L[j] ∈ L := List.getElem_mem hlj
            have hmb : manyN (pl t) (L.take j) ≤ 60 := by
              unfold manyN
              have h1 := List.length_filter_le (fun x => decide (ownI (pl t) x ≠ 0)) (L.take j)
              rw [List.length_take] at h1
              omega
            obtain ⟨x, hx⟩ : ∃ x, L[j] = x := ⟨_, rfl⟩
            rw [hx] at hc hn hmy hmn hxm
            have how := ownI_some hn
            rw [how] at hmy hmn
            have HMY := Lib.hid hmy
            have HMN := Lib.hid hmn
            have HOB := Lib.hid (owned_all HGT.out.owned x)
            have HXM := Lib.hid hxm
            have HOW := Lib.hid how
            obtain ⟨p, hp⟩ : ∃ p : ByteArray, ⟨x.toArray⟩ = p := ⟨_, rfl⟩
            unfold encStr at hc
            rw [hp] at hc hn
            have hnode : nodeP (pl t) p = (n, true) := by unfold nodeP; rw [hn]
            have HN := Lib.hid (by have := tsNode (HTS.out.ext HXR.out) (by omega) p; rw [hnode] at this; exact this)
            have HPX := Lib.hid hp
            generalize manyN (pl t) (L.take j) = q at HMY HMN hmb
            clear hnode hcl hn hx hp hmy hmn how hxm
            go_wp2_with (fail)
            refine HN.out.mono ?_
            rintro e w6 ⟨nv6, rfl, ho6, ht6, hx6⟩
            obtain ⟨a6, c6, rfl⟩ := owns_slice ho6
            obtain ⟨wC, hWC⟩ : ∃ wC, w6.alloc (.cells #[.int .i64 n.made, .int .i64 n.chg, .int .i64 n.ver, .int .i64 n.kids, .int .i64 n.own, .int .i64 n.len, .int .i64 n.cnt, .string n.data, .int .i64 n.next, .slice a6 n.names.length c6] ndT) = wC := ⟨_, rfl⟩
            have hxC : Ext w6 wC := by rw [← hWC]; exact (Kp.refl _ _).alloc _
            have hC : Blk wC w6.heap.size (ndA n (.slice a6 n.names.length c6)) ndT := by rw [← hWC]; exact heap_alloc_new w6 _
            have n4 : wC.cell? ⟨w6.heap.size, 4, none⟩ = some (.int .i64 n.own) := hC.cell 4 _ rfl
            have HND : Hid (NdAt wC w6.heap.size n) := ⟨_, hC, own_less (ownsRow.ext ho6 hxC) (Nat.zero_le _)⟩
            have HCP := Lib.hid ((hx6.trans hxC).cell hc (fun f => f))
            have HXC := Lib.hid (HXR.out.trans (hx6.trans hxC))
            have HWC := Lib.hid hWC
            clear hWC hC hxC ht6 hx6 ho6 HN hc
            unfold ndA
            go_upto_region 18 with (fail)
            rw [HWC.out]
            by_cases ho : n.own = 0
            · have b5 : (n.own != 0) = false := by rw [ho]; rfl
              have HE := Lib.hid (by have := ephemeral_any w6.heap.size n wC HND.out; rw [b5] at this; exact this)
              have HMM := Lib.hid (HMN.out ho)
              clear b5 n4
              go_wp2_with (fail)
              refine HE.out.mono ?_
              rintro e w7 ⟨rfl, rfl⟩
              go_wp2_with (fail)
              go_light
              refine ⟨⟨j + 1, ?_, ?_, ?_, HXC.out⟩, ?_⟩
              · omega
              · go_num
              · rw [HMM.out]
              · simp [intOf]; omega
            · have b5 : (n.own != 0) = true := by simpa using ho
              have HE := Lib.hid (by have := ephemeral_any w6.heap.size n wC HND.out; rw [b5] at this; exact this)
              have HMM := Lib.hid (HMY.out ho)
              have hpos : 0 < n.own := by
                rcases HOB.out with h | ⟨h, _⟩
                · rw [HOW.out] at h; exact absurd h ho
                · rw [HOW.out] at h; omega
              have hin : x ∈ ofS (pl t) L n.own := by
                have h1 := ofS_mem (P := pl t) HXM.out (by rw [HOW.out]; exact hpos)
                rwa [HOW.out] at h1
              have HOFN := Lib.hid (fun W (hx : Ext wC W) => HOF.out W (HXS.out.trans (HXC.out.trans hx)) n.own)
              have HIN := Lib.hid hin
              have N4 := Lib.hid n4
              generalize ofS (pl t) L n.own = F at HOFN HIN
              clear b5 hin hpos n4
              go_wp2_with (fail)
              refine HE.out.mono ?_
              rintro e w7 ⟨rfl, rfl⟩
              go_upto_region 20 with (fail)
              refine' wp_region_dag0 ((73, .val _) :: (74, .val _) :: (75, .val _) :: (76, .val _) :: (77, ⟨fun v => ∃ a c, v = .slice a F.length c, fun v w => w.ownsRow 0 strT 1 v F.length (F.map encStr)⟩) :: (78, .val _) :: (79, .val _) :: (80, .val _) :: (81, .val _) :: (82, .val _) :: (83, .val _) :: []) (by exact ⟨fun _ _ _ _ _ => trivial, ⟨fun _ _ _ _ _ => trivial, ⟨fun _ _ _ _ _ => trivial, ⟨fun _ _ _ _ _ => trivial, ⟨fun _ _ _ hr hv => ownsRow.ext hv hr, ⟨fun _ _ _ _ _ => trivial, ⟨fun _ _ _ _ _ => trivial, ⟨fun _ _ _ _ _ => trivial, ⟨fun _ _ _ _ _ => trivial, ⟨fun _ _ _ _ _ => trivial, ⟨fun _ _ _ _ _ => trivial, trivial⟩⟩⟩⟩⟩⟩⟩⟩⟩⟩⟩) (by kernel_rfl) (by kernel_rfl) (by kernel_rfl) ?_
              rotate_left 10
              repeat (first
                | (refine wpD_skipv ?_ ?_ ?_
                   focus rfl
                   focus rfl
                   simp only [Act.put, List.setIfInBounds_toArray, List.set_cons_succ, List.set_cons_zero])
                | (refine' wpD_val (c := _) ?_ (fun w => Kp.refl _ w) ?_ (fun wq hwq hfq => ?_) ?_
                   rotate_left
                   focus rfl
                   focus rfl
                   focus ((have c1 := hwq.cell HCP.out (fun f => f); have c2 := hwq.cell N4.out (fun f => f)); go_simp; first | done | rfl)
                   simp only [Act.put, List.setIfInBounds_toArray, List.set_cons_succ, List.set_cons_zero])
                | (refine' wpD_con (c := _) ?_ ?_ (fun wq hwq hfq => ?_) ?_
                   rotate_left
                   focus rfl
                   focus rfl
                   focus ((have c1 := hwq.cell HCP.out (fun f => f); have c2 := hwq.cell N4.out (fun f => f)); go_simp; (try (rw [dUpon_enter])); (have hF := (show wq.ownsRow 0 strT 1 (.slice a77 F.length c77) F.length (F.map encStr) from hfq 77 rfl); (with_reducible refine (has_call HPX.out HIN.out hF).mono ?_); rintro e w' ⟨rfl, rfl⟩; exact DEnd.con (Kp.refl _ _)))
                   simp only [Act.put, List.setIfInBounds_toArray, List.set_cons_succ, List.set_cons_zero])
                | (refine wpD_made (A := fun v => ∃ a c, v = .slice a F.length c) (V := fun v w => w.ownsRow 0 strT 1 v F.length (F.map encStr)) 77 ?_ ?_ ?_ ?_ (fun wq hwq hfq => ?_) (fun v77 h77 => ?_)
                   focus rfl
                   focus rfl
                   focus (exact ⟨.slice none F.length 0, _, _, rfl⟩)
                   focus rfl
                   focus ((have c1 := hwq.cell HCP.out (fun f => f); have c2 := hwq.cell N4.out (fun f => f)); go_simp; (try (rw [dUpon_enter])); (with_reducible refine (HOFN.out _ hwq).mono ?_); rintro e w' ⟨v, rfl, ho, hx⟩; exact DEnd.made (owns_slice ho) (own_less ho (Nat.zero_le _)) hx)
                   obtain ⟨a77, c77, rfl⟩ := h77
                   simp only [Act.put, List.setIfInBounds_toArray, List.set_cons_succ, List.set_cons_zero])
                | fail)
              refine wpD_nil ?_
              intro w8 hx8 hend
              clear hend
              have HX8 := Lib.hid (HXC.out.trans hx8)
              clear hx8
              go_wp2_with (fail)
              go_light
              refine ⟨⟨j + 1, ?_, ?_, ?_, HX8.out⟩, ?_⟩
              · omega
              · go_num
              · rw [HMM.out]; go_num
              · simp [intOf]; omega
          · have hjl : L.take j = L := List.take_of_length_le (by omega)
            rw [hjl]
            have hmb : manyN (pl t) L ≤ 60 := Nat.le_trans (List.length_filter_le _ _) hL
            obtain ⟨wT, rfl⟩ : ∃ wo : World, wo = wr := ⟨_, rfl⟩
            have HTT := Lib.hid (HTS.out.ext HXR.out)
            have HWT := Lib.hid (HX0.out.trans HTT.out.ex)
            have HOT := Lib.hid (fun W (hx : Ext wT W) s => HOF.out W (HXS.out.trans (HXR.out.trans hx)) s)
            clear hjl HOPS HM HTS HXS HXR HOF
            go_wp2_with (fail)
            go_loopw [6, 12, 13] (fun s6 s12 s13 wr => Ow2 (pl t) L xs wT s6 s12 s13 wr) (fun _ _ s13 _ => xs.length - (intOf s13).toNat)
            case atStart => exact ⟨0, [], Nat.zero_le _, rfl, by rw [in_nil]; rfl, (Fresh0.new (Nat.le_refl _)).1, Nat.le_refl _, fun s h => by (cases h), fun k _ h => by omega, (Kp.refl _ _).alloc _⟩
            case round =>
              obtain ⟨i2, D, hi2, rfl, rfl, hown, hDl, hpos, hcov, hxT⟩ := hrel
              obtain ⟨va, vc, rfl⟩ := owns_slice hown
              have HOWN := Lib.hid hown
              have HXT := Lib.hid hxT
              have HPOS := Lib.hid hpos
              have HCOV := Lib.hid hcov
              have hib : inN (pl t) D L ≤ 60 := Nat.le_trans (List.length_filter_le _ _) hL
              clear hown hxT hpos hcov
              by_cases hl2 : i2 < xs.length
              · obtain ⟨g, off, rfl, hg, hcl⟩ := HOP.out (by omega)
                have hc6 : wr.cell? ⟨g, off + i2 * 18 + 6, none⟩ = some (.int .i64 xs[i2].sess) := (HWT.out.trans HXT.out).cell (hcl i2 hl2 6 _ (by decide) rfl) (fun f => f)
                have HNXT : Hid (∀ D' : List Int, (∀ s ∈ D, s ∈ D') → (1 ≤ xs[i2].sess → xs[i2].sess ∈ D') → ∀ k (h : k < xs.length), k < i2 + 1 → 1 ≤ xs[k].sess → xs[k].sess ∈ D') := fun D' h1 h2 k h hk h3 => by
                  by_cases e : k = i2
                  · subst e; exact h2 h3
                  · exact h1 _ (HCOV.out k h (by omega) h3)
                obtain ⟨sess, hsess⟩ : ∃ s, xs[i2].sess = s := ⟨_, rfl⟩
                rw [hsess] at hc6 HNXT
                have HC6 := Lib.hid hc6
                have HC6W : Hid (w.cell? ⟨g, off + i2 * 18 + 6, none⟩ = some (.int .i64 sess)) := by
                  have h1 := hcl i2 hl2 6 _ (by decide) rfl
                  rw [hsess] at h1
                  exact h1
                clear hcl hsess
                obtain ⟨wU, rfl⟩ : ∃ wo : World, wo = wr := ⟨_, rfl⟩
                obtain ⟨da, dc, hsl, _, hDm, _, hDo⟩ := Sl.open (Sl.of_owns HOWN.out)
                have hDo' : 0 < D.length → ∃ gD oD, va = some ⟨gD, oD, none⟩ ∧ ∀ k (hk : k < D.length), wU.cell? ⟨gD, oD + k, none⟩ = some (.int .i64 D[k]) := fun h0 => by
                  obtain ⟨gD, oD, e2, _, hc⟩ := hDo h0
                  simp only [Value.slice.injEq, true_and] at hsl
                  obtain ⟨rfl, _⟩ := hsl
                  exact ⟨gD, oD, e2, fun k hk => hc k _ (by rw [List.getElem?_map, List.getElem?_eq_getElem hk]; rfl)⟩
                have HDO := Lib.hid hDo'
                clear hDo hDo' hsl hDm
                go_wp2_with (fail)
                go_loopw [14, 15] (fun s14 s15 wr => Ow3 D sess wU s14 s15 wr) (fun _ s15 _ => D.length - (intOf s15).toNat)
                case atStart => exact ⟨0, Nat.zero_le _, rfl, by simp, Kp.refl _ _⟩
                case round =>
                  obtain ⟨k, hk, rfl, rfl, hxk⟩ := hrel
                  have HXK := Lib.hid hxk
                  have HC6K := Lib.hid (hxk.cell HC6.out (fun f => f))
                  clear hxk hc6
                  by_cases hkl : k < D.length
                  · obtain ⟨gD, oD, rfl, hcD⟩ := HDO.out (by omega)
                    have HCD := Lib.hid (HXK.out.cell (hcD k hkl) (fun f => f))
                    have htk : sess ∈ D.take (k + 1) ↔ sess ∈ D.take k ∨ D[k] = sess := by
                      rw [List.take_succ_eq_append_getElem hkl, List.mem_append, List.mem_singleton]
                      exact or_congr Iff.rfl ⟨fun e => e.symm, fun e => e.symm⟩
                    have HTK := Lib.hid htk
                    obtain ⟨dk, hdk⟩ : ∃ y, D[k] = y := ⟨_, rfl⟩
                    rw [hdk] at HCD HTK
                    clear hcD htk hdk
                    by_cases hag : sess < 1 ∨ sess ∈ D.take k
                    · have hag2 : sess < 1 ∨ sess ∈ D.take (k + 1) := hag.imp id (fun h => HTK.out.2 (.inl h))
                      have HA2 := Lib.hid (decide_eq_true hag2)
                      rw [decide_eq_true hag]
                      clear hag hag2
                      go_upto_region 30 with (fail)
                      refine' wp_region_dag0 ((103, .val _) :: (104, .val _) :: (105, .val _) :: (106, .val _) :: (107, .val _) :: (108, .val _) :: (109, .val _) :: (110, .val _) :: (111, .val _) :: (112, .val _) :: (113, .val _) :: (114, .val _) :: (115, .val _) :: (14, .val _) :: []) (by exact ⟨fun _ _ _ _ _ => trivial, ⟨fun _ _ _ _ _ => trivial, ⟨fun _ _ _ _ _ => trivial, ⟨fun _ _ _ _ _ => trivial, ⟨fun _ _ _ _ _ => trivial, ⟨fun _ _ _ _ _ => trivial, ⟨fun _ _ _ _ _ => trivial, ⟨fun _ _ _ _ _ => trivial, ⟨fun _ _ _ _ _ => trivial, ⟨fun _ _ _ _ _ => trivial, ⟨fun _ _ _ _ _ => trivial, ⟨fun _ _ _ _ _ => trivial, ⟨fun _ _ _ _ _ => trivial, ⟨fun _ _ _ _ _ => trivial, trivial⟩⟩⟩⟩⟩⟩⟩⟩⟩⟩⟩⟩⟩⟩) (by kernel_rfl) (by kernel_rfl) (by kernel_rfl) ?_
                      rotate_left 14
                      repeat (first
                        | (refine wpD_skipv ?_ ?_ ?_
                           focus rfl
                           focus rfl
                           simp only [Act.put, List.setIfInBounds_toArray, List.set_cons_succ, List.set_cons_zero])
                        | (refine' wpD_val (c := _) ?_ (fun w => Kp.refl _ w) ?_ (fun wq hwq hfq => ?_) ?_
                           rotate_left
                           focus rfl
                           focus rfl
                           focus (skip; go_simp; first | done | rfl)
                           simp only [Act.put, List.setIfInBounds_toArray, List.set_cons_succ, List.set_cons_zero])
                        | (refine' wpD_con (c := _) ?_ ?_ (fun wq hwq hfq => ?_) ?_
                           rotate_left
                           focus rfl
                           focus rfl
                           focus (skip; go_simp; (try (rw [dUpon_enter])); fail)
                           simp only [Act.put, List.setIfInBounds_toArray, List.set_cons_succ, List.set_cons_zero])
                        | fail)
                      refine wpD_nil ?_
                      intro w8 hx8 hend
                      clear hend
                      have HX8 := Lib.hid (HXK.out.trans hx8)
                      clear hx8
                      go_wp2_with (fail)
                      go_light
                      refine ⟨⟨k + 1, ?_, ?_, by rw [HA2.out], HX8.out⟩, ?_⟩
                      · omega
                      · go_num
                      · simp [intOf]; omega
                    · by_cases heq : dk = sess
                      · have hb : (dk == sess) = true := by simpa using heq
                        have hag2 : sess < 1 ∨ sess ∈ D.take (k + 1) := .inr (HTK.out.2 (.inr heq))
                        have HA2 := Lib.hid (decide_eq_true hag2)
                        rw [decide_eq_false hag]
                        clear hag hag2 heq
                        go_upto_region 30 with (fail)
                        refine' wp_region_dag0 ((103, .val _) :: (104, .val _) :: (105, .val _) :: (106, .val _) :: (107, .val _) :: (108, .val _) :: (109, .val _) :: (110, .val _) :: (111, .val _) :: (112, .val _) :: (113, .val _) :: (114, .val _) :: (115, .val _) :: (14, .val _) :: []) (by exact ⟨fun _ _ _ _ _ => trivial, ⟨fun _ _ _ _ _ => trivial, ⟨fun _ _ _ _ _ => trivial, ⟨fun _ _ _ _ _ => trivial, ⟨fun _ _ _ _ _ => trivial, ⟨fun _ _ _ _ _ => trivial, ⟨fun _ _ _ _ _ => trivial, ⟨fun _ _ _ _ _ => trivial, ⟨fun _ _ _ _ _ => trivial, ⟨fun _ _ _ _ _ => trivial, ⟨fun _ _ _ _ _ => trivial, ⟨fun _ _ _ _ _ => trivial, ⟨fun _ _ _ _ _ => trivial, ⟨fun _ _ _ _ _ => trivial, trivial⟩⟩⟩⟩⟩⟩⟩⟩⟩⟩⟩⟩⟩⟩) (by kernel_rfl) (by kernel_rfl) (by kernel_rfl) ?_
                        rotate_left 14
                        repeat (first
                          | (refine wpD_skipv ?_ ?_ ?_
                             focus rfl
                             focus rfl
                             simp only [Act.put, List.setIfInBounds_toArray, List.set_cons_succ, List.set_cons_zero])
                          | (refine' wpD_val (c := _) ?_ (fun w => Kp.refl _ w) ?_ (fun wq hwq hfq => ?_) ?_
                             rotate_left
                             focus rfl
                             focus rfl
                             focus ((have c1 := hwq.cell HCD.out (fun f => f); have c2 := hwq.cell HC6K.out (fun f => f)); go_simp; first | done | rfl)
                             simp only [Act.put, List.setIfInBounds_toArray, List.set_cons_succ, List.set_cons_zero])
                          | (refine' wpD_con (c := _) ?_ ?_ (fun wq hwq hfq => ?_) ?_
                             rotate_left
                             focus rfl
                             focus rfl
                             focus ((have c1 := hwq.cell HCD.out (fun f => f); have c2 := hwq.cell HC6K.out (fun f => f)); go_simp; (try (rw [dUpon_enter])); fail)
                             simp only [Act.put, List.setIfInBounds_toArray, List.set_cons_succ, List.set_cons_zero])
                          | fail)
                        refine wpD_nil ?_
                        intro w8 hx8 hend
                        clear hend
                        have HX8 := Lib.hid (HXK.out.trans hx8)
                        clear hx8
                        go_wp2_with (fail)
                        go_light
                        refine ⟨⟨k + 1, ?_, ?_, by rw [HA2.out], HX8.out⟩, ?_⟩
                        · omega
                        · go_num
                        · simp [intOf]; omega
                      · have hb : (dk == sess) = false := by simpa using heq
                        have hag2 : ¬ (sess < 1 ∨ sess ∈ D.take (k + 1)) := fun h => by
                          rcases h with h | h
                          · exact hag (.inl h)
                          · rcases HTK.out.1 h with h | h
                            · exact hag (.inr h)
                            · exact heq h
                        have HA2 := Lib.hid (decide_eq_false hag2)
                        rw [decide_eq_false hag]
                        clear hag hag2 heq
                        go_upto_region 30 with (fail)
                        refine' wp_region_dag0 ((103, .val _) :: (104, .val _) :: (105, .val _) :: (106, .val _) :: (107, .val _) :: (108, .val _) :: (109, .val _) :: (110, .val _) :: (111, .val _) :: (112, .val _) :: (113, .val _) :: (114, .val _) :: (115, .val _) :: (14, .val _) :: []) (by exact ⟨fun _ _ _ _ _ => trivial, ⟨fun _ _ _ _ _ => trivial, ⟨fun _ _ _ _ _ => trivial, ⟨fun _ _ _ _ _ => trivial, ⟨fun _ _ _ _ _ => trivial, ⟨fun _ _ _ _ _ => trivial, ⟨fun _ _ _ _ _ => trivial, ⟨fun _ _ _ _ _ => trivial, ⟨fun _ _ _ _ _ => trivial, ⟨fun _ _ _ _ _ => trivial, ⟨fun _ _ _ _ _ => trivial, ⟨fun _ _ _ _ _ => trivial, ⟨fun _ _ _ _ _ => trivial, ⟨fun _ _ _ _ _ => trivial, trivial⟩⟩⟩⟩⟩⟩⟩⟩⟩⟩⟩⟩⟩⟩) (by kernel_rfl) (by kernel_rfl) (by kernel_rfl) ?_
                        rotate_left 14
                        repeat (first
                          | (refine wpD_skipv ?_ ?_ ?_
                             focus rfl
                             focus rfl
                             simp only [Act.put, List.setIfInBounds_toArray, List.set_cons_succ, List.set_cons_zero])
                          | (refine' wpD_val (c := _) ?_ (fun w => Kp.refl _ w) ?_ (fun wq hwq hfq => ?_) ?_
                             rotate_left
                             focus rfl
                             focus rfl
                             focus ((have c1 := hwq.cell HCD.out (fun f => f); have c2 := hwq.cell HC6K.out (fun f => f)); go_simp; first | done | rfl)
                             simp only [Act.put, List.setIfInBounds_toArray, List.set_cons_succ, List.set_cons_zero])
                          | (refine' wpD_con (c := _) ?_ ?_ (fun wq hwq hfq => ?_) ?_
                             rotate_left
                             focus rfl
                             focus rfl
                             focus ((have c1 := hwq.cell HCD.out (fun f => f); have c2 := hwq.cell HC6K.out (fun f => f)); go_simp; (try (rw [dUpon_enter])); fail)
                             simp only [Act.put, List.setIfInBounds_toArray, List.set_cons_succ, List.set_cons_zero])
                          | fail)
                        refine wpD_nil ?_
                        intro w8 hx8 hend
                        clear hend
                        have HX8 := Lib.hid (HXK.out.trans hx8)
                        clear hx8
                        go_wp2_with (fail)
                        go_light
                        refine ⟨⟨k + 1, ?_, ?_, by rw [HA2.out], HX8.out⟩, ?_⟩
                        · omega
                        · go_num
                        · simp [intOf]; omega
                  · have htk : D.take k = D := List.take_of_length_le (by omega)
                    rw [htk]
                    clear htk
                    by_cases hag : sess < 1 ∨ sess ∈ D
                    · have HC2 := Lib.hid (HNXT.out D (fun s h => h) (fun h => by
                        rcases hag with h2 | h2
                        · omega
                        · exact h2))
                      rw [decide_eq_true hag]
                      clear hag
                      go_wp2_with (fail)
                      go_light
                      refine ⟨⟨i2 + 1, D, ?_, ?_, rfl, ownsRow.ext HOWN.out HXK.out, ?_, HPOS.out, HC2.out, HXT.out.trans HXK.out⟩, ?_⟩
                      · omega
                      · go_num
                      · omega
                      · simp [intOf]; omega
                    · have hs1 : 1 ≤ sess := by
                        have := fun h => hag (.inl h)
                        omega
                      have hsD : sess ∉ D := fun h => hag (.inr h)
                      have HC2 := Lib.hid (HNXT.out (D ++ [sess]) (fun s h => by simp [h]) (fun _ => by simp))
                      have HST := Lib.hid (in_step (P := pl t) hsD hs1 L)
                      have HPS : Hid (∀ s ∈ D ++ [sess], 1 ≤ s) := fun s h => by
                        rcases List.mem_append.1 h with h | h
                        · exact HPOS.out s h
                        · rw [List.mem_singleton.1 h]; exact hs1
                      have hfb : (ofS (pl t) L sess).length ≤ 60 := Nat.le_trans (List.length_filter_le _ _) hL
                      have c6 := HC6K.out
                      rw [decide_eq_false hag]
                      clear hag hsD hs1
                      obtain ⟨wV, rfl⟩ : ∃ wo : World, wo = wr := ⟨_, rfl⟩
                      go_wp2_with (at_builtin; refine wpList_app1 57 i64T i64s_facts rfl _ _ rfl wT.heap.size _ D.length (D.map i64V) rfl (ownsRow.ext HOWN.out (HXK.out.ext ((Kp.refl _ wV).alloc _))) wV.heap.size 1 (i64V sess) rfl (Blk.cell (heap_alloc_new wV _) 0 _ rfl) rfl ?c1 ?c2 ?_)
                      case c1 => omega
                      case c2 => exact Nat.le_trans (HXT.out.trans HXK.out).size (by simp)
                      intro v' w' h1' h2'
                      have hxw : Ext wT w' := ((HXT.out.trans HXK.out).alloc _).next h2' (fun q hq e => by have := (own_in HOWN.out e).1; omega)
                      have HXW := Lib.hid hxw
                      have HOF := Lib.hid (HOT.out w' hxw sess)
                      have h6' := (HWT.out.trans hxw).cell (show w.cell? ⟨g, off + i2 * 18 + 6, none⟩ = some (.int .i64 sess) from HC6W.out) (fun f => f)
                      have HROW := Lib.hid h1'
                      generalize ofS (pl t) L sess = F at HOF HST hfb
                      clear h1' h2' hxw c6
                      go_wp2_with (fail)
                      refine HOF.out.mono ?_
                      rintro e w9 ⟨vF, rfl, hoF, hxF⟩
                      obtain ⟨aF, cF, rfl⟩ := owns_slice hoF
                      have HXF := Lib.hid (HXW.out.trans hxF)
                      have HROW9 := Lib.hid (ownsRow.ext HROW.out hxF)
                      clear hoF hxF h6' HROW
                      go_wp2_with (fail)
                      go_light
                      refine ⟨⟨i2 + 1, D ++ [sess], ?_, ?_, ?_, ?_, ?_, HPS.out, HC2.out, HXF.out⟩, ?_⟩
                      · omega
                      · go_num
                      · rw [HST.out]; go_num
                      · rw [List.length_append, List.map_append]; exact HROW9.out
                      · rw [List.length_append, List.length_singleton]; omega
                      · simp [intOf]; omega
              · have HIM : Hid (inN (pl t) D L = manyN (pl t) L) := in_many HPOS.out (fun s hs h1 => by
                  obtain ⟨a, ha, rfl⟩ := List.mem_map.1 hs
                  obtain ⟨k, hk, rfl⟩ := List.getElem_of_mem ha
                  exact HCOV.out k hk (by omega) h1) HGT.out.owned L
                have b5 : ((inN (pl t) D L : Int) == (manyN (pl t) L : Int)) = true := by rw [HIM.out]; simp
                have HOF := Lib.hid (HOT.out wr HXT.out 0)
                rw [ofS_zero] at HOF
                clear HIM
                go_wp2_with (fail)
                refine HOF.out.mono ?_
                rintro e w9 ⟨vF, rfl, hoF, hxF⟩
                obtain ⟨aF, cF, rfl⟩ := owns_slice hoF
                have HXF := Lib.hid (HWT.out.trans (HXT.out.trans hxF))
                clear hoF hxF
                go_wp2_with (fail)
                go_ret
                exact ⟨rfl, HXF.out⟩
  · have b1' : (40 : Int) < (xs.length : Int) := by omega
    go_wp2_with (fail)
    go_ret
    exact ⟨rfl, HX0.out⟩
end Go.Proofs.YtkpcmbgnaenbhaaGreatDoor
