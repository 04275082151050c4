/- Texts put together: AvOrdLaw, AvLaw21B, AvLaw21Z, AvEvLaw. -/
import Derived.Test.YtnlefnhdhigecaaGreatDoorAvG19
import Derived.Test.YtnlefnhdhigecaaGreatDoorAvG38

/- Plain laws of a solo: numbers rise. No program. -/
namespace Go.Proofs.YtnlefnhdhigecaaGreatDoor
set_option maxRecDepth 100000
open Go.RowKit Av

theorem setTill_ids (l : List SeV) (k : Nat) (now : Int) : (setTill l k now).map (·.id) = l.map (·.id) := by
  unfold setTill
  split
  · rfl
  · rename_i x hx
    apply List.ext_getElem?
    intro i
    rw [List.getElem?_map, List.getElem?_map, List.getElem?_set]
    by_cases e : k = i
    · subst e
      have hk := (List.getElem?_eq_some_iff.1 hx).1
      rw [if_pos rfl, if_pos hk, hx]; rfl
    · rw [if_neg e]
theorem findS_ids {l m : List SeV} (h : l.map (·.id) = m.map (·.id)) (id : Int) : findS l id = findS m id := by
  have key : ∀ l : List SeV, findS l id = (l.map (·.id)).findIdx? (fun i => decide (i = id)) := fun l => by
    unfold findS
    rw [List.findIdx?_map]
    rfl
  rw [key, key, h]
theorem find_touch (ss : SsV) (a b : Int) : findS (touchS ss a).1.l b = findS ss.l b := by
  unfold touchS
  split
  · rfl
  · exact findS_ids (setTill_ids _ _ _) b
theorem live_touch (ss : SsV) (a b : Int) : liveS (touchS ss a).1 b = liveS ss b := by
  unfold liveS
  rw [find_touch]
theorem touch_ok {ss : SsV} {a : Int} (h : liveS ss a = true) : (touchS ss a).2 = 0 := by
  unfold liveS at h
  unfold touchS
  cases hf : findS ss.l a with
  | none => rw [hf] at h; cases h
  | some k => rfl
/-- What Ask says, by what stands there. -/
theorem askS_bad {s : SoV} {sess num : Int} {ops : List OpV} (h : mayR sess num ops ≠ 0) : askS s sess num ops = (s, failRp num (mayR sess num ops) (-1) 0) := by
  unfold askS; rw [if_pos h]
theorem askS_first {s : SoV} {sess num : Int} {ops : List OpV} (h : mayR sess num ops = 0) (h2 : liveS s.ss sess = true) (h3 : mget s.last sess = none) : askS s sess num ops = doneS { s with ss := (touchS s.ss sess).1 } sess num ops := by
  unfold askS; rw [if_neg (by rw [h]; simp), if_neg (by rw [touch_ok h2]; simp), h3]
theorem askS_same {s : SoV} {sess num : Int} {ops : List OpV} {r : RpV} (h : mayR sess num ops = 0) (h2 : liveS s.ss sess = true) (h3 : mget s.last sess = some r) (h4 : num = r.num) : askS s sess num ops = ({ s with ss := (touchS s.ss sess).1 }, r) := by
  unfold askS; rw [if_neg (by rw [h]; simp), if_neg (by rw [touch_ok h2]; simp), h3]; simp only [if_pos h4]
theorem askS_old {s : SoV} {sess num : Int} {ops : List OpV} {r : RpV} (h : mayR sess num ops = 0) (h2 : liveS s.ss sess = true) (h3 : mget s.last sess = some r) (h4 : num < r.num) : askS s sess num ops = ({ s with ss := (touchS s.ss sess).1 }, failRp num 1 (-1) ops.length) := by
  unfold askS; rw [if_neg (by rw [h]; simp), if_neg (by rw [touch_ok h2]; simp), h3]; simp only [if_neg (show ¬ num = r.num by omega), if_pos h4]
theorem askS_next {s : SoV} {sess num : Int} {ops : List OpV} {r : RpV} (h : mayR sess num ops = 0) (h2 : liveS s.ss sess = true) (h3 : mget s.last sess = some r) (h4 : r.num < num) : askS s sess num ops = doneS { s with ss := (touchS s.ss sess).1 } sess num ops := by
  unfold askS; rw [if_neg (by rw [h]; simp), if_neg (by rw [touch_ok h2]; simp), h3]; simp only [if_neg (show ¬ num = r.num by omega), if_neg (show ¬ num < r.num by omega)]
/-- Exists of a node that is not there. -/
def oEx : OpV := ⟨6, ⟨#[47, 97]⟩, ⟨#[]⟩, 0, 0⟩
theorem good_one {o : OpV} (h : goodO o = 0) (sess num : Int) : mayR sess num [o] = if sess < 1 ∨ num < 1 then 1 else 0 := by
  unfold mayR
  by_cases hb : sess < 1 ∨ num < 1
  · rw [if_pos hb, if_pos (by rcases hb with h | h; exact .inl h; exact .inr (.inl h))]
  · rw [if_neg hb, if_neg (by simp; omega), if_neg (by simp)]
    simp [h]
theorem oEx_good : goodO oEx = 0 := by decide +kernel
theorem oEx_do (z : Int) (hz : 0 ≤ z) : (doL 10 [] oEx 1 z).2.err = 4 := by
  unfold doL
  rw [if_neg (by rw [oEx_good]; simp), if_neg (by omega), if_neg (by decide), if_neg (by decide)]
  rfl
theorem request_fail {room : Int} {L : RL} {sess num z : Int} {o : OpV} (h : mayR sess num [o] = 0) (he : (doL room L o sess z).2.err ≠ 0) : (requestL room L sess num z [o]).1 = L ∧ (requestL room L sess num z [o]).2.err = (doL room L o sess z).2.err ∧ (requestL room L sess num z [o]).2.num = num ∧ (requestL room L sess num z [o]).2.zxid = z := by
  have h1 : runL room sess z L [o] = ((doL room L o sess z).1, [], (doL room L o sess z).2.err) := by unfold runL; rw [if_pos he]
  have h2 : multiL room L sess z [o] = (L, failRp 0 (doL room L o sess z).2.err (([] : List Rp).length) 1, false) := by
    unfold multiL
    rw [if_neg (by simp), if_neg (by simp), h1, if_pos he]
    rfl
  unfold requestL
  rw [if_neg (by rw [h]; simp), h2]
  exact ⟨rfl, rfl, rfl, rfl⟩
/-- The state between two of SoloOrder's requests. -/
structure OrdS (last z : Int) (s : SoV) : Prop where
  room : s.room = 10
  tr : s.tr = []
  live : liveS s.ss 1 = true
  zx : s.zx = z
  pos : 0 ≤ z
  last : (last = 0 ∧ mget s.last 1 = none) ∨ (0 < last ∧ ∃ r, mget s.last 1 = some r ∧ r.num = last ∧ r.err = 4)
theorem OrdS.touch {last z : Int} {s : SoV} (h : OrdS last z s) : OrdS last z { s with ss := (touchS s.ss 1).1 } := ⟨h.room, h.tr, by show liveS (touchS s.ss 1).1 1 = true; rw [live_touch]; exact h.live, h.zx, h.pos, h.last⟩
theorem OrdS.done {last z : Int} {s : SoV} (h : OrdS last z s) {num : Int} (hn : 0 < num) : OrdS num (z + 1) (doneS s 1 num [oEx]).1 ∧ (doneS s 1 num [oEx]).2.err = 4 ∧ (doneS s 1 num [oEx]).2.zxid = z + 1 := by
  have hm : mayR 1 num [oEx] = 0 := by rw [good_one oEx_good, if_neg (by omega)]
  have hd := oEx_do (z + 1) (by have := h.pos; omega)
  have hr := request_fail (room := 10) (L := []) (z := z + 1) hm (by rw [hd]; decide)
  rw [hd] at hr
  unfold doneS
  simp only
  rw [h.zx, h.room, h.tr]
  generalize requestL 10 [] 1 num (z + 1) [oEx] = X at hr ⊢
  obtain ⟨h1, h2, h3, h4⟩ := hr
  have hc : ∀ s' : SoV, changedS s' [oEx] X.2 = s' := fun s' => by unfold changedS; rw [if_pos (by rw [h2]; decide)]
  rw [hc]
  refine ⟨⟨rfl, h1, h.live, rfl, by have := h.pos; omega, .inr ⟨hn, X.2, ?_, h3, h2⟩⟩, h2, h4⟩
  show mget (mset s.last 1 X.2) 1 = some X.2
  rw [mget_mset, if_pos rfl]
theorem OrdS.low {last z : Int} {s : SoV} (h : OrdS last z s) {num : Int} (hn : num < 1 ∨ num < last) : (askS s 1 num [oEx]).2.err = 1 ∧ OrdS last z (askS s 1 num [oEx]).1 := by
  by_cases h1 : num < 1
  · have hm : mayR 1 num [oEx] = 1 := by rw [good_one oEx_good, if_pos (.inr h1)]
    rw [askS_bad (by rw [hm]; decide), hm]
    exact ⟨rfl, h⟩
  · have hm : mayR 1 num [oEx] = 0 := by rw [good_one oEx_good, if_neg (by omega)]
    rcases h.last with ⟨h2, _⟩ | ⟨h2, r, h3, h4, h5⟩
    · omega
    · rw [askS_old hm h.live h3 (by omega)]
      exact ⟨rfl, h.touch⟩
theorem OrdS.same {last z : Int} {s : SoV} (h : OrdS last z s) {num : Int} (hn : ¬ (num < 1 ∨ num < last)) (he : num = last) : (askS s 1 num [oEx]).2.err = 4 ∧ OrdS last z (askS s 1 num [oEx]).1 := by
  have hm : mayR 1 num [oEx] = 0 := by rw [good_one oEx_good, if_neg (by omega)]
  rcases h.last with ⟨h2, _⟩ | ⟨h2, r, h3, h4, h5⟩
  · omega
  · rw [askS_same hm h.live h3 (by omega)]
    exact ⟨h5, h.touch⟩
theorem OrdS.next {last z : Int} {s : SoV} (h : OrdS last z s) {num : Int} (hn : ¬ (num < 1 ∨ num < last)) (he : num ≠ last) : (askS s 1 num [oEx]).2.err = 4 ∧ (askS s 1 num [oEx]).2.zxid = z + 1 ∧ OrdS num (z + 1) (askS s 1 num [oEx]).1 := by
  have hm : mayR 1 num [oEx] = 0 := by rw [good_one oEx_good, if_neg (by omega)]
  rcases h.last with ⟨h2, h3⟩ | ⟨h2, r, h3, h4, h5⟩
  · rw [askS_first hm h.live h3]
    obtain ⟨a, b, c⟩ := h.touch.done (num := num) (by omega)
    exact ⟨b, c, a⟩
  · rw [askS_next hm h.live h3 (by omega)]
    obtain ⟨a, b, c⟩ := h.touch.done (num := num) (by omega)
    exact ⟨b, c, a⟩
end Go.Proofs.YtnlefnhdhigecaaGreatDoor

/- Walks of package aviarylaw21: SoloOrder. -/
namespace Go.Proofs.YtnlefnhdhigecaaGreatDoor
set_option maxRecDepth 100000
open Go.RowKit Av

theorem ord_open : (openO (soZ 10) 100).2 = (1, 0) := by decide
theorem ord_zero : OrdS 0 0 (openO (soZ 10) 100).1 := ⟨rfl, rfl, by decide, rfl, Int.le_refl _, .inl ⟨rfl, rfl⟩⟩
def OrdRel (w : World) (g : Nat) (n : Nat) (s7 s8 : Value) (wr : World) : Prop := ∃ (j : Nat) (last z : Int) (s : SoV), j ≤ n ∧ s7 = .int .i64 last ∧ s8 = .int .i64 j ∧ SoS w wr g (1 + j) s ∧ OrdS last z s
set_option maxHeartbeats 6400000 in
theorem soloOrder_any (v : Value) (xs : List Int) (w : World) (hG : GT w) (h : Sl w 1 v xs.length (xs.flatMap ncell)) :
    Calls Tryz.prog 4 #[v] w fun e w' => e = .returned (.bool true) ∧ Ext w w' := by
  have HG := Lib.hid hG
  have HAW := Lib.hid (awake21_any w hG)
  obtain ⟨a, c, rfl, hcc, hm, _, hop⟩ := Sl.open h
  have HOP := Lib.hid hop
  unfold maxLen at hm
  clear h hop hG
  by_cases h30 : xs.length ≤ 30
  · have h30' : ¬ (30 : Int) < (xs.length : Int) := by omega
    go_enter Tryz.func4, Tryz.ntmps4
    go_wp2_with (fail)
    refine HAW.out.mono ?_
    rintro e w1 ⟨rfl, hx1⟩
    have HX1 := Lib.hid hx1
    clear hx1
    go_wp2_with (fail)
    refine (soS_new 10 w1 (by decide) (by decide)).mono ?_
    rintro e w2 ⟨g, rfl, h1, hx2⟩
    have H1 := Lib.hid h1
    clear h1 hx2
    go_wp2_with (fail)
    refine (soS_open H1.out (by decide) 100).mono ?_
    rintro e w3 ⟨rfl, h2, ho2⟩
    rw [ord_open]
    have H2 := Lib.hid h2
    clear h2 ho2 H1
    go_wp2_with (fail)
    have HG := Lib.hid (HG.out.ext HX1.out)
    go_loopw [7, 8] (fun s7 s8 wr => OrdRel w1 g xs.length s7 s8 wr) (fun s7 s8 _ => xs.length - (intOf s8).toNat)
    case atStart => exact ⟨0, 0, 0, _, Nat.zero_le _, rfl, rfl, H2.out, ord_zero⟩
    case round =>
      clear H2 HAW
      obtain ⟨j, last, z, s, hj, rfl, rfl, hs, ho⟩ := hrel
      have HS := Lib.hid hs
      have HO := Lib.hid ho
      have hz1 := hs.ok.zx
      rw [ho.zx] at hz1
      have hz2 := ho.pos
      clear hs ho
      by_cases hlt : j < xs.length
      · obtain ⟨b, off, rfl, _, hc⟩ := HOP.out (by omega)
        have c0 := hc (j * 1 + 0) _ (rows_cell ncell 1 (fun _ => rfl) xs j hlt 0 (by decide))
        rw [Nat.mul_one, Nat.add_zero] at c0
        obtain ⟨num, hn⟩ : ∃ num, xs[j] = num := ⟨_, rfl⟩
        rw [hn] at c0
        have C0 := Lib.hid c0
        have c1 := (HX1.out.trans HS.out.ex).cell c0 (fun f => f)
        clear hc hn c0
        have hW1 : wrap64 (z + 1) = z + 1 := by unfold wrap64; omega
        have hV1 : IntKind.i64.wrap (z + 1) = z + 1 := IntWalk.i64_in _ (by omega)
        go_wp2_with (fail)
        refine (soS_zxid HS.out).mono ?_
        rintro e w8 ⟨rfl, rfl⟩
        rw [HO.out.zx]
        go_wp2_with (fail)
        obtain ⟨hxA, hoA, hsA⟩ := ops1 wr oEx _ rfl
        have HXA := Lib.hid hxA
        have HOA := Lib.hid hoA
        have HQSZ := Lib.hid hsA
        clear hxA hoA hsA
        refine (ask21_any 1 num _ 1 1 _).mono ?_
        rintro e w5 ⟨rfl, hx3⟩
        have HASK := Lib.hid (soS_ask HS.out (by omega) HG.out (HXA.out.trans hx3) (.slice (some ⟨(wr).heap.size, 0, none⟩) 1 1) [oEx] 1 num (HOA.out.ext hx3) (by intro x hx; rw [List.mem_singleton.1 hx]; decide) (fun i hi => by
          have e2 : (wr).heap.size = i := by simpa [Value.ownBlock] using hi
          have h1 := Nat.lt_of_lt_of_le HQSZ.out hx3.size
          omega))
        clear hx3 HXA HOA HQSZ
        go_wp2_with (fail)
        refine HASK.out.mono ?_
        rintro e w6 ⟨u, rfl, hu1, hs1, ho1⟩
        clear HASK
        obtain ⟨X, hX⟩ : ∃ X, askS s 1 num [oEx] = X := ⟨_, rfl⟩
        have hlow := fun h => HO.out.low (num := num) h
        have hsame := fun h e => HO.out.same (num := num) h e
        have hnext := fun h e => HO.out.next (num := num) h e
        rw [hX] at hu1 hs1 hlow hsame hnext
        rw [hX]
        clear hX c1
        by_cases hl : num < 1 ∨ num < last
        · obtain ⟨he, hord⟩ := hlow hl
          have HORD := Lib.hid hord
          clear hlow hsame hnext hord
          have HOA := Lib.hid ho1
          obtain ⟨rsl, hrsl, hxe⟩ := hu1
          obtain ⟨ua, uc, rfl⟩ := hrsl.slice
          have HU0 : Hid (RpAt w6 0 (.slice ua rsl.length uc) X.2) := ⟨rsl, hrsl, hxe⟩
          clear hrsl hxe
          generalize rsl.length = un at *
          unfold rplA
          obtain ⟨w7, hWD⟩ : ∃ W, (w6).alloc (.cells #[.int .i64 (X.2).num, .int .i64 (X.2).zxid, .int .i64 (X.2).err, .int .i64 (X.2).at_, .slice ua un uc] rplT) = W := ⟨_, rfl⟩
          have hxD : Ext w6 w7 := by rw [← hWD]; exact (Kp.refl _ _).alloc _
          have BA : Hid (Blk w7 (w6).heap.size #[.int .i64 (X.2).num, .int .i64 (X.2).zxid, .int .i64 (X.2).err, .int .i64 (X.2).at_, .slice ua un uc] rplT) := by
            show Blk _ _ _ _
            rw [← hWD]; exact heap_alloc_new w6 _
          have HUA := Lib.hid (HU0.out.ext hxD)
          have HS7 := Lib.hid ((hs1).ext hxD)
          have HXD := Lib.hid hxD
          have HWD := Lib.hid hWD
          clear ho1 hs1 HU0 hxD hWD
          have hba := BA.out
          rw [he] at hba
          have a0 := hba.cell 0 _ rfl
          have a1 := hba.cell 1 _ rfl
          have a2 := hba.cell 2 _ rfl
          have a3 := hba.cell 3 _ rfl
          have a4 := hba.cell 4 _ rfl
          have c1 := (HX1.out.trans HS7.out.ex).cell C0.out (fun f => f)
          clear hba he
          go_upto_region 16 with (fail)
          rw [HWD.out]
          by_cases h1 : num < 1
          · clear hl
            go_wp2_with (fail)
            refine (soS_zxid HS7.out).mono ?_
            rintro e w8 ⟨rfl, rfl⟩
            rw [HORD.out.zx]
            go_wp2_with (fail)
            go_light
            refine ⟨⟨j + 1, last, z, _, ?_, ?_, ?_, HS7.out, HORD.out⟩, ?_⟩
            · omega
            · rfl
            · go_num
            · simp [intOf]; omega
          · have h2 : num < last := by omega
            clear hl
            go_wp2_with (fail)
            refine (soS_zxid HS7.out).mono ?_
            rintro e w8 ⟨rfl, rfl⟩
            rw [HORD.out.zx]
            go_wp2_with (fail)
            go_light
            refine ⟨⟨j + 1, last, z, _, ?_, ?_, ?_, HS7.out, HORD.out⟩, ?_⟩
            · omega
            · rfl
            · go_num
            · simp [intOf]; omega
        · have t1 : ¬ num < 1 := by omega
          have t2 : ¬ num < last := by omega
          by_cases he2 : num = last
          · obtain ⟨he, hord⟩ := hsame hl he2
            have HORD := Lib.hid hord
            clear hlow hsame hnext hord hl
            subst he2
            have HOA := Lib.hid ho1
            obtain ⟨rsl, hrsl, hxe⟩ := hu1
            obtain ⟨ua, uc, rfl⟩ := hrsl.slice
            have HU0 : Hid (RpAt w6 0 (.slice ua rsl.length uc) X.2) := ⟨rsl, hrsl, hxe⟩
            clear hrsl hxe
            generalize rsl.length = un at *
            unfold rplA
            obtain ⟨w7, hWD⟩ : ∃ W, (w6).alloc (.cells #[.int .i64 (X.2).num, .int .i64 (X.2).zxid, .int .i64 (X.2).err, .int .i64 (X.2).at_, .slice ua un uc] rplT) = W := ⟨_, rfl⟩
            have hxD : Ext w6 w7 := by rw [← hWD]; exact (Kp.refl _ _).alloc _
            have BA : Hid (Blk w7 (w6).heap.size #[.int .i64 (X.2).num, .int .i64 (X.2).zxid, .int .i64 (X.2).err, .int .i64 (X.2).at_, .slice ua un uc] rplT) := by
              show Blk _ _ _ _
              rw [← hWD]; exact heap_alloc_new w6 _
            have HUA := Lib.hid (HU0.out.ext hxD)
            have HS7 := Lib.hid ((hs1).ext hxD)
            have HXD := Lib.hid hxD
            have HWD := Lib.hid hWD
            clear ho1 hs1 HU0 hxD hWD
            have hba := BA.out
            rw [he] at hba
            have a0 := hba.cell 0 _ rfl
            have a1 := hba.cell 1 _ rfl
            have a2 := hba.cell 2 _ rfl
            have a3 := hba.cell 3 _ rfl
            have a4 := hba.cell 4 _ rfl
            have c1 := (HX1.out.trans HS7.out.ex).cell C0.out (fun f => f)
            clear hba he t2
            go_upto_region 16 with (fail)
            rw [HWD.out]
            go_wp2_with (fail)
            refine (soS_zxid HS7.out).mono ?_
            rintro e w8 ⟨rfl, rfl⟩
            rw [HORD.out.zx]
            go_wp2_with (fail)
            go_light
            refine ⟨⟨j + 1, num, z, _, ?_, ?_, ?_, HS7.out, HORD.out⟩, ?_⟩
            · omega
            · rfl
            · go_num
            · simp [intOf]; omega
          · obtain ⟨he, hz, hord⟩ := hnext hl he2
            have HORD := Lib.hid hord
            have t3 : (num == last) = false := beq_eq_false_iff_ne.2 he2
            clear hlow hsame hnext hord hl he2
            have HOA := Lib.hid ho1
            obtain ⟨rsl, hrsl, hxe⟩ := hu1
            obtain ⟨ua, uc, rfl⟩ := hrsl.slice
            have HU0 : Hid (RpAt w6 0 (.slice ua rsl.length uc) X.2) := ⟨rsl, hrsl, hxe⟩
            clear hrsl hxe
            generalize rsl.length = un at *
            unfold rplA
            obtain ⟨w7, hWD⟩ : ∃ W, (w6).alloc (.cells #[.int .i64 (X.2).num, .int .i64 (X.2).zxid, .int .i64 (X.2).err, .int .i64 (X.2).at_, .slice ua un uc] rplT) = W := ⟨_, rfl⟩
            have hxD : Ext w6 w7 := by rw [← hWD]; exact (Kp.refl _ _).alloc _
            have BA : Hid (Blk w7 (w6).heap.size #[.int .i64 (X.2).num, .int .i64 (X.2).zxid, .int .i64 (X.2).err, .int .i64 (X.2).at_, .slice ua un uc] rplT) := by
              show Blk _ _ _ _
              rw [← hWD]; exact heap_alloc_new w6 _
            have HUA := Lib.hid (HU0.out.ext hxD)
            have HS7 := Lib.hid ((hs1).ext hxD)
            have HXD := Lib.hid hxD
            have HWD := Lib.hid hWD
            clear ho1 hs1 HU0 hxD hWD
            have hba := BA.out
            rw [he, hz] at hba
            have a0 := hba.cell 0 _ rfl
            have a1 := hba.cell 1 _ rfl
            have a2 := hba.cell 2 _ rfl
            have a3 := hba.cell 3 _ rfl
            have a4 := hba.cell 4 _ rfl
            have c1 := (HX1.out.trans HS7.out.ex).cell C0.out (fun f => f)
            clear hba he hz
            go_upto_region 16 with (fail)
            rw [HWD.out]
            go_wp2_with (fail)
            refine (soS_zxid HS7.out).mono ?_
            rintro e w8 ⟨rfl, rfl⟩
            rw [HORD.out.zx]
            go_wp2_with (fail)
            go_light
            refine ⟨⟨j + 1, num, (z + 1), _, ?_, ?_, ?_, HS7.out, HORD.out⟩, ?_⟩
            · omega
            · rfl
            · go_num
            · simp [intOf]; omega
      · go_wp2_with (fail)
        go_ret
        exact ⟨rfl, HX1.out.trans HS.out.ex⟩
  · have h30' : (30 : Int) < (xs.length : Int) := by omega
    go_enter Tryz.func4, Tryz.ntmps4
    go_wp2_with (fail)
    refine HAW.out.mono ?_
    rintro e w1 ⟨rfl, hx1⟩
    have HX1 := Lib.hid hx1
    clear hx1
    go_wp2_with (fail)
    go_ret
    exact ⟨rfl, HX1.out⟩
end Go.Proofs.YtnlefnhdhigecaaGreatDoor

/- From the rows' arguments to the walks: SoloOrder. -/
namespace Go.Proofs.YtnlefnhdhigecaaGreatDoor
set_option maxRecDepth 100000
open Go.ChangeShapes Go.WideShapes Go.ChangeAt Go.RowKit Av

theorem soloOrder_con {H : Type} {enc : TypeId × Value → H} (W : World) (base : Nat) (args : Array Value) (ds : List (DataW H)) (p : List MemPlace)
    (hval : ∀ (j : Nat) t v, Tryz.f4.params[j]? = some t → args[j]? = some v → Value.okWide Tryz.prog W .any base t v)
    (hA : DataW.TrodAll enc Tryz.prog W 0 (fun _ => true) true Tryz.f4.params.toList args.toList ds p)
    (hsh : W.ShapedOpen Tryz.prog) (hl : laidMet Tryz.prog Rows.soloOrderRow.laid W) : Calls Tryz.prog 4 args W fun e W' => e = .returned (.bool true) ∧ Ext W W' := by
  rw [Tryz.params4] at hA hval
  obtain ⟨v0, d0, rfl, rfl, h0⟩ := trodAll_one hA
  obtain ⟨xs, a1, _⟩ := arg_nums (hval 0 _ v0 rfl rfl) h0
  exact soloOrder_any v0 xs W (gt_of hsh hl (by kernel_rfl)) a1
end Go.Proofs.YtnlefnhdhigecaaGreatDoor

/- Plain laws of a solo: events. No program. -/
namespace Go.Proofs.YtnlefnhdhigecaaGreatDoor
set_option maxRecDepth 100000
open Go.RowKit Av

/-! The list in its order, reckoned by insertion. -/
theorem foldl_ins : ∀ (l m : List Wt), RisW m → l.Nodup → (∀ x ∈ l, x ∉ m) → RisW (l.foldl insW m) ∧ ∀ x, x ∈ l.foldl insW m ↔ x ∈ m ∨ x ∈ l
  | [], m, h, _, _ => ⟨h, fun x => by simp⟩
  | s :: l, m, h, hn, hd => by
    obtain ⟨hs, hn'⟩ := List.nodup_cons.1 hn
    have h1 := insW_ris h (hd s (by simp))
    obtain ⟨h3, h4⟩ := foldl_ins l (insW m s) h1 hn' (fun x hx => by
      rw [insW_mem]
      rintro (h | h)
      · exact hd x (by simp [hx]) h
      · subst h; exact hs hx)
    refine ⟨h3, fun x => ?_⟩
    rw [List.foldl_cons, h4 x, insW_mem]
    simp only [List.mem_cons]
    constructor
    · rintro ((a | a) | a)
      · exact .inl a
      · exact .inr (.inl a)
      · exact .inr (.inr a)
    · rintro (a | a | a)
      · exact .inl (.inl a)
      · exact .inl (.inr a)
      · exact .inr a
theorem sortW_ins {l : List Wt} (h : l.Nodup) : sortW l = l.foldl insW [] := by
  obtain ⟨h1, h2⟩ := foldl_ins l [] List.Pairwise.nil h (by simp)
  exact risW_ext (sortW_ris h) h1 fun x => by rw [sortW_mem, h2]; simp
theorem sortW_nil : sortW [] = [] := by rw [sortW_ins (by decide)]; rfl
theorem fire_nil (p : ByteArray) (ch : Int) : fireT p ch [] = [] ∧ fireG p ch [] = [] := by
  unfold fireT fireG
  rw [sortW_nil]
  split <;> exact ⟨rfl, rfl⟩
def sW : ByteArray := ⟨#[47, 119]⟩
def xW : Wt := ⟨2, sW, 1⟩
theorem fire_one : fireT sW 3 [xW] = [⟨2, sW, 3⟩] ∧ fireG sW 3 [xW] = [] := by
  unfold fireT fireG
  rw [sortW_ins (by decide +kernel)]
  decide +kernel
/-- One op that goes well. -/
theorem request_one {room : Int} {L : RL} {sess num z : Int} {o : OpV} (h : mayR sess num [o] = 0) (he : (doL room L o sess z).2.err = 0) : requestL room L sess num z [o] = ((doL room L o sess z).1, ⟨num, z, 0, -1, [(doL room L o sess z).2]⟩) := by
  have h1 : runL room sess z L [o] = ((doL room L o sess z).1, [(doL room L o sess z).2], 0) := by unfold runL; rw [if_neg (by rw [he]; simp)]; rfl
  have h2 : multiL room L sess z [o] = ((doL room L o sess z).1, ⟨0, z, 0, -1, [(doL room L o sess z).2]⟩, true) := by
    unfold multiL
    rw [if_neg (by simp), if_neg (by simp), h1, if_neg (by simp)]
  unfold requestL
  rw [if_neg (by rw [h]; simp), h2]
theorem done_one {s : SoV} {sess num : Int} {o : OpV} (h : mayR sess num [o] = 0) (he : (doL s.room s.tr o sess (s.zx + 1)).2.err = 0) :
    doneS s sess num [o] = ({ chStep { s with zx := s.zx + 1, tr := (doL s.room s.tr o sess (s.zx + 1)).1 } (o, (doL s.room s.tr o sess (s.zx + 1)).2) with last := mset (chStep { s with zx := s.zx + 1, tr := (doL s.room s.tr o sess (s.zx + 1)).1 } (o, (doL s.room s.tr o sess (s.zx + 1)).2)).last sess ⟨num, s.zx + 1, 0, -1, [(doL s.room s.tr o sess (s.zx + 1)).2]⟩ }, ⟨num, s.zx + 1, 0, -1, [(doL s.room s.tr o sess (s.zx + 1)).2]⟩) := by
  unfold doneS
  simp only
  rw [request_one h he]
  rfl
def oCw : OpV := ⟨1, sW, ⟨#[]⟩, 0, 0⟩
def oSw : OpV := ⟨3, sW, ⟨#[]⟩, -1, 0⟩
theorem oCw_good : goodO oCw = 0 := by decide +kernel
theorem oSw_good : goodO oSw = 0 := by decide +kernel
/-- The tree holds the one node. -/
def OneW (L : RL) : Prop := ∃ n, L = [(sW, n)]
theorem oCw_do : OneW (doL 10 [] oCw 1 1).1 ∧ (doL 10 [] oCw 1 1).2.err = 0 ∧ (doL 10 [] oCw 1 1).2.path = sW := by
  have h : (doL 10 [] oCw 1 1).1.map (·.1) = [sW] ∧ (doL 10 [] oCw 1 1).2.err = 0 ∧ (doL 10 [] oCw 1 1).2.path = sW := by decide +kernel
  refine ⟨?_, h.2⟩
  generalize (doL 10 [] oCw 1 1).1 = L at h
  match L, h.1 with
  | [(p, n)], e => simp only [List.map_cons, List.map_nil, List.cons.injEq, and_true] at e; exact ⟨n, by rw [e]⟩
theorem oSw_do {L : RL} (h : OneW L) (z : Int) (hz : 0 ≤ z) : OneW (doL 10 L oSw 1 z).1 ∧ (doL 10 L oSw 1 z).2.err = 0 ∧ (doL 10 L oSw 1 z).2.path = sW := by
  obtain ⟨n, rfl⟩ := h
  have h1 : mget [(sW, n)] oSw.path = some n := if_pos rfl
  have h2 : wrongB oSw n = false := rfl
  have h3 : atR [(sW, n)] oSw.path = 0 := by
    have e : keysR [(sW, n)] = [sW.data.toList] := rfl
    unfold atR
    rw [e]
    decide +kernel
  unfold doL
  rw [if_neg (by rw [oSw_good]; simp), if_neg (by omega), if_neg (by decide), if_pos (by decide)]
  unfold changeL
  rw [h1]
  simp only [h2, h3]
  rw [if_neg (by decide), if_neg (by decide), if_pos (by decide)]
  exact ⟨⟨_, rfl⟩, rfl, rfl⟩
/-- The state between two of SoloEvents' requests; is b's watch armed? -/
structure EvS (last : Int) (armed : Bool) (s : SoV) : Prop where
  room : s.room = 10
  tr : OneW s.tr
  l1 : liveS s.ss 1 = true
  l2 : liveS s.ss 2 = true
  zx : 0 ≤ s.zx
  last : ∃ r, mget s.last 1 = some r ∧ r.num = last
  wl : s.wl = if armed then [xW] else []
  ev : ∀ q, s.ev q = []
theorem may1 {o : OpV} (h : goodO o = 0) {num : Int} (hn : 1 ≤ num) : mayR 1 num [o] = 0 := by rw [good_one h, if_neg (by omega)]
theorem ev_start : EvS 1 false (askS (openO (openO (soZ 10) 100).1 100).1 1 1 [oCw]).1 := by
  rw [askS_first (may1 oCw_good (by decide)) (by decide) rfl]
  have hd := oCw_do
  rw [done_one (may1 oCw_good (by decide)) hd.2.1]
  refine ⟨rfl, hd.1, by decide, by decide, by decide, ⟨⟨1, 1, 0, -1, [(doL 10 [] oCw 1 1).2]⟩, ?_, rfl⟩, ?_, ?_⟩
  · show mget (mset [] 1 _) 1 = _
    rw [mget_mset, if_pos rfl]; rfl
  · show fireG (doL 10 [] oCw 1 1).2.path 1 [] = []
    exact (fire_nil _ _).2
  · intro q
    show (fireT (doL 10 [] oCw 1 1).2.path 1 []).foldl (addEv (touchS (openO (openO (soZ 10) 100).1 100).1.ss 1).1) (fun _ => []) q = []
    rw [(fire_nil _ _).1]; rfl
theorem EvS.watch {last : Int} {a : Bool} {s : SoV} (h : EvS last a s) : EvS last true (watchO s xW).1 ∧ (a = false → (watchO s xW).2 = 0) := by
  have e : watchO s xW = ({ s with wl := armG 1000 s.wl xW }, armE 1000 s.wl xW) := by unfold watchO; rw [if_neg (by rw [show xW.sess = 2 from rfl, h.l2]; decide)]
  rw [e]
  refine ⟨⟨h.room, h.tr, h.l1, h.l2, h.zx, h.last, ?_, h.ev⟩, fun ha => ?_⟩
  · show armG 1000 s.wl xW = [xW]
    rw [h.wl]
    cases a <;> decide +kernel
  · show armE 1000 s.wl xW = 0
    rw [h.wl, ha]
    decide +kernel
/-- A Set: b hears of it, if it watches. -/
theorem EvS.set {last : Int} {a : Bool} {s : SoV} (h : EvS last a s) {num : Int} (hn : 1 ≤ num) (hl : last < num) :
    EvS num false (eventsO (askS s 1 num [oSw]).1 2).1 ∧ ((askS s 1 num [oSw]).1.ev 2).length = if a then 1 else 0 := by
  obtain ⟨r, hr, hrn⟩ := h.last
  have hz := h.zx
  have hd := oSw_do h.tr (s.zx + 1) (by omega)
  rw [askS_next (may1 oSw_good hn) h.l1 hr (by omega)]
  have hd2 : (doL s.room s.tr oSw 1 (s.zx + 1)).2.err = 0 := by rw [h.room]; exact hd.2.1
  rw [done_one (s := { s with ss := (touchS s.ss 1).1 }) (may1 oSw_good hn) hd2]
  have hev : ∀ (q : Int) (wl : List Wt), wl = s.wl → ((fireT (doL s.room s.tr oSw 1 (s.zx + 1)).2.path 3 wl).foldl (addEv (touchS s.ss 1).1) s.ev) q = if a = true ∧ q = 2 then [⟨2, sW, 3⟩] else [] := by
    rintro q _ rfl
    rw [h.room, hd.2.2, h.wl]
    cases a with
    | false => rw [show (if false = true then [xW] else []) = ([] : List Wt) from rfl, (fire_nil _ _).1]; simpa using h.ev q
    | true =>
      rw [show (if true = true then [xW] else []) = ([xW] : List Wt) from rfl, fire_one.1]
      show addEv _ _ _ q = _
      unfold addEv
      rw [if_pos (by rw [live_touch]; exact h.l2)]
      show (if q = 2 then s.ev q ++ [_] else s.ev q) = _
      rw [h.ev q]
      by_cases e : q = 2 <;> simp [e]
  have hwl : fireG (doL s.room s.tr oSw 1 (s.zx + 1)).2.path 3 s.wl = [] := by
    rw [h.room, hd.2.2, h.wl]
    cases a with
    | false => exact (fire_nil _ _).2
    | true => exact fire_one.2
  refine ⟨⟨h.room, ?_, ?_, ?_, ?_, ⟨⟨num, s.zx + 1, 0, -1, [(doL s.room s.tr oSw 1 (s.zx + 1)).2]⟩, ?_, rfl⟩, ?_, ?_⟩, ?_⟩
  · show OneW (doL s.room s.tr oSw 1 (s.zx + 1)).1
    rw [h.room]; exact hd.1
  · show liveS (touchS s.ss 1).1 1 = true
    rw [live_touch]; exact h.l1
  · show liveS (touchS s.ss 1).1 2 = true
    rw [live_touch]; exact h.l2
  · show 0 ≤ s.zx + 1
    omega
  · show mget (mset s.last 1 _) 1 = _
    rw [mget_mset, if_pos rfl]
  · exact hwl
  · intro q
    show (if q = 2 then [] else ((fireT (doL s.room s.tr oSw 1 (s.zx + 1)).2.path 3 s.wl).foldl (addEv (touchS s.ss 1).1) s.ev) q) = []
    rw [hev q _ rfl]
    by_cases e : q = 2 <;> simp [e]
  · show (((fireT (doL s.room s.tr oSw 1 (s.zx + 1)).2.path 3 s.wl).foldl (addEv (touchS s.ss 1).1) s.ev) 2).length = _
    rw [hev 2 _ rfl]
    cases a <;> rfl
end Go.Proofs.YtnlefnhdhigecaaGreatDoor
