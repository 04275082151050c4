/- Texts put together: AvTreeW, AvOwners, AvRefS. -/
import Derived.Test.YtdagikbdpeblhaaGreatDoorAvG39
import Derived.Test.YtdagikbdpeblhaaGreatDoorAvHWTreeM
import Derived.Test.YtdagikbdpeblhaaGreatDoorAvG27
import Derived.Test.YtdagikbdpeblhaaGreatDoorAvG38

/- Two trees that a law has made, side by side: Copy, Load. -/
namespace Go.Proofs.YtdagikbdpeblhaaGreatDoor
set_option maxRecDepth 100000
open Go.RowKit Av

/-- No block is both trees'. -/
def Apart (b m : Nat) (t : Tr) (b' m' : Nat) (c : Tr) : Prop := ∀ i, TOwn b m t i → TOwn b' m' c i → False
theorem Apart.symm {b m b' m' : Nat} {t c : Tr} (h : Apart b m t b' m' c) : Apart b' m' c b m t := fun i h1 h2 => h i h2 h1
theorem TreeR.ownLt {w : World} {base b m : Nat} {room : Int} {t : Tr} (h : TreeR w base b m room t) {i : Nat} (hi : TOwn b m t i) : base ≤ i ∧ i < w.heap.size := by
  rcases hi with rfl | rfl | ⟨e, he, rfl⟩
  · exact ⟨h.low.1, h.blk.lt⟩
  · exact ⟨h.low.2.1, h.map.lt⟩
  · exact ⟨h.low.2.2 e he, (h.nod e he).lt⟩
theorem Apart.step {w : World} {base' b m b' m' : Nat} {room' : Int} {t t2 c : Tr} (h : Apart b m t b' m' c) (hc : TreeR w base' b' m' room' c) (hf : Fresh w t t2) : Apart b m t2 b' m' c := fun i h1 h2 => by
  rcases h1 with rfl | rfl | ⟨e, he, rfl⟩
  · exact h _ (.inl rfl) h2
  · exact h _ (.inr (.inl rfl)) h2
  · rcases hf e he with ⟨e0, he0, h3⟩ | h3
    · rw [h3] at h2
      exact h _ (.inr (.inr ⟨e0, he0, rfl⟩)) h2
    · have := (hc.ownLt h2).2
      omega
theorem Apart.new {w w' : World} {base base' b m b' m' : Nat} {room room' : Int} {t c : Tr} (ht : TreeR w base b m room t) (hc : TreeR w' base' b' m' room' c) (hb : w.heap.size ≤ base') : Apart b m t b' m' c := fun i h1 h2 => by
  have := (ht.ownLt h1).2
  have := (hc.ownLt h2).1
  omega
theorem TS.other {w0 w w' : World} {b m b' m' : Nat} {room room' : Int} {K K' : Nat} {t c : Tr} (hA : Apart b m t b' m' c) (ht : TS w0 w b m room K t) (hc : TS w0 w b' m' room' K' c) (k : Kp (nodeFr m t) w w') : TS w0 w' b' m' room' K' c :=
  ⟨hc.tr.apart k (fun i hi hs => hA i (.inr hs) hi) (fun i hs _ cur f => ht.tr.noT (T := strT) (by decide) i hs cur f), hc.pk, ht.step k⟩
/-- A reference's tree stands where a tree is written. -/
theorem RefT.under {w w' : World} {base g b m base' : Nat} {room room' : Int} {L : RL} {t : Tr} (h : RefT w base g room L) (ht : TreeR w base' b m room' t) (k : Kp (nodeFr m t) w w') : RefT w' base g room L :=
  h.kp k (ht.noT (by decide)) (ht.noT (by decide)) (ht.noT (by decide))
theorem PtK.same {K : Nat} {t u : Pt} (h : PtK K t) (hu : (u.map (·.1)).Nodup) (e : ∀ p, mget u p = mget t p) : PtK K u := ⟨hu, fun x hx => by
  have h1 := mget_of_mem hu (k := x.1) hx
  rw [e] at h1
  exact h.2 _ (mget_mem h1)⟩
theorem PtK.load {K : Nat} {t : Pt} (h : PtK K t) {n : NodeV} (hn : NodeK K n) (r : Bool) (room : Int) (p : ByteArray) : PtK K (loadP r room t p n).1 := by
  unfold loadP
  split
  · exact h
  · split
    · exact h
    · split
      · exact h
      · exact h.set p ⟨hn.rise, hn.few, hn.ver, hn.kids, hn.next⟩
theorem tsLoad {w0 w : World} {b m : Nat} {room : Int} {K : Nat} {t : Tr} (h : TS w0 w b m room K t) (hG : GT w0) (hK : K ≤ 100000) (p : ByteArray) (n : NodeV) (nv : Value) (r : Bool) (hp : p.size ≤ 1000000) (hn : NmS w nv n.names) (hk : NodeK K n) (hsz : ∀ s ∈ n.names, s.length ≤ 1000000) (hr : r = true ↔ (goodL p.data.toList = true ∧ Named n.names)) :
    Calls Tryz.prog 13 #[.pointer (some ⟨b, 0, none⟩), .string p, .agg (ndA n nv)] w fun e w' => ∃ t', e = .returned (.int .i64 (loadP r room (pl t) p n).2) ∧ TS w0 w' b m room K t' ∧ pl t' = (loadP r room (pl t) p n).1 ∧ Kp (nodeFr m t) w w' ∧ Fresh w t t' := by
  refine (treeLoad_any w0.heap.size b m room t p n nv r w h.tr (hG.ext h.ex).gl hp hn (Nat.le_trans hk.few hK) hsz hr).mono ?_
  rintro e w' ⟨t', rfl, h1, h2, h3, h4⟩
  exact ⟨t', rfl, ⟨h1, by rw [h2]; exact h.pk.load hk r room p, h.step h3⟩, h2, h3, h4⟩
end Go.Proofs.YtdagikbdpeblhaaGreatDoor

/- Whose nodes a tree's are: Of, counted. -/
namespace Go.Proofs.YtdagikbdpeblhaaGreatDoor
set_option maxRecDepth 100000
open Go.RowKit Av

/-- Of a list of paths those whose nodes are a session's. -/
def ofS (P : Pt) (L : List Bs) (s : Int) : List Bs := L.filter fun x => decide (0 < s) && (ownI P x == s)
theorem ownB_pl (t : Tr) (s : Int) (x : Bs) : ownB t s x = (decide (0 < s) && (ownI (pl t) x == s)) := by
  unfold ownB ownI
  rw [pl_get]
  cases mget t ⟨x.toArray⟩ with
  | none =>
    by_cases h : 0 < s
    · have h2 : ¬ (0 : Int) = s := by omega
      simp [h2]
    · simp [h]
  | some e => rfl
end Go.Proofs.YtdagikbdpeblhaaGreatDoor

/- A tree with nodes laid in, beside the reference's: what both keep. -/
namespace Go.Proofs.YtdagikbdpeblhaaGreatDoor
set_option maxRecDepth 100000
open Go.RowKit Av

/-- Paths are paths, no more of them than there is room. -/
structure GoodK (room : Int) (P : Pt) : Prop where
  good : ∀ p n, mget P p = some n → goodL p.data.toList = true
  size : (P.length : Int) ≤ room
theorem GoodK.nil {room : Int} (h : 0 ≤ room) : GoodK room [] := ⟨fun p n e => (by cases e), by simpa using h⟩
theorem GoodK.set {room : Int} {P : Pt} (h : GoodK room P) {p : ByteArray} (n : NodeV) (hp : goodL p.data.toList = true) (hl : mget P p = none → (P.length : Int) < room) : GoodK room (mset P p n) := by
  refine ⟨fun q m hm => ?_, ?_⟩
  · rw [mget_mset] at hm
    split at hm
    · rename_i e; rw [e]; exact hp
    · exact h.good q m hm
  · rw [mset_length]
    split
    · exact h.size
    · rename_i hn
      have := hl (by simpa using hn)
      omega
theorem GoodK.del {room : Int} {P : Pt} (h : GoodK room P) (p : ByteArray) : GoodK room (mdel P p) := by
  refine ⟨fun q m hm => ?_, ?_⟩
  · rw [mget_mdel] at hm
    split at hm
    · cases hm
    · exact h.good q m hm
  · have h1 : (mdel P p).length ≤ P.length := List.length_filter_le _ _
    have := h.size
    omega
theorem GoodK.tell {room : Int} {P : Pt} (h : GoodK room P) (f : NodeV → Bs → NodeV) (p : ByteArray) : GoodK room (tellP f P p) := by
  unfold tellP
  split
  · exact h
  · split
    · exact h
    · rename_i n hn
      exact h.set _ (h.good _ _ hn) (fun e => by rw [hn] at e; cases e)
theorem place_goodK {room : Int} {P : Pt} {p q : ByteArray} {f : Int} (hg : goodL p.data.toList = true) (h : placeP room P p f = (q, 0)) : goodL q.data.toList = true := by
  have hf : ∀ {a : ByteArray}, goodL a.data.toList = true → finQ room P a = (q, 0) → goodL q.data.toList = true := fun {a} ha h => by
    unfold finQ at h
    split at h
    · simp at h
    · split at h
      · simp at h
      · simp only [Prod.mk.injEq, and_true] at h
        rw [← h]; exact ha
  unfold placeP at h
  split at h
  · exact hf hg h
  · split at h
    · simp at h
    · split at h
      · simp at h
      · split at h
        · split at h
          · simp at h
          · rename_i s hs
            exact hf (a := ⟨s.toArray⟩) (number_some hs).2.2.2.2 h
        · exact hf hg h
theorem GoodK.doP {room : Int} {P : Pt} (h : GoodK room P) (o : OpV) (sess z : Int) (only : Bool) : GoodK room (doP room P o sess z only).1 := by
  unfold Proofs.YtdagikbdpeblhaaGreatDoor.doP
  split
  · exact h
  · rename_i hg
    have hg0 : goodO o = 0 := by simpa using hg
    split
    · exact h
    · split
      · unfold createP
        simp only
        split
        · exact h
        · rename_i hq
          split
          · exact h
          · have hq0 : placeP room P o.path o.flags = ((placeP room P o.path o.flags).1, 0) := Prod.ext rfl (Classical.not_not.1 hq)
            have h1 := place_okP hq0
            exact (h.set _ (place_goodK (goodO_path hg0) hq0) (fun _ => h1.2)).tell _ _
      · split
        · unfold changeP
          split
          · exact h
          · rename_i n hn
            split
            · exact h
            · split
              · split
                · exact h
                · show GoodK room (if _ then _ else _)
                  split
                  · exact h
                  · exact (h.del _).tell _ _
              · split
                · show GoodK room (if _ then _ else _)
                  split
                  · exact h
                  · exact h.set _ (h.good _ _ hn) (fun e => by rw [hn] at e; cases e)
                · exact h
        · exact h
theorem GoodK.load {room : Int} {P : Pt} (h : GoodK room P) {r : Bool} {p : ByteArray} {n : NodeV} (hr : r = true → goodL p.data.toList = true) : GoodK room (loadP r room P p n).1 := by
  unfold loadP
  split
  · exact h
  · rename_i h1
    split
    · exact h
    · split
      · exact h
      · exact h.set _ (hr (by simpa using h1)) (fun _ => by omega)
theorem tsPathsK {w0 w : World} {b m : Nat} {room : Int} {K : Nat} {t : Tr} (h : TS w0 w b m room K t) (hs : GoodK room (pl t)) (hr : room ≤ 100000) :
    Calls Tryz.prog 63 #[.pointer (some ⟨b, 0, none⟩)] w fun e w' => PathsPost w (pathsP (pl t)) e w' := by
  refine treePaths_any w0.heap.size b m room t w h.tr (fun e he => ?_) ?_
  · have h1 : mget (pl t) e.1 = some e.2.2 := by
      rw [pl_get, mget_of_mem h.tr.keys (k := e.1) he]; rfl
    have := path_small e.1 (hs.good _ _ h1)
    unfold maxLen
    omega
  · have := hs.size
    rw [pl_len] at this
    omega
theorem tsOfK {w0 w : World} {b m : Nat} {room : Int} {K : Nat} {t : Tr} (h : TS w0 w b m room K t) (hs : GoodK room (pl t)) (hr : room ≤ 100000) (s : Int) :
    Calls Tryz.prog 20 #[.pointer (some ⟨b, 0, none⟩), .int .i64 s] w fun e w' => PathsPost w (ofS (pl t) (pathsP (pl t)) s) e w' := by
  have e : ofS (pl t) (pathsP (pl t)) s = (pathsP (pl t)).filter (ownB t s) := by
    unfold ofS
    congr 1
    funext x
    rw [ownB_pl]
  rw [e]
  refine treeOf_any w0.heap.size b m room t s w h.tr (fun e he => ?_) ?_
  · have h1 : mget (pl t) e.1 = some e.2.2 := by
      rw [pl_get, mget_of_mem h.tr.keys (k := e.1) he]; rfl
    have := path_small e.1 (hs.good _ _ h1)
    unfold maxLen
    omega
  · have := hs.size
    rw [pl_len] at this
    omega
set_option maxHeartbeats 6400000 in
theorem treeOwnK_any {w0 w : World} {b m : Nat} {room : Int} {K : Nat} {t : Tr} (h : TS w0 w b m room K t) (hs : GoodK room (pl t)) (hr : room ≤ 100000) (hK : K ≤ 100000) (rm : Int) :
    Calls Tryz.prog 18 #[.pointer (some ⟨b, 0, none⟩), .int .i64 rm] w fun e w' => OwnPost w rm (ownL (pl t)) e w' := by
  obtain ⟨wB, hWB⟩ : ∃ wB, w.alloc (.cells #[.int .i64 rm, .slice none 0 0] rtT) = wB := ⟨_, rfl⟩
  have hxB : Ext w wB := by rw [← hWB]; exact (Kp.refl _ _).alloc _
  have hB : Blk wB w.heap.size #[.int .i64 rm, .slice none 0 0] rtT := by rw [← hWB]; exact heap_alloc_new w _
  have HP := Lib.hid (tsPathsK (h.ext hxB) hs hr)
  have HT := Lib.hid h
  have hTM : ∀ x ∈ pathsP (pl t), ∃ n, mget (pl t) ⟨x.toArray⟩ = some n := fun x hx => Option.ne_none_iff_exists'.1 (paths_mem.1 hx)
  have HM := Lib.hid hTM
  have HOWN : Hid (ownL (pl t) = (pathsP (pl t)).map (entOf (pl t))) := rfl
  have hL : (pathsP (pl t)).length ≤ 100000 := by
    have h1 := hs.size
    rw [pathsP_len]
    omega
  generalize ownL (pl t) = R at HOWN ⊢
  generalize pathsP (pl t) = L at HOWN HM HP hL
  have HB := Lib.hid hB
  have HXB := Lib.hid hxB
  have HWB := Lib.hid hWB
  clear hWB hxB hB hTM h hs
  go_enter Tryz.func18, Tryz.ntmps18
  go_upto_region 2 with (fail)
  rw [HWB.out]
  go_wp2_with (fail)
  refine HP.out.mono ?_
  rintro e wS ⟨vS, rfl, hoS, hxS⟩
  obtain ⟨aS, cS, hslS, hopS⟩ := strs_open hoS
  subst hslS
  have HGS : Hid (∀ g off, aS = some ⟨g, off, none⟩ → w.heap.size < g) := fun g off e => by
    subst e
    have h1 := (own_in hoS (i := g) rfl).1
    have h2 := HB.out.lt
    omega
  have HOP := Lib.hid hopS
  have HXS := Lib.hid (HXB.out.trans hxS)
  have HBS := Lib.hid (HB.out.kp hxS (fun f => f))
  have HSZ : Hid (w.heap.size < wS.heap.size) := HBS.out.lt
  clear hopS hoS hxS HP HB
  go_wp2_with (fail)
  go_loopw [7] (fun s7 wr => OwnRel wS rm w.heap.size (entOf (pl t)) L s7 wr) (fun s7 _ => L.length - (intOf s7).toNat)
  case atStart => exact ⟨0, .slice none 0 0, [], Nat.zero_le _, rfl, rfl, HBS.out, ⟨⟨rfl, .inl ⟨rfl, rfl⟩⟩, fun e he => by (cases he)⟩, Kp.refl _ _⟩
  case round =>
    clear HBS
    obtain ⟨i, v, E, hi, rfl, hent, hblk, hE, hk⟩ := hrel
    obtain ⟨va, vc, rfl⟩ := owns_slice hE.row
    have hxr : Ext w wr := HXS.out.next hk (fun j hj e => by omega)
    have HXR := Lib.hid hxr
    have HENT := Lib.hid hent
    have HBLK := Lib.hid hblk
    have HE := Lib.hid hE
    have HK := Lib.hid hk
    clear hxr hent hblk hE hk
    by_cases hlt : i < L.length
    · obtain ⟨gS, oS, rfl, hcl⟩ := HOP.out (by omega)
      have hgS : gS < wS.heap.size := World.block_lt_of_cell? _ _ (hcl i hlt)
      have hc0 := hcl i hlt
      have hgw := HGS.out _ _ rfl
      obtain ⟨n, hn⟩ := HM.out L[i] (List.getElem_mem hlt)
      obtain ⟨x, hx⟩ : ∃ x, L[i] = x := ⟨_, rfl⟩
      have HTAKE : Hid ((L.take (i + 1)).map (entOf (pl t)) = (L.take i).map (entOf (pl t)) ++ [entOf (pl t) x]) := by
        show _ = _
        rw [List.take_succ_eq_append_getElem hlt, List.map_append, hx]; rfl
      rw [hx] at hc0 hn
      have hEO : entOf (pl t) x = (⟨x.toArray⟩, n) := by unfold entOf nodeP; rw [hn]
      obtain ⟨p, hp⟩ : ∃ p : ByteArray, ⟨x.toArray⟩ = p := ⟨_, rfl⟩
      unfold encStr at hc0
      rw [hp] at hc0 hn hEO
      have HEO := Lib.hid hEO
      have hcr : wr.cell? ⟨gS, oS + i, none⟩ = some (.string p) := HK.out.cell hc0 (fun e => by have e2 : gS = w.heap.size := e; omega)
      have hnode : nodeP (pl t) p = (n, true) := by unfold nodeP; rw [hn]
      have HN := Lib.hid (by have := tsNode (HT.out.ext HXR.out) hK p; rw [hnode] at this; exact this)
      have hc := hcr
      clear hnode hcl hn hx hp hc0 hEO
      go_wp2_with (fail)
      refine HN.out.mono ?_
      rintro e w6 ⟨nv6, rfl, ho6, ht6, hx6⟩
      obtain ⟨a6, c6, rfl⟩ := owns_slice ho6
      obtain ⟨wC, hWC⟩ : ∃ wC, w6.alloc (.cells #[.int .i64 n.made, .int .i64 n.chg, .int .i64 n.ver, .int .i64 n.kids, .int .i64 n.own, .int .i64 n.len, .int .i64 n.cnt, .string n.data, .int .i64 n.next, .slice a6 n.names.length c6] ndT) = wC := ⟨_, rfl⟩
      have hxC : Ext w6 wC := by rw [← hWC]; exact (Kp.refl _ _).alloc _
      have hC : Blk wC w6.heap.size (ndA n (.slice a6 n.names.length c6)) ndT := by rw [← hWC]; exact heap_alloc_new w6 _
      have hrC : Ext wr wC := hx6.trans hxC
      have HBC := Lib.hid (HBLK.out.kp hrC (fun f => f))
      have HEC := Lib.hid (HE.out.ext hrC)
      have HNE : Hid (EntOk wC ⟨p, n, .slice a6 n.names.length c6⟩) := own_less (ownsRow.ext ho6 hxC) (Nat.zero_le _)
      have HCP := Lib.hid (hrC.cell hcr (fun f => f))
      have HCC := Lib.hid hC
      have HKC := Lib.hid (HK.out.ext hrC)
      have HWC := Lib.hid hWC
      have hro : ∀ q, (Value.slice va E.length vc).ownBlock = some q → wS.heap.size ≤ q ∧ q < wr.heap.size := fun q hq => own_in HE.out.row hq
      have hsz6 := hx6.size
      have hszC := hxC.size
      have hS := HSZ.out
      have hrS := HK.out.size
      have h6C := hC.lt
      have HN1 : Hid (¬ (wC.heap.size ≤ w.heap.size ∨ (Value.slice va E.length vc).ownBlock = some w.heap.size)) := fun f => by
        rcases f with f | f
        · omega
        · have := (hro _ f).1; omega
      have HN2 : Hid (¬ (wC.heap.size ≤ gS ∨ (Value.slice va E.length vc).ownBlock = some gS)) := fun f => by
        rcases f with f | f
        · omega
        · have := (hro _ f).1; omega
      have HN3 : Hid (¬ (wC.heap.size ≤ w6.heap.size ∨ (Value.slice va E.length vc).ownBlock = some w6.heap.size)) := fun f => by
        rcases f with f | f
        · omega
        · have := (hro _ f).2; omega
      have HOZ := Lib.hid (owns_zero HEC.out.row)
      have HONE := Lib.hid (ent_one ⟨p, n, .slice a6 n.names.length c6⟩ rfl)
      have HNDC := Lib.hid (fun W => nd_any n a6 n.names.length c6 W)
      have hEl : E.length ≤ 100000 := by
        have h1 := congrArg List.length HENT.out
        rw [entL_len, List.length_map, List.length_take] at h1
        omega
      clear hWC hC hxC hrC ho6 ht6 hx6 HN hro hsz6 hszC h6C hcr hc
      unfold ndA
      unfold ndA at HNDC HCC
      go_upto_region 7 with (fail)
      rw [HWC.out]
      clear HWC
      refine' wp_region_dagQ wC.heap.size entT 11 (.slice va E.length vc) E.length (E.flatMap entC) 16 [(43, [42], [])] ((30, .val _) :: (31, .val _) :: (32, .val _) :: (33, .val _) :: (34, .val _) :: (35, .val _) :: (36, .val _) :: (37, .val _) :: (38, .val _) :: (39, .val _) :: (40, .val _) :: (41, .val _) :: (42, ⟨fun _ => True, fun v w => BoxL wC.heap.size entT 1 (entC ⟨p, n, .slice a6 n.names.length c6⟩) v w⟩) :: (43, ⟨fun v => ∃ a c, v = .slice a (E.length + 1) c, fun v w => w.ownsRow 0 entT 11 v (E.length + 1) (E.flatMap entC ++ entC ⟨p, n, .slice a6 n.names.length c6⟩) ∧ ∀ i, v.ownBlock = some i → (Value.slice va E.length vc).ownBlock = some i ∨ wC.heap.size ≤ i⟩) :: (44, .val _) :: (45, .val _) :: []) (by exact ⟨fun _ _ _ _ _ => trivial, ⟨fun _ _ _ _ _ => trivial, ⟨fun _ _ _ _ _ => trivial, ⟨fun _ _ _ _ _ => trivial, ⟨fun _ _ _ _ _ => trivial, ⟨fun _ _ _ _ _ => trivial, ⟨fun _ _ _ _ _ => trivial, ⟨fun _ _ _ _ _ => trivial, ⟨fun _ _ _ _ _ => trivial, ⟨fun _ _ _ _ _ => trivial, ⟨fun _ _ _ _ _ => trivial, ⟨fun _ _ _ _ _ => trivial, ⟨fun _ _ _ hr hv => hv.ext hr, ⟨fun _ _ _ hr hv => ⟨ownsRow.ext hv.1 hr, hv.2⟩, ⟨fun _ _ _ _ _ => trivial, ⟨fun _ _ _ _ _ => trivial, trivial⟩⟩⟩⟩⟩⟩⟩⟩⟩⟩⟩⟩⟩⟩⟩⟩) (by kernel_rfl) (by kernel_rfl) (by kernel_rfl) ?_
      rotate_left 14
      simp only [List.take_succ_cons, List.take_zero]
      repeat (first
        | (refine wpD_skipv ?_ ?_ ?_
           focus rfl
           focus rfl
           simp only [Act.put, List.setIfInBounds_toArray, List.set_cons_succ, List.set_cons_zero])
        | (refine' wpD_val (c := _) ?_ (fun w => Rr.refl w) ?_ (fun wq hwq hfq => ?_) ?_
           rotate_left
           focus rfl
           focus rfl
           focus ((have b1 := (HBC.out.kp hwq.1 HN1.out).cell 1 _ rfl; have cp := hwq.1.cell HCP.out HN2.out; have hdn := HCC.out.kp hwq.1 HN3.out; have d0 := hdn.cell 0 _ rfl; have d1 := hdn.cell 1 _ rfl; have d2 := hdn.cell 2 _ rfl; have d3 := hdn.cell 3 _ rfl; have d4 := hdn.cell 4 _ rfl; have d5 := hdn.cell 5 _ rfl; have d6 := hdn.cell 6 _ rfl; have d7 := hdn.cell 7 _ rfl; have d8 := hdn.cell 8 _ rfl; have d9 := hdn.cell 9 _ rfl; clear hdn); go_simp; first | done | rfl)
           simp only [Act.put, List.setIfInBounds_toArray, List.set_cons_succ, List.set_cons_zero])
        | (refine' wpD_con (c := _) ?_ ?_ (fun wq hwq hfq => ?_) ?_
           rotate_left
           focus rfl
           focus rfl
           focus ((have b1 := (HBC.out.kp hwq.1 HN1.out).cell 1 _ rfl; have cp := hwq.1.cell HCP.out HN2.out; have hdn := HCC.out.kp hwq.1 HN3.out; have d0 := hdn.cell 0 _ rfl; have d1 := hdn.cell 1 _ rfl; have d2 := hdn.cell 2 _ rfl; have d3 := hdn.cell 3 _ rfl; have d4 := hdn.cell 4 _ rfl; have d5 := hdn.cell 5 _ rfl; have d6 := hdn.cell 6 _ rfl; have d7 := hdn.cell 7 _ rfl; have d8 := hdn.cell 8 _ rfl; have d9 := hdn.cell 9 _ rfl; clear hdn); go_simp; (try (rw [dUpon_enter])); ((with_reducible refine (HNDC.out _).mono ?_); rintro e w' ⟨rfl, hx⟩; exact DEnd.con hx))
           simp only [Act.put, List.setIfInBounds_toArray, List.set_cons_succ, List.set_cons_zero])
        | (refine wpD_made (A := fun _ => True) (V := fun v w => BoxL wC.heap.size entT 1 (entC ⟨p, n, .slice a6 n.names.length c6⟩) v w) 42 ?_ ?_ ?_ ?_ (fun wq hwq hfq => ?_) (fun v42 h42 => ?_)
           focus rfl
           focus rfl
           focus (exact ⟨undef, trivial⟩)
           focus rfl
           focus ((have b1 := (HBC.out.kp hwq.1 HN1.out).cell 1 _ rfl; have cp := hwq.1.cell HCP.out HN2.out; have hdn := HCC.out.kp hwq.1 HN3.out; have d0 := hdn.cell 0 _ rfl; have d1 := hdn.cell 1 _ rfl; have d2 := hdn.cell 2 _ rfl; have d3 := hdn.cell 3 _ rfl; have d4 := hdn.cell 4 _ rfl; have d5 := hdn.cell 5 _ rfl; have d6 := hdn.cell 6 _ rfl; have d7 := hdn.cell 7 _ rfl; have d8 := hdn.cell 8 _ rfl; have d9 := hdn.cell 9 _ rfl; clear hdn); go_simp; (try (rw [dUpon_enter])); rw [dUpon_value]; exact mPost trivial (BoxL.new hwq.1.size) ((Kp.refl _ _).alloc _))
           clear h42
           simp only [Act.put, List.setIfInBounds_toArray, List.set_cons_succ, List.set_cons_zero])
        | (refine wpD_used (A := fun v => ∃ a c, v = .slice a (E.length + 1) c) (V := fun v w => w.ownsRow 0 entT 11 v (E.length + 1) (E.flatMap entC ++ entC ⟨p, n, .slice a6 n.names.length c6⟩) ∧ ∀ i, v.ownBlock = some i → (Value.slice va E.length vc).ownBlock = some i ∨ wC.heap.size ≤ i) 43 ?_ ?_ ?_ ?_ (fun wq hwq hfq => ?_) (fun v43 h43 => ?_)
           focus rfl
           focus rfl
           focus (exact ⟨.slice none (E.length + 1) 0, _, _, rfl⟩)
           focus rfl
           focus ((have b1 := (HBC.out.kp hwq.1 HN1.out).cell 1 _ rfl; have cp := hwq.1.cell HCP.out HN2.out; have hdn := HCC.out.kp hwq.1 HN3.out; have d0 := hdn.cell 0 _ rfl; have d1 := hdn.cell 1 _ rfl; have d2 := hdn.cell 2 _ rfl; have d3 := hdn.cell 3 _ rfl; have d4 := hdn.cell 4 _ rfl; have d5 := hdn.cell 5 _ rfl; have d6 := hdn.cell 6 _ rfl; have d7 := hdn.cell 7 _ rfl; have d8 := hdn.cell 8 _ rfl; have d9 := hdn.cell 9 _ rfl; clear hdn); refine dUpon_appR (d := 43) rfl (by kernel_rfl) entsT entT 11 (by decide) ents_facts rfl _ _ rfl (.slice va E.length vc) E.length (E.flatMap entC) rfl (hwq.2 HOZ.out) v42 1 (entC ⟨p, n, .slice a6 n.names.length c6⟩) rfl wC.heap.size (hfq 42 rfl) rfl HONE.out (by omega) (fun v' w' h1 h2 h3 h4 => ⟨owns_slice h1, ⟨h1, fun i hi => ?_⟩, ⟨(Kp.refl (fun i => wC.heap.size ≤ i ∨ (Value.slice va E.length vc).ownBlock = some i) _).grown h2 (fun q hq _ => .inr hq), fun _ => h3⟩, ?_⟩); (rcases h4 with h4 | h4; (focus exact .inl (by rw [← h4]; exact hi)); (rw [h4] at hi; simp only [Option.some.injEq] at hi; right; have := hwq.1.size; omega)); repeat (first | exact PresL.nil | (with_reducible refine PresL.val ?_) | (refine PresL.out rfl ?_) | (refine PresL.keep (fun u hu => hu) ?_)))
           obtain ⟨a43, c43, rfl⟩ := h43
           simp only [Act.put, List.setIfInBounds_toArray, List.set_cons_succ, List.set_cons_zero])
        | fail)
      refine wpD_nil ?_
      intro w7 hr7 hend
      have h43 : w7.ownsRow 0 entT 11 (.slice a43 (E.length + 1) c43) (E.length + 1) (E.flatMap entC ++ entC ⟨p, n, .slice a6 n.names.length c6⟩) ∧ ∀ i, (Value.slice a43 (E.length + 1) c43).ownBlock = some i → (Value.slice va E.length vc).ownBlock = some i ∨ wC.heap.size ≤ i := hend 43 (by kernel_rfl)
      clear hend
      have hk7 : Kp (fun i => (Value.slice va E.length vc).ownBlock = some i) wC w7 := hr7.1.mono (fun i hi e => by
        rcases e with e | e
        · omega
        · exact e)
      have hb7 := HBC.out.kp hr7.1 HN1.out
      have c1 := hb7.cell 1 _ rfl
      have f1 := hb7.free 1
      have HST := Lib.hid (own_step HSZ.out HKC.out HEC.out HNE.out hk7 h43.1 h43.2 HBC.out)
      have HEL : Hid (entL (E ++ [⟨p, n, .slice a6 n.names.length c6⟩]) = (L.take (i + 1)).map (entOf (pl t))) := by
        show _ = _
        rw [HTAKE.out, HEO.out, ← HENT.out]
        simp [entL]
      clear hr7 hk7 h43 hb7 HENT HTAKE HEO HONE HOZ HEC HNE HCC HCP
      go_wp2_with (fail)
      go_light
      refine ⟨⟨i + 1, _, _, ?_, ?_, HEL.out, HST.out.1, HST.out.2.1, HST.out.2.2⟩, ?_⟩
      · omega
      · go_num
      · simp [intOf]; omega
    · as_aux_lemma =>
      have hR : (L.take i).map (entOf (pl t)) = R := by rw [HOWN.out, List.take_of_length_le (by omega)]
      have HR := Lib.hid (HENT.out.trans hR)
      clear hR
      go_wp2_with (fail)
      go_ret
      exact ⟨_, rfl, ⟨Nat.le_refl _, _, _, HR.out, HBLK.out, HE.out.less (Nat.le_of_lt HSZ.out)⟩, HXR.out⟩
end Go.Proofs.YtdagikbdpeblhaaGreatDoor
