/- Texts put together: AvWOwn2, AvTreeW, AvLoadL. -/
import Derived.Test.YtjapjpigpakejaaGreatDoorAvG34
import Derived.Test.YtjapjpigpakejaaGreatDoorAvG32
import Derived.Test.YtjapjpigpakejaaGreatDoorAvG33

/- Walks: a tree as the reference's own: own. -/
namespace Go.Proofs.YtjapjpigpakejaaGreatDoor
set_option maxRecDepth 100000
open Go.RowKit Av

abbrev entsT : TypeId := 51
theorem ents_facts : ElemOk Tryz.prog entsT entT 11 := ⟨by kernel_rfl, by kernel_rfl⟩
theorem owns_up {w : World} {base k n : Nat} {e : TypeId} {v : Value} {xs : List Value} (h : w.ownsRow 0 e k v n xs) (hb : ∀ i, v.ownBlock = some i → base ≤ i) : w.ownsRow base e k v n xs := by
  obtain ⟨h1, h2 | ⟨g, c, cur, rfl, _, hr⟩⟩ := h
  · exact ⟨h1, .inl h2⟩
  · exact ⟨h1, .inr ⟨g, c, cur, rfl, hb g rfl, hr⟩⟩
theorem ent_one (e : Ent) (hv : e.nv.oneCell' = true) : ∀ y ∈ entC e, y.oneCell' = true := by
  intro y hy
  unfold entC at hy
  simp only [List.mem_cons, List.not_mem_nil, or_false] at hy
  rcases hy with rfl | rfl | rfl | rfl | rfl | rfl | rfl | rfl | rfl | rfl | rfl
  all_goals first | rfl | exact hv
theorem flat_snoc {α : Type} (f : α → List Value) (xs : List α) (x : α) : (xs ++ [x]).flatMap f = xs.flatMap f ++ f x := by rw [List.flatMap_append, List.flatMap_singleton]
def OwnPost (w : World) (rm : Int) (R : RL) (e : Ending) (w' : World) : Prop := ∃ g, e = .returned (.pointer (some ⟨g, 0, none⟩)) ∧ RefT w' w.heap.size g rm R ∧ Ext w w'
def OwnRel (wS : World) (rm : Int) (g : Nat) (f : Bs → ByteArray × NodeV) (L : List Bs) (s7 : Value) (wr : World) : Prop :=
  ∃ (i : Nat) (v : Value) (E : List Ent), i ≤ L.length ∧ s7 = .int .i64 i ∧ entL E = (L.take i).map f ∧ Blk wr g #[.int .i64 rm, v] rtT ∧ EntsR wr wS.heap.size v E ∧ Kp (fun j => j = g) wS wr
/-- A round of own: the row has one entry more, and lies in the block again. -/
theorem own_step {w wS wC w7 : World} {rm : Int} {va : Option Addr} {vc : Nat} {E : List Ent} {ne : Ent} {a : Option Addr} {c : Nat} (hsz : w.heap.size < wS.heap.size) (hk : Kp (fun j => j = w.heap.size) wS wC) (hE : EntsR wC wS.heap.size (.slice va E.length vc) E) (hne : EntOk wC ne)
    (k7 : Kp (fun i => (Value.slice va E.length vc).ownBlock = some i) wC w7) (h : w7.ownsRow 0 entT 11 (.slice a (E.length + 1) c) (E.length + 1) (E.flatMap entC ++ entC ne)) (hi : ∀ i, (Value.slice a (E.length + 1) c).ownBlock = some i → (Value.slice va E.length vc).ownBlock = some i ∨ wC.heap.size ≤ i)
    (hb : Blk wC w.heap.size #[.int .i64 rm, .slice va E.length vc] rtT) :
    Blk (w7.setCell ⟨w.heap.size, 1, none⟩ (.slice a (E.length + 1) c)) w.heap.size #[.int .i64 rm, .slice a (E.length + 1) c] rtT ∧ EntsR (w7.setCell ⟨w.heap.size, 1, none⟩ (.slice a (E.length + 1) c)) wS.heap.size (.slice a (E.length + 1) c) (E ++ [ne]) ∧ Kp (fun j => j = w.heap.size) wS (w7.setCell ⟨w.heap.size, 1, none⟩ (.slice a (E.length + 1) c)) := by
  have hro : ∀ q, (Value.slice va E.length vc).ownBlock = some q → wS.heap.size ≤ q := fun q hq => (own_in hE.row hq).1
  have hb7 : Blk w7 w.heap.size #[.int .i64 rm, .slice va E.length vc] rtT := hb.kp k7 (fun e => by have := hro _ e; omega)
  have hset : Kp (fun i => i = w.heap.size) w7 (w7.setCell ⟨w.heap.size, 1, none⟩ (.slice a (E.length + 1) c)) := (Kp.refl _ _).set1 _ 1 _ rfl
  have hkS := hk.size
  have hno : NoT w7 (fun i => i = w.heap.size) strT := fun i e cur f hc => by
    have e2 : i = w.heap.size := e
    subst e2
    have h1 : w7.heap[w.heap.size]? = some (.cells #[.int .i64 rm, .slice va E.length vc] rtT (0, 0)) := hb7
    rw [h1] at hc
    simp only [Option.some.injEq, Obj.cells.injEq] at hc
    exact absurd hc.2.1 (by decide)
  have hnr : NoT wC (fun i => (Value.slice va E.length vc).ownBlock = some i) strT := fun i e cur f hc => by
    obtain ⟨cur2, f2, h2⟩ := own_type hE.row e
    rw [h2] at hc
    simp only [Option.some.injEq, Obj.cells.injEq] at hc
    exact absurd hc.2.1 (by decide)
  have hlow : ∀ i, (Value.slice a (E.length + 1) c).ownBlock = some i → wS.heap.size ≤ i := fun i e => by
    rcases hi i e with e2 | e2
    · exact hro i e2
    · omega
  refine ⟨hb7.set 1 _, ⟨?_, fun e he => ?_⟩, ?_⟩
  · have h1 := ownsRow.kp (owns_up h hlow) hset (fun i e e2 => by have := hlow i e; have e3 : i = w.heap.size := e2; omega)
    rw [List.length_append, List.length_singleton, flat_snoc]
    exact h1
  · have h1 : EntOk wC e := by
      rcases List.mem_append.1 he with h | h
      · exact hE.ok e h
      · rw [List.mem_singleton.1 h]; exact hne
    exact (h1.kp k7 hnr).kp hset hno
  · exact (hk.next k7 (fun i hi e => absurd (hro i e) (by omega))).next hset (fun i _ e => e)
set_option maxHeartbeats 6400000 in
theorem treeOwn_any {w0 w : World} {b m : Nat} {room : Int} {K : Nat} {t : Tr} (h : TS w0 w b m room K t) (hs : SoundP room (pl t)) (hr : room ≤ 100000) (hK : K ≤ 100000) (rm : Int) :
    Calls Tryz.prog 28 #[.pointer (some ⟨b, 0, none⟩), .int .i64 rm] w fun e w' => OwnPost w rm (ownL (pl t)) e w' := by
  obtain ⟨wB, hWB⟩ : ∃ wB, w.alloc (.cells #[.int .i64 rm, .slice none 0 0] rtT) = wB := ⟨_, rfl⟩
  have hxB : Ext w wB := by rw [← hWB]; exact (Kp.refl _ _).alloc _
  have hB : Blk wB w.heap.size #[.int .i64 rm, .slice none 0 0] rtT := by rw [← hWB]; exact heap_alloc_new w _
  have HP := Lib.hid (tsPaths (h.ext hxB) hs hr)
  have HT := Lib.hid h
  have hTM : ∀ x ∈ pathsP (pl t), ∃ n, mget (pl t) ⟨x.toArray⟩ = some n := fun x hx => Option.ne_none_iff_exists'.1 (paths_mem.1 hx)
  have HM := Lib.hid hTM
  have HOWN : Hid (ownL (pl t) = (pathsP (pl t)).map (entOf (pl t))) := rfl
  have hL : (pathsP (pl t)).length ≤ 100000 := by
    have h1 := hs.size
    rw [pathsP_len]
    omega
  generalize ownL (pl t) = R at HOWN ⊢
  generalize pathsP (pl t) = L at HOWN HM HP hL
  have HB := Lib.hid hB
  have HXB := Lib.hid hxB
  have HWB := Lib.hid hWB
  clear hWB hxB hB hTM h hs
  go_enter Tryz.func28, Tryz.ntmps28
  go_upto_region 2 with (fail)
  rw [HWB.out]
  go_wp2_with (fail)
  refine HP.out.mono ?_
  rintro e wS ⟨vS, rfl, hoS, hxS⟩
  obtain ⟨aS, cS, hslS, hopS⟩ := strs_open hoS
  subst hslS
  have HGS : Hid (∀ g off, aS = some ⟨g, off, none⟩ → w.heap.size < g) := fun g off e => by
    subst e
    have h1 := (own_in hoS (i := g) rfl).1
    have h2 := HB.out.lt
    omega
  have HOP := Lib.hid hopS
  have HXS := Lib.hid (HXB.out.trans hxS)
  have HBS := Lib.hid (HB.out.kp hxS (fun f => f))
  have HSZ : Hid (w.heap.size < wS.heap.size) := HBS.out.lt
  clear hopS hoS hxS HP HB
  go_wp2_with (fail)
  go_loopw [7] (fun s7 wr => OwnRel wS rm w.heap.size (entOf (pl t)) L s7 wr) (fun s7 _ => L.length - (intOf s7).toNat)
  case atStart => exact ⟨0, .slice none 0 0, [], Nat.zero_le _, rfl, rfl, HBS.out, ⟨⟨rfl, .inl ⟨rfl, rfl⟩⟩, fun e he => by (cases he)⟩, Kp.refl _ _⟩
  case round =>
    clear HBS
    obtain ⟨i, v, E, hi, rfl, hent, hblk, hE, hk⟩ := hrel
    obtain ⟨va, vc, rfl⟩ := owns_slice hE.row
    have hxr : Ext w wr := HXS.out.next hk (fun j hj e => by omega)
    have HXR := Lib.hid hxr
    have HENT := Lib.hid hent
    have HBLK := Lib.hid hblk
    have HE := Lib.hid hE
    have HK := Lib.hid hk
    clear hxr hent hblk hE hk
    by_cases hlt : i < L.length
    · obtain ⟨gS, oS, rfl, hcl⟩ := HOP.out (by omega)
      have hgS : gS < wS.heap.size := World.block_lt_of_cell? _ _ (hcl i hlt)
      have hc0 := hcl i hlt
      have hgw := HGS.out _ _ rfl
      obtain ⟨n, hn⟩ := HM.out L[i] (List.getElem_mem hlt)
      obtain ⟨x, hx⟩ : ∃ x, L[i] = x := ⟨_, rfl⟩
      have HTAKE : Hid ((L.take (i + 1)).map (entOf (pl t)) = (L.take i).map (entOf (pl t)) ++ [entOf (pl t) x]) := by
        show _ = _
        rw [List.take_succ_eq_append_getElem hlt, List.map_append, hx]; rfl
      rw [hx] at hc0 hn
      have hEO : entOf (pl t) x = (⟨x.toArray⟩, n) := by unfold entOf nodeP; rw [hn]
      obtain ⟨p, hp⟩ : ∃ p : ByteArray, ⟨x.toArray⟩ = p := ⟨_, rfl⟩
      unfold encStr at hc0
      rw [hp] at hc0 hn hEO
      have HEO := Lib.hid hEO
      have hcr : wr.cell? ⟨gS, oS + i, none⟩ = some (.string p) := HK.out.cell hc0 (fun e => by have e2 : gS = w.heap.size := e; omega)
      have hnode : nodeP (pl t) p = (n, true) := by unfold nodeP; rw [hn]
      have HN := Lib.hid (by have := tsNode (HT.out.ext HXR.out) hK p; rw [hnode] at this; exact this)
      have hc := hcr
      clear hnode hcl hn hx hp hc0 hEO
      go_wp2_with (fail)
      refine HN.out.mono ?_
      rintro e w6 ⟨nv6, rfl, ho6, ht6, hx6⟩
      obtain ⟨a6, c6, rfl⟩ := owns_slice ho6
      obtain ⟨wC, hWC⟩ : ∃ wC, w6.alloc (.cells #[.int .i64 n.made, .int .i64 n.chg, .int .i64 n.ver, .int .i64 n.kids, .int .i64 n.own, .int .i64 n.len, .int .i64 n.cnt, .string n.data, .int .i64 n.next, .slice a6 n.names.length c6] ndT) = wC := ⟨_, rfl⟩
      have hxC : Ext w6 wC := by rw [← hWC]; exact (Kp.refl _ _).alloc _
      have hC : Blk wC w6.heap.size (ndA n (.slice a6 n.names.length c6)) ndT := by rw [← hWC]; exact heap_alloc_new w6 _
      have hrC : Ext wr wC := hx6.trans hxC
      have HBC := Lib.hid (HBLK.out.kp hrC (fun f => f))
      have HEC := Lib.hid (HE.out.ext hrC)
      have HNE : Hid (EntOk wC ⟨p, n, .slice a6 n.names.length c6⟩) := own_less (ownsRow.ext ho6 hxC) (Nat.zero_le _)
      have HCP := Lib.hid (hrC.cell hcr (fun f => f))
      have HCC := Lib.hid hC
      have HKC := Lib.hid (HK.out.ext hrC)
      have HWC := Lib.hid hWC
      have hro : ∀ q, (Value.slice va E.length vc).ownBlock = some q → wS.heap.size ≤ q ∧ q < wr.heap.size := fun q hq => own_in HE.out.row hq
      have hsz6 := hx6.size
      have hszC := hxC.size
      have hS := HSZ.out
      have hrS := HK.out.size
      have h6C := hC.lt
      have HN1 : Hid (¬ (wC.heap.size ≤ w.heap.size ∨ (Value.slice va E.length vc).ownBlock = some w.heap.size)) := fun f => by
        rcases f with f | f
        · omega
        · have := (hro _ f).1; omega
      have HN2 : Hid (¬ (wC.heap.size ≤ gS ∨ (Value.slice va E.length vc).ownBlock = some gS)) := fun f => by
        rcases f with f | f
        · omega
        · have := (hro _ f).1; omega
      have HN3 : Hid (¬ (wC.heap.size ≤ w6.heap.size ∨ (Value.slice va E.length vc).ownBlock = some w6.heap.size)) := fun f => by
        rcases f with f | f
        · omega
        · have := (hro _ f).2; omega
      have HOZ := Lib.hid (owns_zero HEC.out.row)
      have HONE := Lib.hid (ent_one ⟨p, n, .slice a6 n.names.length c6⟩ rfl)
      have HNDC := Lib.hid (fun W => nd_any n a6 n.names.length c6 W)
      have hEl : E.length ≤ 100000 := by
        have h1 := congrArg List.length HENT.out
        rw [entL_len, List.length_map, List.length_take] at h1
        omega
      clear hWC hC hxC hrC ho6 ht6 hx6 HN hro hsz6 hszC h6C hcr hc
      unfold ndA
      unfold ndA at HNDC HCC
      go_upto_region 7 with (fail)
      rw [HWC.out]
      clear HWC
      refine' wp_region_dagQ wC.heap.size entT 11 (.slice va E.length vc) E.length (E.flatMap entC) 16 [(43, [42], [])] ((30, .val _) :: (31, .val _) :: (32, .val _) :: (33, .val _) :: (34, .val _) :: (35, .val _) :: (36, .val _) :: (37, .val _) :: (38, .val _) :: (39, .val _) :: (40, .val _) :: (41, .val _) :: (42, ⟨fun _ => True, fun v w => BoxL wC.heap.size entT 1 (entC ⟨p, n, .slice a6 n.names.length c6⟩) v w⟩) :: (43, ⟨fun v => ∃ a c, v = .slice a (E.length + 1) c, fun v w => w.ownsRow 0 entT 11 v (E.length + 1) (E.flatMap entC ++ entC ⟨p, n, .slice a6 n.names.length c6⟩) ∧ ∀ i, v.ownBlock = some i → (Value.slice va E.length vc).ownBlock = some i ∨ wC.heap.size ≤ i⟩) :: (44, .val _) :: (45, .val _) :: []) (by exact ⟨fun _ _ _ _ _ => trivial, ⟨fun _ _ _ _ _ => trivial, ⟨fun _ _ _ _ _ => trivial, ⟨fun _ _ _ _ _ => trivial, ⟨fun _ _ _ _ _ => trivial, ⟨fun _ _ _ _ _ => trivial, ⟨fun _ _ _ _ _ => trivial, ⟨fun _ _ _ _ _ => trivial, ⟨fun _ _ _ _ _ => trivial, ⟨fun _ _ _ _ _ => trivial, ⟨fun _ _ _ _ _ => trivial, ⟨fun _ _ _ _ _ => trivial, ⟨fun _ _ _ hr hv => hv.ext hr, ⟨fun _ _ _ hr hv => ⟨ownsRow.ext hv.1 hr, hv.2⟩, ⟨fun _ _ _ _ _ => trivial, ⟨fun _ _ _ _ _ => trivial, trivial⟩⟩⟩⟩⟩⟩⟩⟩⟩⟩⟩⟩⟩⟩⟩⟩) (by kernel_rfl) (by kernel_rfl) (by kernel_rfl) ?_
      rotate_left 14
      simp only [List.take_succ_cons, List.take_zero]
      repeat (first
        | (refine wpD_skipv ?_ ?_ ?_
           focus rfl
           focus rfl
           simp only [Act.put, List.setIfInBounds_toArray, List.set_cons_succ, List.set_cons_zero])
        | (refine' wpD_val (c := _) ?_ (fun w => Rr.refl w) ?_ (fun wq hwq hfq => ?_) ?_
           rotate_left
           focus rfl
           focus rfl
           focus ((have b1 := (HBC.out.kp hwq.1 HN1.out).cell 1 _ rfl; have cp := hwq.1.cell HCP.out HN2.out; have hdn := HCC.out.kp hwq.1 HN3.out; have d0 := hdn.cell 0 _ rfl; have d1 := hdn.cell 1 _ rfl; have d2 := hdn.cell 2 _ rfl; have d3 := hdn.cell 3 _ rfl; have d4 := hdn.cell 4 _ rfl; have d5 := hdn.cell 5 _ rfl; have d6 := hdn.cell 6 _ rfl; have d7 := hdn.cell 7 _ rfl; have d8 := hdn.cell 8 _ rfl; have d9 := hdn.cell 9 _ rfl; clear hdn); go_simp; first | done | rfl)
           simp only [Act.put, List.setIfInBounds_toArray, List.set_cons_succ, List.set_cons_zero])
        | (refine' wpD_con (c := _) ?_ ?_ (fun wq hwq hfq => ?_) ?_
           rotate_left
           focus rfl
           focus rfl
           focus ((have b1 := (HBC.out.kp hwq.1 HN1.out).cell 1 _ rfl; have cp := hwq.1.cell HCP.out HN2.out; have hdn := HCC.out.kp hwq.1 HN3.out; have d0 := hdn.cell 0 _ rfl; have d1 := hdn.cell 1 _ rfl; have d2 := hdn.cell 2 _ rfl; have d3 := hdn.cell 3 _ rfl; have d4 := hdn.cell 4 _ rfl; have d5 := hdn.cell 5 _ rfl; have d6 := hdn.cell 6 _ rfl; have d7 := hdn.cell 7 _ rfl; have d8 := hdn.cell 8 _ rfl; have d9 := hdn.cell 9 _ rfl; clear hdn); go_simp; (try (rw [dUpon_enter])); ((with_reducible refine (HNDC.out _).mono ?_); rintro e w' ⟨rfl, hx⟩; exact DEnd.con hx))
           simp only [Act.put, List.setIfInBounds_toArray, List.set_cons_succ, List.set_cons_zero])
        | (refine wpD_made (A := fun _ => True) (V := fun v w => BoxL wC.heap.size entT 1 (entC ⟨p, n, .slice a6 n.names.length c6⟩) v w) 42 ?_ ?_ ?_ ?_ (fun wq hwq hfq => ?_) (fun v42 h42 => ?_)
           focus rfl
           focus rfl
           focus (exact ⟨undef, trivial⟩)
           focus rfl
           focus ((have b1 := (HBC.out.kp hwq.1 HN1.out).cell 1 _ rfl; have cp := hwq.1.cell HCP.out HN2.out; have hdn := HCC.out.kp hwq.1 HN3.out; have d0 := hdn.cell 0 _ rfl; have d1 := hdn.cell 1 _ rfl; have d2 := hdn.cell 2 _ rfl; have d3 := hdn.cell 3 _ rfl; have d4 := hdn.cell 4 _ rfl; have d5 := hdn.cell 5 _ rfl; have d6 := hdn.cell 6 _ rfl; have d7 := hdn.cell 7 _ rfl; have d8 := hdn.cell 8 _ rfl; have d9 := hdn.cell 9 _ rfl; clear hdn); go_simp; (try (rw [dUpon_enter])); rw [dUpon_value]; exact mPost trivial (BoxL.new hwq.1.size) ((Kp.refl _ _).alloc _))
           clear h42
           simp only [Act.put, List.setIfInBounds_toArray, List.set_cons_succ, List.set_cons_zero])
        | (refine wpD_used (A := fun v => ∃ a c, v = .slice a (E.length + 1) c) (V := fun v w => w.ownsRow 0 entT 11 v (E.length + 1) (E.flatMap entC ++ entC ⟨p, n, .slice a6 n.names.length c6⟩) ∧ ∀ i, v.ownBlock = some i → (Value.slice va E.length vc).ownBlock = some i ∨ wC.heap.size ≤ i) 43 ?_ ?_ ?_ ?_ (fun wq hwq hfq => ?_) (fun v43 h43 => ?_)
           focus rfl
           focus rfl
           focus (exact ⟨.slice none (E.length + 1) 0, _, _, rfl⟩)
           focus rfl
           focus ((have b1 := (HBC.out.kp hwq.1 HN1.out).cell 1 _ rfl; have cp := hwq.1.cell HCP.out HN2.out; have hdn := HCC.out.kp hwq.1 HN3.out; have d0 := hdn.cell 0 _ rfl; have d1 := hdn.cell 1 _ rfl; have d2 := hdn.cell 2 _ rfl; have d3 := hdn.cell 3 _ rfl; have d4 := hdn.cell 4 _ rfl; have d5 := hdn.cell 5 _ rfl; have d6 := hdn.cell 6 _ rfl; have d7 := hdn.cell 7 _ rfl; have d8 := hdn.cell 8 _ rfl; have d9 := hdn.cell 9 _ rfl; clear hdn); refine dUpon_appR (d := 43) rfl (by kernel_rfl) entsT entT 11 (by decide) ents_facts rfl _ _ rfl (.slice va E.length vc) E.length (E.flatMap entC) rfl (hwq.2 HOZ.out) v42 1 (entC ⟨p, n, .slice a6 n.names.length c6⟩) rfl wC.heap.size (hfq 42 rfl) rfl HONE.out (by omega) (fun v' w' h1 h2 h3 h4 => ⟨owns_slice h1, ⟨h1, fun i hi => ?_⟩, ⟨(Kp.refl (fun i => wC.heap.size ≤ i ∨ (Value.slice va E.length vc).ownBlock = some i) _).grown h2 (fun q hq _ => .inr hq), fun _ => h3⟩, ?_⟩); (rcases h4 with h4 | h4; (focus exact .inl (by rw [← h4]; exact hi)); (rw [h4] at hi; simp only [Option.some.injEq] at hi; right; have := hwq.1.size; omega)); repeat (first | exact PresL.nil | (with_reducible refine PresL.val ?_) | (refine PresL.out rfl ?_) | (refine PresL.keep (fun u hu => hu) ?_)))
           obtain ⟨a43, c43, rfl⟩ := h43
           simp only [Act.put, List.setIfInBounds_toArray, List.set_cons_succ, List.set_cons_zero])
        | fail)
      refine wpD_nil ?_
      intro w7 hr7 hend
      have h43 : w7.ownsRow 0 entT 11 (.slice a43 (E.length + 1) c43) (E.length + 1) (E.flatMap entC ++ entC ⟨p, n, .slice a6 n.names.length c6⟩) ∧ ∀ i, (Value.slice a43 (E.length + 1) c43).ownBlock = some i → (Value.slice va E.length vc).ownBlock = some i ∨ wC.heap.size ≤ i := hend 43 (by kernel_rfl)
      clear hend
      have hk7 : Kp (fun i => (Value.slice va E.length vc).ownBlock = some i) wC w7 := hr7.1.mono (fun i hi e => by
        rcases e with e | e
        · omega
        · exact e)
      have hb7 := HBC.out.kp hr7.1 HN1.out
      have c1 := hb7.cell 1 _ rfl
      have f1 := hb7.free 1
      have HST := Lib.hid (own_step HSZ.out HKC.out HEC.out HNE.out hk7 h43.1 h43.2 HBC.out)
      have HEL : Hid (entL (E ++ [⟨p, n, .slice a6 n.names.length c6⟩]) = (L.take (i + 1)).map (entOf (pl t))) := by
        show _ = _
        rw [HTAKE.out, HEO.out, ← HENT.out]
        simp [entL]
      clear hr7 hk7 h43 hb7 HENT HTAKE HEO HONE HOZ HEC HNE HCC HCP
      go_wp2_with (fail)
      go_light
      refine ⟨⟨i + 1, _, _, ?_, ?_, HEL.out, HST.out.1, HST.out.2.1, HST.out.2.2⟩, ?_⟩
      · omega
      · go_num
      · simp [intOf]; omega
    · as_aux_lemma =>
      have hR : (L.take i).map (entOf (pl t)) = R := by rw [HOWN.out, List.take_of_length_le (by omega)]
      have HR := Lib.hid (HENT.out.trans hR)
      clear hR
      go_wp2_with (fail)
      go_ret
      exact ⟨_, rfl, ⟨Nat.le_refl _, _, _, HR.out, HBLK.out, HE.out.less (Nat.le_of_lt HSZ.out)⟩, HXR.out⟩
end Go.Proofs.YtjapjpigpakejaaGreatDoor

/- Two trees that a law has made, side by side: Copy, Load. -/
namespace Go.Proofs.YtjapjpigpakejaaGreatDoor
set_option maxRecDepth 100000
open Go.RowKit Av

/-- No block is both trees'. -/
def Apart (b m : Nat) (t : Tr) (b' m' : Nat) (c : Tr) : Prop := ∀ i, TOwn b m t i → TOwn b' m' c i → False
theorem Apart.symm {b m b' m' : Nat} {t c : Tr} (h : Apart b m t b' m' c) : Apart b' m' c b m t := fun i h1 h2 => h i h2 h1
theorem TreeR.ownLt {w : World} {base b m : Nat} {room : Int} {t : Tr} (h : TreeR w base b m room t) {i : Nat} (hi : TOwn b m t i) : base ≤ i ∧ i < w.heap.size := by
  rcases hi with rfl | rfl | ⟨e, he, rfl⟩
  · exact ⟨h.low.1, h.blk.lt⟩
  · exact ⟨h.low.2.1, h.map.lt⟩
  · exact ⟨h.low.2.2 e he, (h.nod e he).lt⟩
theorem Apart.step {w : World} {base' b m b' m' : Nat} {room' : Int} {t t2 c : Tr} (h : Apart b m t b' m' c) (hc : TreeR w base' b' m' room' c) (hf : Fresh w t t2) : Apart b m t2 b' m' c := fun i h1 h2 => by
  rcases h1 with rfl | rfl | ⟨e, he, rfl⟩
  · exact h _ (.inl rfl) h2
  · exact h _ (.inr (.inl rfl)) h2
  · rcases hf e he with ⟨e0, he0, h3⟩ | h3
    · rw [h3] at h2
      exact h _ (.inr (.inr ⟨e0, he0, rfl⟩)) h2
    · have := (hc.ownLt h2).2
      omega
theorem Apart.new {w w' : World} {base base' b m b' m' : Nat} {room room' : Int} {t c : Tr} (ht : TreeR w base b m room t) (hc : TreeR w' base' b' m' room' c) (hb : w.heap.size ≤ base') : Apart b m t b' m' c := fun i h1 h2 => by
  have := (ht.ownLt h1).2
  have := (hc.ownLt h2).1
  omega
theorem TS.other {w0 w w' : World} {b m b' m' : Nat} {room room' : Int} {K K' : Nat} {t c : Tr} (hA : Apart b m t b' m' c) (ht : TS w0 w b m room K t) (hc : TS w0 w b' m' room' K' c) (k : Kp (nodeFr m t) w w') : TS w0 w' b' m' room' K' c :=
  ⟨hc.tr.apart k (fun i hi hs => hA i (.inr hs) hi) (fun i hs _ cur f => ht.tr.noT (T := strT) (by decide) i hs cur f), hc.pk, ht.step k⟩
/-- A reference's tree stands where a tree is written. -/
theorem RefT.under {w w' : World} {base g b m base' : Nat} {room room' : Int} {L : RL} {t : Tr} (h : RefT w base g room L) (ht : TreeR w base' b m room' t) (k : Kp (nodeFr m t) w w') : RefT w' base g room L :=
  h.kp k (ht.noT (by decide)) (ht.noT (by decide)) (ht.noT (by decide))
theorem keys_pl (t : Tr) : (pl t).map (·.1) = t.map (·.1) := by unfold pl; rw [List.map_map]; rfl
theorem PtK.same {K : Nat} {t u : Pt} (h : PtK K t) (hu : (u.map (·.1)).Nodup) (e : ∀ p, mget u p = mget t p) : PtK K u := ⟨hu, fun x hx => by
  have h1 := mget_of_mem hu (k := x.1) hx
  rw [e] at h1
  exact h.2 _ (mget_mem h1)⟩
theorem tsCopy {w0 w : World} {b m : Nat} {room : Int} {K : Nat} {t : Tr} (h : TS w0 w b m room K t) (hK : K ≤ 100000) :
    Calls Tryz.prog 38 #[.pointer (some ⟨b, 0, none⟩)] w fun e w' => ∃ b' m' c, e = .returned (.pointer (some ⟨b', 0, none⟩)) ∧ TS w0 w' b' m' room K c ∧ (∀ p, mget (pl c) p = mget (pl t) p) ∧ Apart b m t b' m' c ∧ Ext w w' := by
  refine (treeCopy_any w0.heap.size b m room t w h.tr (h.pk.ok hK)).mono ?_
  rintro e w' ⟨b', m', c, rfl, h1, h2, h3⟩
  refine ⟨b', m', c, rfl, ⟨h1.less h.ex.size, h.pk.same ?_ h2, h.ex.ext h3⟩, h2, Apart.new h.tr h1 (Nat.le_refl _), h3⟩
  rw [keys_pl]; exact h1.keys
theorem PtK.load {K : Nat} {t : Pt} (h : PtK K t) {n : NodeV} (hn : NodeK K n) (r : Bool) (room : Int) (p : ByteArray) : PtK K (loadP r room t p n).1 := by
  unfold loadP
  split
  · exact h
  · split
    · exact h
    · split
      · exact h
      · exact h.set p ⟨hn.rise, hn.few, hn.ver, hn.kids, hn.next⟩
theorem tsLoad {w0 w : World} {b m : Nat} {room : Int} {K : Nat} {t : Tr} (h : TS w0 w b m room K t) (hG : GT w0) (hK : K ≤ 100000) (p : ByteArray) (n : NodeV) (nv : Value) (r : Bool) (hp : p.size ≤ 1000000) (hn : NmS w nv n.names) (hk : NodeK K n) (hsz : ∀ s ∈ n.names, s.length ≤ 1000000) (hr : r = true ↔ (goodL p.data.toList = true ∧ Named n.names)) :
    Calls Tryz.prog 24 #[.pointer (some ⟨b, 0, none⟩), .string p, .agg (ndA n nv)] w fun e w' => ∃ t', e = .returned (.int .i64 (loadP r room (pl t) p n).2) ∧ TS w0 w' b m room K t' ∧ pl t' = (loadP r room (pl t) p n).1 ∧ Kp (nodeFr m t) w w' ∧ Fresh w t t' := by
  refine (treeLoad_any w0.heap.size b m room t p n nv r w h.tr (hG.ext h.ex).gl hp hn (Nat.le_trans hk.few hK) hsz hr).mono ?_
  rintro e w' ⟨t', rfl, h1, h2, h3, h4⟩
  exact ⟨t', rfl, ⟨h1, by rw [h2]; exact h.pk.load hk r room p, h.step h3⟩, h2, h3, h4⟩
end Go.Proofs.YtjapjpigpakejaaGreatDoor

/- Plain laws: a tree laid node by node into another one, in whatever order. -/
namespace Go.Proofs.YtjapjpigpakejaaGreatDoor
set_option maxRecDepth 100000
open Go.RowKit Av

theorem SoundP.same_get {room : Int} {t u : Pt} (h : SoundP room t) (e : ∀ p, mget u p = mget t p) (hl : (u.length : Int) ≤ room) : SoundP room u := by
  refine ⟨fun p n hp => h.good p n (by rw [← e]; exact hp), fun p n hp => h.cnt p n (by rw [← e]; exact hp), fun p n hp => h.eph p n (by rw [← e]; exact hp), fun p n hp x hx => ?_, fun p n hp up hu => ?_, hl⟩
  · rw [e]
    exact h.kids p n (by rw [← e]; exact hp) x hx
  · rw [e]
    exact h.par p n (by rw [← e]; exact hp) up hu
/-- A list, turned. -/
def rotL (L : List Bs) (k : Nat) : List Bs := L.drop (k % L.length) ++ L.take (k % L.length)
theorem rot_perm (L : List Bs) (k : Nat) : (rotL L k).Perm L := by
  unfold rotL
  exact List.perm_append_comm.trans (by rw [List.take_append_drop])
theorem rot_len (L : List Bs) (k : Nat) : (rotL L k).length = L.length := (rot_perm L k).length_eq
theorem rot_get {L : List Bs} {i k : Nat} (hi : i < L.length) : (rotL L k)[i]? = L[(i + k) % L.length]? := by
  have h0 : 0 < L.length := by omega
  have hr : k % L.length < L.length := Nat.mod_lt _ h0
  have hm : (i + k) % L.length = (i + k % L.length) % L.length := by rw [Nat.add_mod, Nat.mod_eq_of_lt hi]
  unfold rotL
  rw [hm]
  generalize k % L.length = r at hr ⊢
  by_cases h : i + r < L.length
  · rw [Nat.mod_eq_of_lt h, List.getElem?_append_left (by simp; omega), List.getElem?_drop, Nat.add_comm]
  · have e : (i + r) % L.length = i + r - L.length := by
      rw [Nat.mod_eq_sub_mod (by omega), Nat.mod_eq_of_lt (by omega)]
    rw [e, List.getElem?_append_right (by simp; omega), List.length_drop, List.getElem?_take_of_lt (by omega)]
    congr 1
    omega
/-- Behind j nodes. -/
structure LaidTo (t u : Pt) (M : List Bs) (j : Nat) : Prop where
  len : u.length = j
  get : ∀ q, mget u q = if q.data.toList ∈ M.take j then mget t q else none
theorem LaidTo.nil (t : Pt) (M : List Bs) : LaidTo t [] M 0 := ⟨rfl, fun q => by simp [mget]⟩
theorem LaidTo.fresh {t u : Pt} {M : List Bs} {j : Nat} (h : LaidTo t u M j) (hn : M.Nodup) (hj : j < M.length) {p : ByteArray} (hp : p.data.toList = M[j]) : mget u p = none := by
  rw [h.get, if_neg]
  rw [hp]
  intro hm
  obtain ⟨i, hi, e⟩ := List.getElem_of_mem hm
  rw [List.getElem_take] at e
  have hij : i < j := by simp at hi; omega
  exact List.pairwise_iff_getElem.1 hn i j (by omega) hj hij e
theorem LaidTo.step {t u : Pt} {M : List Bs} {j : Nat} (h : LaidTo t u M j) (hn : M.Nodup) (hj : j < M.length) {p : ByteArray} (hp : p.data.toList = M[j]) {n : NodeV} (ht : mget t p = some n) : LaidTo t (mset u p n) M (j + 1) := by
  have hf := h.fresh hn hj hp
  refine ⟨?_, fun q => ?_⟩
  · rw [mset_length, hf, h.len]
    simp
  · rw [mget_mset, List.take_succ_eq_append_getElem hj, ← hp]
    by_cases e : q = p
    · subst e
      rw [if_pos rfl, if_pos (by simp), ht]
    · rw [if_neg e, h.get]
      have h1 : q.data.toList ≠ p.data.toList := fun e2 => e (bytes_eq e2)
      simp [h1]
theorem LaidTo.all {t u : Pt} {M : List Bs} {j : Nat} (h : LaidTo t u M j) (hj : j = M.length) (hm : ∀ q, mget t q ≠ none → q.data.toList ∈ M) (q : ByteArray) : mget u q = mget t q := by
  rw [h.get, List.take_of_length_le (by omega)]
  by_cases hq : mget t q = none
  · rw [hq]; simp
  · rw [if_pos (hm q hq)]
theorem ndLoad_same {n : NodeV} (h : PartsOk n) : ndLoad n = n := by
  obtain ⟨a1, a2, a3, a4, a5, a6, a7, a8, a9, a10⟩ := n
  obtain ⟨h1, h2, _⟩ := h
  simp only at h1 h2
  unfold ndLoad
  simp only
  rw [h1, h2]
theorem loadP_yes {room : Int} {u : Pt} {p : ByteArray} {n : NodeV} (h : mget u p = none) (hl : (u.length : Int) < room) : loadP true room u p n = (mset u p (ndLoad n), 0) := by
  unfold loadP
  rw [if_neg (by decide), h, if_neg (by simp), if_neg (by omega)]
theorem loadP_twice {room : Int} {u : Pt} {p : ByteArray} {n m : NodeV} (h : mget u p = some m) : loadP true room u p n = (u, 5) := by
  unfold loadP
  rw [if_neg (by decide), h]
  rfl
end Go.Proofs.YtjapjpigpakejaaGreatDoor
