/- Walks: is a tree sound: snap.sound. -/
import Derived.Test.YtjapjpigpakejaaGreatDoorAvG37
import Derived.Test.YtjapjpigpakejaaGreatDoorAvG38
import Derived.Test.YtjapjpigpakejaaGreatDoorAvG34
import Derived.Sort.OwnSorted
import Derived.Shelf.Slices.In.SortNone
namespace Go.Proofs.YtjapjpigpakejaaGreatDoor
set_option maxRecDepth 100000
open Go.RowKit Av

theorem sortS_any (v : Value) (l : List Bs) (base : Nat) (w : World) (h : w.ownsRow base strT 1 v l.length (l.map encStr)) (hl : l.length ≤ 1000000) :
    Calls Tryz.prog 73 #[v] w fun e w' => (∃ u, e = .returned u) ∧ w'.ownsRow base strT 1 v l.length ((l.mergeSort fun x y => decide (x ≤ y)).map encStr) ∧ Kp (fun i => v.ownBlock = some i) w w' := by
  rcases h.2 with ⟨rfl, hn0⟩ | ⟨g, cap, cur, rfl, hbase, hb, h1, h2, h3, h4⟩
  · have hl0 : l = [] := List.length_eq_zero_iff.1 hn0
    subst hl0
    refine (Any.slices_Sort_string_none Tryz.lays190 none 0 w).mono ?_
    rintro e w' ⟨rfl, rfl⟩
    exact ⟨⟨_, rfl⟩, ⟨by simp, .inl ⟨rfl, rfl⟩⟩, Kp.refl _ _⟩
  · have hH : Sort.Holds encStr w g 0 l.toArray := holds_of_block hb (by simpa using h4)
    refine (Tryz.slices_Sort_string g 0 cap l w hH (Array.getElem?_eq_some_iff.1 hb).1 (by omega)).mono ?_
    rintro e w' ⟨rfl, n, os, rfl⟩
    exact ⟨⟨_, rfl⟩, ownsRow_sorted (n := n) (os := os) (ss := l) (ts := l.mergeSort fun x y => decide (x ≤ y)) (by simp) hbase hb h1 h2 h3, (Kp.refl (fun i => (Value.slice (some ⟨g, 0, none⟩) l.length cap).ownBlock = some i) w).grown (grownBy_sorted (w := w) (g := g) (n := n) (os := os) _) (fun k hk _ => by simpa [Value.ownBlock] using hk)⟩
theorem tKids : Tryz.prog.underlying 123 = some (.map 9 33) := Tryz.underlying123
theorem zRow (w : World) : (zeroValue 33).run Tryz.prog w = .ok (.slice none 0 0) w := by kernel_rfl
theorem kid_look {w : World} {m : Nat} {M : List (ByteArray × Value)} (h : MapK Value.string w m M) (p : ByteArray) : (Instr.lookup 123 (.map (some m)) (.string p) false).run Tryz.prog w = .ok (Av.rowAt M p) w :=
  MapK.lookup kStr tKids h (.slice none 0 0) zRow p false
abbrev f1 : Bs → List Value := fun x => [encStr x]
theorem f1_map (l : List Bs) : l.flatMap f1 = l.map encStr := by
  induction l with
  | nil => rfl
  | cons a l ih => rw [List.flatMap_cons, ih]; rfl
abbrev KidsM (w : World) (base km : Nat) (M : List (ByteArray × Value)) (xs : ByteArray → List Bs) : Prop := MapRows w base km Value.string strT 1 f1 M xs
theorem KidsM.inPlace {w w1 : World} {base km : Nat} {M : List (ByteArray × Value)} {xs : ByteArray → List Bs} (h : KidsM w base km M xs) (p : ByteArray) {ys : List Bs} (k1 : Kp (fun i => (Av.rowAt M p).ownBlock = some i) w w1) (hv : w1.ownsRow base strT 1 (Av.rowAt M p) ys.length (ys.map encStr)) : KidsM w1 base km M (fun q => if q = p then ys else xs q) := by
  refine ⟨h.map.kp k1 (fun e => h.off p _ e rfl), fun q => ?_, h.apart⟩
  by_cases e : q = p
  · subst e
    simp only [if_true]
    rw [f1_map]
    exact hv
  · simp only [if_neg e]
    exact ownsRow.kp (h.row q) k1 (fun i hi hs => h.apart q p i e hi hs)
theorem kids_snoc (A : List Bs) (x q : Bs) : kidsOf (A ++ [x]) q = kidsOf A q ++ (if parentL x = some q then [lastL x] else []) := by
  unfold kidsOf
  rw [List.filterMap_append]
  congr 1
  by_cases h : parentL x = some q
  · rw [if_pos h]; simp [h]
  · rw [if_neg h]; simp [h]
theorem kids_len (A : List Bs) (q : Bs) : (kidsOf A q).length ≤ A.length := by unfold kidsOf; exact List.length_filterMap_le _ _
def upB (o : Option NodeV) : Bool := match o with
  | none => false
  | some n => n.own == 0
def So1 (w wS : World) (P : Pt) (L : List Bs) (s20 : Value) (W : World) : Prop :=
  ∃ (k : Nat) (M : List (ByteArray × Value)), k ≤ L.length ∧ s20 = .int .i64 k ∧ KidsM W wS.heap.size w.heap.size M (fun q => kidsOf (L.take k) q.data.toList) ∧ (L.take k).all (upOk P) = true ∧ Kp (fun i => i = w.heap.size) wS W
def So2 (w wS : World) (P : Pt) (L : List Bs) (s54 : Value) (W : World) : Prop :=
  ∃ (k : Nat) (M : List (ByteArray × Value)) (xs : ByteArray → List Bs), k ≤ L.length ∧ s54 = .int .i64 k ∧ KidsM W wS.heap.size w.heap.size M xs ∧ (∀ j (hj : j < L.length), k ≤ j → xs ⟨L[j].toArray⟩ = kidsOf L L[j]) ∧ (L.take k).all (kidsOk P L) = true ∧ Kp (fun i => i = w.heap.size) wS W
set_option maxHeartbeats 12800000 in
theorem snapSound_any {w0 w : World} {b m : Nat} {room : Int} {K : Nat} {t : Tr} (h : TS w0 w b m room K t) (hG : GT w) (hs : OkT (pl t)) (hK : K ≤ 500) :
    Calls Tryz.prog 61 #[.pointer (some ⟨b, 0, none⟩)] w fun e w' => e = .returned (.bool (soundB (pl t))) ∧ Ext w w' := by
  obtain ⟨wA, hWA⟩ : ∃ wA, w.alloc (.map #[] 0) = wA := ⟨_, rfl⟩
  have hxA : Ext w wA := by rw [← hWA]; exact (Kp.refl _ _).alloc _
  have HA1 : Hid (wA.heap.size = w.heap.size + 1) := by show _ = _; rw [← hWA]; simp
  have HMN : Hid (∀ base, KidsM wA base w.heap.size [] (fun _ => [])) := fun base => by rw [← hWA]; exact MapRows.new w base strT 1 f1
  have HP := Lib.hid (tsPathsO (h.ext hxA) hs)
  have HT := Lib.hid h
  have HG := Lib.hid hG
  have HM : Hid (∀ x ∈ pathsP (pl t), ∃ n, mget (pl t) ⟨x.toArray⟩ = some n) := fun x hx => Option.ne_none_iff_exists'.1 (paths_mem.1 hx)
  have HSZ : Hid (∀ x ∈ pathsP (pl t), x.length ≤ 200 ∧ goodL x = true) := fun x hx => by
    obtain ⟨n, hn⟩ := HM.out x hx
    have h1 := hs.good _ _ hn
    have h2 := path_small _ h1
    rw [Lib.size_eq] at h2
    exact ⟨by simpa using h2, by simpa using h1⟩
  have HND : Hid ((pathsP (pl t)).Nodup) := (pathsP_rising h.pk.1).imp fun {a b} h e => by rw [e] at h; exact List.lt_irrefl _ h
  have HPAR : Hid (∀ x : Bs, goodL x = true → ∀ up, parentL x = some up → up.length ≤ x.length) := fun x _ up hu => by
    have e := child_of hu
    rw [← e]
    simp
  have hL : (pathsP (pl t)).length ≤ 500 := by
    have h1 := hs.size
    rw [pathsP_len]
    omega
  have HSB : Hid (soundB (pl t) = ((pathsP (pl t)).all (upOk (pl t)) && (pathsP (pl t)).all (kidsOk (pl t) (pathsP (pl t))))) := rfl
  generalize soundB (pl t) = R at HSB ⊢
  generalize pathsP (pl t) = L at HM HSZ HND HP hL HSB
  have HXA := Lib.hid hxA
  have HWA := Lib.hid hWA
  clear hWA hxA h hG hs
  have hmm := @run_makeMap Tryz.prog
  go_enter Tryz.func61, Tryz.ntmps61
  go_upto_region 2 with (fail)
  rw [HWA.out]
  clear hmm
  go_wp2_with (fail)
  refine HP.out.mono ?_
  rintro e wS ⟨vS, rfl, hoS, hxS⟩
  obtain ⟨aS, cS, hslS, hopS⟩ := strs_open hoS
  subst hslS
  have HGS : Hid (∀ g off, aS = some ⟨g, off, none⟩ → w.heap.size < g) := fun g off e => by
    subst e
    have h1 := (own_in hoS (i := g) rfl).1
    have h2 := HA1.out
    omega
  have HOP := Lib.hid hopS
  have HXS := Lib.hid (HXA.out.trans hxS)
  have HMS : Hid (KidsM wS wS.heap.size w.heap.size [] (fun _ => [])) := (HMN.out wS.heap.size).ext hxS
  have HSZS : Hid (w.heap.size < wS.heap.size) := by show _ < _; have := HA1.out; have := hxS.size; omega
  have HCELL : Hid (∀ W, Kp (fun i => i = w.heap.size) wS W → 0 < L.length → ∃ g off, aS = some ⟨g, off, none⟩ ∧ ∀ k (hk : k < L.length), W.cell? ⟨g, off + k, none⟩ = some (encStr L[k])) := fun W hW h0 => by
    obtain ⟨g, off, e, hc⟩ := HOP.out h0
    exact ⟨g, off, e, fun k hk => hW.cell (hc k hk) (fun e2 => by have := HGS.out g off e; have e3 : g = w.heap.size := e2; omega)⟩
  have HEX : Hid (∀ W, Kp (fun i => i = w.heap.size) wS W → Ext w W) := fun W hW => HXS.out.next hW (fun i hi e => by omega)
  clear hopS hoS hxS HP HOP HMN HGS
  go_wp2_with (fail)
  go_loopw [20] (fun s20 wr => So1 w wS (pl t) L s20 wr) (fun i _ => L.length - (intOf i).toNat)
  case atStart => exact ⟨0, [], Nat.zero_le _, rfl, HMS.out, rfl, Kp.refl _ _⟩
  case round =>
    clear HMS
    obtain ⟨k, M, hk, rfl, hmr, hall, hkp⟩ := hrel
    have HMR := Lib.hid hmr
    have HALL := Lib.hid hall
    have HKP := Lib.hid hkp
    clear hmr hall hkp
    by_cases hlt : k < L.length
    · obtain ⟨gS, oS, rfl, hcl⟩ := HCELL.out wr HKP.out (by omega)
      have hc := hcl k hlt
      obtain ⟨hx200, hxg⟩ := HSZ.out L[k] (List.getElem_mem hlt)
      have HMEM : Hid (L[k] ∈ L) := List.getElem_mem hlt
      have HTK : Hid (L.take (k + 1) = L.take k ++ [L[k]]) := List.take_succ_eq_append_getElem hlt
      obtain ⟨x, hxx⟩ : ∃ x, L[k] = x := ⟨_, rfl⟩
      rw [hxx] at hc HTK HMEM hx200 hxg
      unfold encStr at hc
      obtain ⟨p, hp⟩ : ∃ p : ByteArray, ⟨x.toArray⟩ = p := ⟨_, rfl⟩
      have hpx : p.data.toList = x := by rw [← hp]
      rw [hp] at hc
      have hpsz : p.size ≤ 200 := by rw [Lib.size_eq, hpx]; exact hx200
      have HPR := Lib.hid (Parent_any p wr (HG.out.ext (HEX.out wr HKP.out)).gl (by unfold maxLen; omega))
      rw [hpx] at HPR
      have hpar := HPAR.out x hxg
      cases hup : parentL x with
      | none =>
        rw [hup] at HPR
        have HN : Hid (So1 w wS (pl t) L (.int .i64 ((k + 1 : Nat) : Int)) wr → True) := fun _ => trivial
        have HM2 : Hid (KidsM wr wS.heap.size w.heap.size M (fun q => kidsOf (L.take (k + 1)) q.data.toList)) := by
          have e : (fun q : ByteArray => kidsOf (L.take (k + 1)) q.data.toList) = fun q => kidsOf (L.take k) q.data.toList := by
            funext q
            rw [HTK.out, kids_snoc, hup, if_neg (by simp), List.append_nil]
          show KidsM _ _ _ _ _
          rw [e]
          exact HMR.out
        have HA2 : Hid ((L.take (k + 1)).all (upOk (pl t)) = true) := by
          show _ = _
          rw [HTK.out, List.all_append, HALL.out]
          simp [upOk, hup]
        clear hcl hxx hp hpx hup hpar HN
        go_wp2_with (fail)
        refine HPR.out.mono ?_
        rintro e w3 ⟨rfl, hx3⟩
        have HM3 := Lib.hid (HM2.out.ext hx3)
        have HK3 := Lib.hid (HKP.out.ext hx3)
        clear hx3 HPR hc
        go_wp2_with (fail)
        go_light
        refine ⟨⟨k + 1, M, ?_, ?_, HM3.out, HA2.out, HK3.out⟩, ?_⟩
        · omega
        · go_num
        · simp [intOf]; omega
      | some up =>
        rw [hup] at HPR
        have hul := hpar up hup
        obtain ⟨u, hu⟩ : ∃ u : ByteArray, ⟨up.toArray⟩ = u := ⟨_, rfl⟩
        have hux : u.data.toList = up := by rw [← hu]
        have hopt : optS (some up) = u := by rw [← hu]; rfl
        rw [hopt] at HPR
        have HUPX : Hid (upOk (pl t) x = upB (mget (pl t) u)) := by
          show _ = _
          unfold upOk
          rw [hup, ← hu]
          rfl
        have HKD : Hid (∀ q : ByteArray, kidsOf (L.take (k + 1)) q.data.toList = if q = u then kidsOf (L.take k) q.data.toList ++ [lastL x] else kidsOf (L.take k) q.data.toList) := fun q => by
          rw [HTK.out, kids_snoc, hup]
          by_cases e : q = u
          · rw [if_pos e, e, hux, if_pos rfl]
          · rw [if_neg e, if_neg (fun e2 => e (bytes_eq (by rw [hux]; simpa using e2.symm))), List.append_nil]
        have hux200 : u.size ≤ 200 := by rw [Lib.size_eq, hux]; omega
        have HND2 := Lib.hid (fun W (hW : Ext w W) => tsNode (HT.out.ext hW) (by omega) u)
        clear hcl hxx hp hup hpar hul hu hux hopt
        go_wp2_with (fail)
        refine HPR.out.mono ?_
        rintro e w3 ⟨rfl, hx3⟩
        simp only [Option.isSome_some]
        have HM3 := Lib.hid (HMR.out.ext hx3)
        have HK3 := Lib.hid (HKP.out.ext hx3)
        have HN3 := Lib.hid (HND2.out w3 (HEX.out _ HK3.out))
        clear hx3 HPR hc HND2 HMR HKP
        cases hgu : mget (pl t) u with
        | none =>
          have hnode : nodeP (pl t) u = (ndZ, false) := by unfold nodeP; rw [hgu]
          rw [hnode] at HN3
          have HRF : Hid (R = false) := by
            show _ = _
            rw [HSB.out]
            have : L.all (upOk (pl t)) = false := by
              rw [← Bool.not_eq_true, List.all_eq_true]
              intro h
              have := h x HMEM.out
              rw [HUPX.out, hgu] at this
              exact absurd this (by decide)
            rw [this]; rfl
          clear hgu hnode HUPX
          go_wp2_with (fail)
          refine HN3.out.mono ?_
          rintro e w4 ⟨nv4, rfl, ho4, ht4, hx4⟩
          obtain ⟨a4, c4, rfl⟩ := owns_slice ho4
          have HX4 := Lib.hid (HEX.out _ (HK3.out.ext hx4))
          clear ho4 ht4 hx4 HN3
          obtain ⟨n4, hn4⟩ : ∃ n4, ndZ = n4 := ⟨_, rfl⟩
          rw [hn4]
          obtain ⟨wC, hWC⟩ : ∃ wC, w4.alloc (.cells #[.int .i64 n4.made, .int .i64 n4.chg, .int .i64 n4.ver, .int .i64 n4.kids, .int .i64 n4.own, .int .i64 n4.len, .int .i64 n4.cnt, .string n4.data, .int .i64 n4.next, .slice a4 n4.names.length c4] ndT) = wC := ⟨_, rfl⟩
          have HXC : Hid (Ext w wC) := by show Ext _ _; rw [← hWC]; exact HX4.out.alloc _
          have HWC := Lib.hid hWC
          clear hWC hn4
          unfold ndA
          go_upto_region 9 with (fail)
          rw [HWC.out]
          go_wp2_with (fail)
          go_ret
          exact ⟨ret_bool HRF.out.symm, HXC.out⟩
        | some n =>
          have hnode : nodeP (pl t) u = (n, true) := by unfold nodeP; rw [hgu]
          rw [hnode] at HN3
          have HGU := Lib.hid hgu
          clear hgu hnode
          go_wp2_with (fail)
          refine HN3.out.mono ?_
          rintro e w4 ⟨nv4, rfl, ho4, ht4, hx4⟩
          obtain ⟨a4, c4, rfl⟩ := owns_slice ho4
          obtain ⟨wC, hWC⟩ : ∃ wC, w4.alloc (.cells #[.int .i64 n.made, .int .i64 n.chg, .int .i64 n.ver, .int .i64 n.kids, .int .i64 n.own, .int .i64 n.len, .int .i64 n.cnt, .string n.data, .int .i64 n.next, .slice a4 n.names.length c4] ndT) = wC := ⟨_, rfl⟩
          have hxC : Ext w4 wC := by rw [← hWC]; exact (Kp.refl _ _).alloc _
          have hC : Blk wC w4.heap.size (ndA n (.slice a4 n.names.length c4)) ndT := by rw [← hWC]; exact heap_alloc_new w4 _
          have HMC := Lib.hid (HM3.out.ext (hx4.trans hxC))
          have HKC := Lib.hid (HK3.out.ext (hx4.trans hxC))
          have HEP := Lib.hid (ephemeral_any w4.heap.size n wC ⟨_, hC, owns_zero (ownsRow.ext ho4 hxC)⟩)
          have HWC := Lib.hid hWC
          clear hWC hxC hC ho4 ht4 hx4 HN3 HM3 HK3
          unfold ndA
          go_upto_region 9 with (fail)
          rw [HWC.out]
          clear HWC
          cases hown : n.own != 0 with
          | true =>
            rw [hown] at HEP
            have HRF : Hid (R = false) := by
              show _ = _
              rw [HSB.out]
              have : L.all (upOk (pl t)) = false := by
                rw [← Bool.not_eq_true, List.all_eq_true]
                intro h
                have := h x HMEM.out
                rw [HUPX.out, HGU.out] at this
                have h2 : (n.own == 0) = true := this
                rw [bne, h2] at hown
                cases hown
              rw [this]; rfl
            clear hown
            go_wp2_with (fail)
            refine HEP.out.mono ?_
            rintro e w5 ⟨rfl, rfl⟩
            have HXC := Lib.hid (HEX.out _ HKC.out)
            go_wp2_with (fail)
            go_ret
            exact ⟨ret_bool HRF.out.symm, HXC.out⟩
          | false =>
            rw [hown] at HEP
            have HA2 : Hid ((L.take (k + 1)).all (upOk (pl t)) = true) := by
              show _ = _
              rw [HTK.out, List.all_append, HALL.out]
              have h1 : upOk (pl t) x = true := by
                rw [HUPX.out, HGU.out]
                show (n.own == 0) = true
                cases h0 : (n.own == 0) with
                | true => rfl
                | false => rw [bne, h0] at hown; cases hown
              simp [h1]
            clear hown
            go_wp2_with (fail)
            refine HEP.out.mono ?_
            rintro e w5 ⟨rfl, rfl⟩
            have hrow := HMC.out.row u
            simp only [f1_map] at hrow
            have hoff : ∀ i, (Av.rowAt M u).ownBlock = some i → i ≠ w.heap.size := fun i hi => HMC.out.off u i hi
            have hln : (kidsOf (L.take k) u.data.toList).length ≤ 500 := by
              have := kids_len (L.take k) u.data.toList
              rw [List.length_take] at this
              omega
            have HKU : Hid (kidsOf (L.take (k + 1)) u.data.toList = kidsOf (L.take k) u.data.toList ++ [lastL x]) := by show _ = _; rw [HKD.out u, if_pos rfl]
            obtain ⟨ks, hks⟩ : ∃ ks, kidsOf (L.take k) u.data.toList = ks := ⟨_, rfl⟩
            rw [hks] at hrow hln HKU
            obtain ⟨rv, hrv⟩ : ∃ rv, Av.rowAt M u = rv := ⟨_, rfl⟩
            have HLK : Hid (∀ W, MapK Value.string W w.heap.size M → (Instr.lookup 123 (.map (some w.heap.size)) (.string u) false).run Tryz.prog W = .ok rv W) := fun W hW => by have := kid_look hW u; rw [hrv] at this; exact this
            rw [hrv] at hrow hoff
            have HRV := Lib.hid hrv
            obtain ⟨ra, rc, rfl⟩ := owns_slice hrow
            have HROW := Lib.hid hrow
            have HOFF := Lib.hid hoff
            have HKS := Lib.hid hks
            have HNAME := Lib.hid (fun W (hW : Ext w W) => pathName_any p W (HG.out.ext hW).gl (by unfold maxLen; omega))
            have HLST : Hid ((⟨(lastL p.data.toList).toArray⟩ : ByteArray) = ⟨(lastL x).toArray⟩) := by show _ = _; rw [hpx]
            rw [HLST.out] at HNAME
            have HWQ : Hid (∀ wq, Kp (fun i => wC.heap.size ≤ i ∨ (Value.slice ra ks.length rc).ownBlock = some i) wC wq → Ext w wq) := fun wq hq => (HEX.out _ HKC.out).next hq (fun i hi e => by
              have h1 := (HEX.out _ HKC.out).size
              rcases e with e | e
              · omega
              · have := (own_in HROW.out e).1; have := HSZS.out; omega)
            have HMQ : Hid (∀ wq, Kp (fun i => wC.heap.size ≤ i ∨ (Value.slice ra ks.length rc).ownBlock = some i) wC wq → MapK Value.string wq w.heap.size M) := fun wq hq => HMC.out.map.kp hq (fun e => by
              rcases e with e | e
              · have := HMC.out.map.lt; omega
              · exact HOFF.out _ e rfl)
            have HONE : Hid (∀ y ∈ [encStr (lastL x)], y.oneCell' = true) := enc_one [lastL x]
            clear hrow hoff hks hrv HEP hpx
            go_upto_region 11 with (fail)
            refine' Av.X.wp_region_dagG (fun i => (Value.slice ra ks.length rc).ownBlock = some i) 9 [(50, [901, 49], [])] [901] ((42, .val _) :: (43, .val _) :: (44, .val _) :: (45, .val _) :: (46, .val _) :: (47, .val _) :: (48, .val _) :: (49, ⟨fun _ => True, fun v w' => BoxL wC.heap.size strT 1 [encStr (lastL x)] v w'⟩) :: (50, ⟨fun v => ∃ a c, v = .slice a (ks.length + 1) c, fun v w' => w'.ownsRow 0 strT 1 v (ks.length + 1) (ks.map encStr ++ [encStr (lastL x)]) ∧ ∀ i, v.ownBlock = some i → (Value.slice ra ks.length rc).ownBlock = some i ∨ wC.heap.size ≤ i⟩) :: (901, ⟨fun _ => True, fun _ w' => w'.ownsRow 0 strT 1 (.slice ra ks.length rc) ks.length (ks.map encStr)⟩) :: []) (by exact ⟨fun _ _ _ _ _ => trivial, ⟨fun _ _ _ _ _ => trivial, ⟨fun _ _ _ _ _ => trivial, ⟨fun _ _ _ _ _ => trivial, ⟨fun _ _ _ _ _ => trivial, ⟨fun _ _ _ _ _ => trivial, ⟨fun _ _ _ _ _ => trivial, ⟨fun _ _ _ hr hv => hv.ext hr, ⟨fun _ _ _ hr hv => ⟨ownsRow.ext hv.1 hr, hv.2⟩, ⟨fun _ _ _ hr hv => ownsRow.ext hv hr, trivial⟩⟩⟩⟩⟩⟩⟩⟩⟩⟩) (by exact ⟨⟨undef, owns_zero (ownsRow.ext HROW.out (Kp.refl _ _).drew)⟩, trivial⟩) (by kernel_rfl) (by kernel_rfl) (by kernel_rfl) ?_
            rotate_left 7
            simp only [List.take_succ_cons, List.take_zero]
            repeat (first
              | (refine Av.X.wpD_skipv ?_ ?_ ?_
                 focus rfl
                 focus rfl
                 simp only [Act.put, List.setIfInBounds_toArray, List.set_cons_succ, List.set_cons_zero])
              | (refine' Av.X.wpD_val (c := _) ?_ (fun w => Kp.refl _ w) ?_ (fun wq hwq hfz => ?_) ?_
                 rotate_left
                 focus rfl
                 focus rfl
                 focus (have hfq := hfz.at_; have hcq := hfz.use; (have hlk := HLK.out _ (HMQ.out _ hwq)); go_simp; first | done | rfl)
                 simp only [Act.put, List.setIfInBounds_toArray, List.set_cons_succ, List.set_cons_zero])
              | (refine' Av.X.wpD_con (c := _) ?_ ?_ (fun wq hwq hfz => ?_) ?_
                 rotate_left
                 focus rfl
                 focus rfl
                 focus (have hfq := hfz.at_; have hcq := hfz.use; (have hlk := HLK.out _ (HMQ.out _ hwq)); go_simp; (try (rw [dUpon_enter])); ((with_reducible refine (HNAME.out _ (HWQ.out _ hwq)).mono ?_); rintro e w' ⟨rfl, hx⟩; exact DEnd.con hx))
                 simp only [Act.put, List.setIfInBounds_toArray, List.set_cons_succ, List.set_cons_zero])
              | (refine Av.X.wpD_made (A := fun _ => True) (V := fun v w' => BoxL wC.heap.size strT 1 [encStr (lastL x)] v w') 49 ?_ ?_ ?_ ?_ (fun wq hwq hfz => ?_) (fun v49 h49 => ?_)
                 focus rfl
                 focus rfl
                 focus (exact ⟨undef, trivial⟩)
                 focus rfl
                 focus (have hfq := hfz.at_; have hcq := hfz.use; (have hlk := HLK.out _ (HMQ.out _ hwq)); go_simp; (try (rw [dUpon_enter])); rw [dUpon_value]; exact mPost trivial (BoxL.new hwq.size) ((Kp.refl _ _).alloc _))
                 clear h49
                 simp only [Act.put, List.setIfInBounds_toArray, List.set_cons_succ, List.set_cons_zero])
              | (refine Av.X.wpD_used (A := fun v => ∃ a c, v = .slice a (ks.length + 1) c) (V := fun v w' => w'.ownsRow 0 strT 1 v (ks.length + 1) (ks.map encStr ++ [encStr (lastL x)]) ∧ ∀ i, v.ownBlock = some i → (Value.slice ra ks.length rc).ownBlock = some i ∨ wC.heap.size ≤ i) 50 ?_ ?_ ?_ ?_ (fun wq hwq hfz => ?_) (fun v50 h50 => ?_)
                 focus rfl
                 focus rfl
                 focus (exact ⟨.slice none (ks.length + 1) 0, _, _, rfl⟩)
                 focus rfl
                 focus (have hfq := hfz.at_; have hcq := hfz.use; (have hlk := HLK.out _ (HMQ.out _ hwq)); have hrow : wq.ownsRow 0 strT 1 (.slice ra ks.length rc) ks.length (ks.map encStr) := (hcq 901 rfl).elim (fun _ h => h); refine dUpon_appR (d := 50) rfl (by kernel_rfl) 33 strT 1 (by decide) str_factsG rfl _ _ rfl (.slice ra ks.length rc) ks.length _ rfl hrow v49 1 [encStr (lastL x)] rfl wC.heap.size (hfq 49 rfl) rfl HONE.out (by omega) (fun v' w' h1 h2 h3 h4 => ⟨owns_slice h1, ⟨h1, fun i hi => ?_⟩, (Kp.refl (fun i => wC.heap.size ≤ i ∨ (Value.slice ra ks.length rc).ownBlock = some i) _).grown h2 (fun q hq _ => .inr hq), ?_⟩); (rcases h4 with h4 | h4; (focus exact .inl (by rw [← h4]; exact hi)); (rw [h4] at hi; simp only [Option.some.injEq] at hi; right; have := hwq.size; omega)); repeat (first | exact PresL.nil | (with_reducible refine PresL.val ?_) | (refine PresL.out rfl ?_) | (refine PresL.keep (fun u hu => hu) ?_)))
                 obtain ⟨a50, c50, rfl⟩ := h50
                 simp only [Act.put, List.setIfInBounds_toArray, List.set_cons_succ, List.set_cons_zero])
              | fail)
            refine Av.X.wpD_nil ?_
            intro w7 hr7 hend
            have h50 : w7.ownsRow 0 strT 1 (.slice a50 (ks.length + 1) c50) (ks.length + 1) (ks.map encStr ++ [encStr (lastL x)]) ∧ ∀ i, (Value.slice a50 (ks.length + 1) c50).ownBlock = some i → (Value.slice ra ks.length rc).ownBlock = some i ∨ wC.heap.size ≤ i := hend 50 (by kernel_rfl)
            clear hend
            have hm7 := HMQ.out _ hr7
            have hge : ∀ i, (Value.slice a50 (ks.length + 1) c50).ownBlock = some i → wS.heap.size ≤ i := fun i hi => by
              rcases h50.2 i hi with e | e
              · exact (own_in HROW.out e).1
              · have := HKC.out.size; omega
            have hvm : ∀ i, (Value.slice a50 (ks.length + 1) c50).ownBlock = some i → i ≠ w.heap.size := fun i hi => by have := hge i hi; have := HSZS.out; omega
            obtain ⟨wM, u1, u2, u3, u4⟩ := MapK.update kStr tKids hm7 u (.slice a50 (ks.length + 1) c50)
            have k1 : Kp (fun i => (Av.rowAt M u).ownBlock = some i) wC w7 := by
              rw [HRV.out]
              exact hr7.mono (fun i hi e => by
                rcases e with e | e
                · omega
                · exact e)
            have hput := MapRows.put HMC.out u k1 (v := .slice a50 (ks.length + 1) c50) (ys := ks ++ [lastL x]) (by
              rw [f1_map, List.map_append, List.length_append]
              exact owns_up h50.1 hge) (fun i hi => by rw [HRV.out]; exact h50.2 i hi) (fun q i hi => HMC.out.off q i hi) hvm u2 u3
            have HMM : Hid (KidsM wM wS.heap.size w.heap.size (mset M u (.slice a50 (ks.length + 1) c50)) (fun q => kidsOf (L.take (k + 1)) q.data.toList)) := by
              have e : (fun q : ByteArray => kidsOf (L.take (k + 1)) q.data.toList) = fun q => if q = u then ks ++ [lastL x] else kidsOf (L.take k) q.data.toList := by
                funext q
                rw [HKD.out q]
                by_cases e : q = u
                · rw [if_pos e, if_pos e, e, HKS.out]
                · rw [if_neg e, if_neg e]
              show KidsM _ _ _ _ _
              rw [e]
              exact hput
            have HKM : Hid (Kp (fun i => i = w.heap.size) wS wM) := by
              refine (HKC.out.next k1 (fun i hi e => ?_)).next u3 (fun i hi e => e)
              rw [HRV.out] at e
              have := (own_in HROW.out e).1
              omega
            clear hr7 h50 hm7 hge hvm u2 u3 u4 k1 hput HMC HKC HROW HOFF HKS HLK HNAME HWQ HMQ HRV HKU HKD HUPX HGU
            go_wp2_with (fail)
            go_light
            refine ⟨⟨k + 1, _, ?_, ?_, HMM.out, HA2.out, HKM.out⟩, ?_⟩
            · omega
            · go_num
            · simp [intOf]; omega
    · have hkt : L.take k = L := List.take_of_length_le (by omega)
      rw [hkt] at HMR HALL
      clear hkt
      go_wp2_with (fail)
      go_loopw [54] (fun s54 wr => So2 w wS (pl t) L s54 wr) (fun i _ => L.length - (intOf i).toNat)
      case atStart => exact ⟨0, M, _, Nat.zero_le _, rfl, HMR.out, fun j hj _ => by simp, rfl, HKP.out⟩
      case round =>
        clear HMR HKP
        obtain ⟨j, M2, xs, hj, rfl, hmr, hxs, hall2, hkp⟩ := hrel
        have HMR := Lib.hid hmr
        have HXS2 := Lib.hid hxs
        have HALL2 := Lib.hid hall2
        have HKP := Lib.hid hkp
        clear hmr hxs hall2 hkp
        by_cases hlj : j < L.length
        · obtain ⟨gS, oS, rfl, hcl⟩ := HCELL.out _ HKP.out (by omega)
          have hc := hcl j hlj
          have HMEM : Hid (L[j] ∈ L) := List.getElem_mem hlj
          have HTK : Hid (L.take (j + 1) = L.take j ++ [L[j]]) := List.take_succ_eq_append_getElem hlj
          have HOTH : Hid (∀ i (hi : i < L.length), j + 1 ≤ i → L[i] ≠ L[j]) := fun i hi hji e => List.pairwise_iff_getElem.1 HND.out j i hlj hi (by omega) e.symm
          obtain ⟨n, hn⟩ := HM.out L[j] (List.getElem_mem hlj)
          have hxj := HXS2.out j hlj (Nat.le_refl _)
          obtain ⟨x, hxx⟩ : ∃ x, L[j] = x := ⟨_, rfl⟩
          rw [hxx] at hc HTK HMEM hn hxj
          have HXX := Lib.hid hxx
          unfold encStr at hc
          obtain ⟨p, hp⟩ : ∃ p : ByteArray, ⟨x.toArray⟩ = p := ⟨_, rfl⟩
          have HPX : Hid (∀ z : Bs, (⟨z.toArray⟩ : ByteArray) = p → z = x) := fun z hz => by
            rw [← hp] at hz
            have := congrArg (fun q : ByteArray => q.data.toList) hz
            simpa using this
          rw [hp] at hc hn hxj
          have hnode : nodeP (pl t) p = (n, true) := by unfold nodeP; rw [hn]
          have HKX : Hid (kidsOk (pl t) L x = decide (n.names = (kidsOf L x).mergeSort fun x y => decide (x ≤ y))) := by show _ = _; unfold kidsOk; rw [hp, hnode]
          have hkl : (kidsOf L x).length ≤ 500 := Nat.le_trans (kids_len L x) hL
          have HN := Lib.hid (by have := tsNode (HT.out.ext (HEX.out _ HKP.out)) (by omega) p; rw [hnode] at this; exact this)
          have hrow := HMR.out.row p
          rw [hxj] at hrow
          simp only [f1_map] at hrow
          obtain ⟨ks, hks⟩ : ∃ ks, kidsOf L x = ks := ⟨_, rfl⟩
          rw [hks] at hrow HKX hkl
          obtain ⟨rv, hrv⟩ : ∃ rv, Av.rowAt M2 p = rv := ⟨_, rfl⟩
          rw [hrv] at hrow
          have HRV := Lib.hid hrv
          obtain ⟨ra, rc, rfl⟩ := owns_slice hrow
          have HROW := Lib.hid hrow
          have HLK : Hid (∀ W, MapK Value.string W w.heap.size M2 → (Instr.lookup 123 (.map (some w.heap.size)) (.string p) false).run Tryz.prog W = .ok (.slice ra ks.length rc) W) := fun W hW => by have := kid_look hW p; rw [hrv] at this; exact this
          clear hcl hn hxx hp hxj hnode hks hrv hrow
          go_wp2_with (fail)
          refine HN.out.mono ?_
          rintro e w6 ⟨nv6, rfl, ho6, ht6, hx6⟩
          obtain ⟨a6, c6, rfl⟩ := owns_slice ho6
          obtain ⟨wC, hWC⟩ : ∃ wC, w6.alloc (.cells #[.int .i64 n.made, .int .i64 n.chg, .int .i64 n.ver, .int .i64 n.kids, .int .i64 n.own, .int .i64 n.len, .int .i64 n.cnt, .string n.data, .int .i64 n.next, .slice a6 n.names.length c6] ndT) = wC := ⟨_, rfl⟩
          have hxC : Ext w6 wC := by rw [← hWC]; exact (Kp.refl _ _).alloc _
          have HC : Hid (Blk wC w6.heap.size #[.int .i64 n.made, .int .i64 n.chg, .int .i64 n.ver, .int .i64 n.kids, .int .i64 n.own, .int .i64 n.len, .int .i64 n.cnt, .string n.data, .int .i64 n.next, .slice a6 n.names.length c6] ndT) := by show Blk _ _ _ _; rw [← hWC]; exact heap_alloc_new w6 _
          have HMC := Lib.hid (HMR.out.ext (hx6.trans hxC))
          have HKC := Lib.hid (HKP.out.ext (hx6.trans hxC))
          have HOC := Lib.hid (ownsRow.ext ho6 hxC)
          have HSO := Lib.hid (sortS_any (.slice ra ks.length rc) ks wS.heap.size wC (ownsRow.ext HROW.out (hx6.trans hxC)) (by omega))
          have HFAR : Hid (∀ i, (Value.slice ra ks.length rc).ownBlock = some i → i < _ ∧ wS.heap.size ≤ i) := fun i hi => ⟨(own_in HROW.out hi).2, (own_in HROW.out hi).1⟩
          have h6 := hx6.size
          have hlk := HLK.out _ HMC.out.map
          have HWC := Lib.hid hWC
          clear hWC hxC ho6 ht6 hx6 HN hc
          unfold ndA
          go_upto_region 17 with (fail)
          rw [HWC.out]
          go_wp2_with (fail)
          refine HSO.out.mono ?_
          rintro e w8 ⟨⟨u8, rfl⟩, ho8, hk8⟩
          have HM8 : Hid (KidsM w8 wS.heap.size w.heap.size M2 (fun q => if q = p then (ks.mergeSort fun x y => decide (x ≤ y)) else xs q)) :=
            KidsM.inPlace HMC.out p (ys := ks.mergeSort fun x y => decide (x ≤ y)) (by rw [HRV.out]; exact hk8) (by rw [HRV.out, List.length_mergeSort]; exact ho8)
          have HK8 : Hid (Kp (fun i => i = w.heap.size) wS w8) := HKC.out.next hk8 (fun i hi e => by have := (HFAR.out i e).2; omega)
          have hc8 := HC.out.kp hk8 (fun e => by have := (HFAR.out _ e).1; omega)
          have d9 := hc8.cell 9 _ rfl
          have hon : w8.ownsRow _ strT 1 (.slice a6 n.names.length c6) n.names.length (n.names.map encStr) := ownsRow.kp HOC.out hk8 (fun i hi e => by
            have h1 := (own_in HOC.out hi).1
            have h2 := (HFAR.out i e).1
            omega)
          have HEQ := Lib.hid (equalS_any (.slice a6 n.names.length c6) (.slice ra ks.length rc) n.names (ks.mergeSort fun x y => decide (x ≤ y)) w8 (Sl.of_owns hon) (by
            have := Sl.of_owns ho8
            rw [List.length_mergeSort]
            exact this))
          have hlk8 := HLK.out _ HM8.out.map
          clear hlk ho8 hk8 hc8 hon HSO HMC HKC HOC HWC HC HFAR HROW h6
          go_wp2_with (fail)
          refine HEQ.out.mono ?_
          rintro e w9 ⟨rfl, hx9⟩
          have HM9 := Lib.hid (HM8.out.ext hx9)
          have HK9 := Lib.hid (HK8.out.ext hx9)
          clear hx9 hlk8 d9 HEQ HM8 HK8
          rw [← HKX.out]
          cases hkx : kidsOk (pl t) L x with
          | true =>
            have HA2 : Hid ((L.take (j + 1)).all (kidsOk (pl t) L) = true) := by
              show _ = _
              rw [HTK.out, List.all_append, HALL2.out]
              simp [hkx]
            have HX2 : Hid (∀ i (hi : i < L.length), j + 1 ≤ i → (fun q => if q = p then (ks.mergeSort fun x y => decide (x ≤ y)) else xs q) ⟨L[i].toArray⟩ = kidsOf L L[i]) := fun i hi hji => by
              have h1 : (⟨L[i].toArray⟩ : ByteArray) ≠ p := fun e => HOTH.out i hi hji (by rw [HPX.out _ e, HXX.out])
              simp only [if_neg h1]
              exact HXS2.out i hi (by omega)
            clear hkx
            go_wp2_with (fail)
            go_light
            refine ⟨⟨j + 1, M2, _, ?_, ?_, HM9.out, HX2.out, HA2.out, HK9.out⟩, ?_⟩
            · omega
            · go_num
            · simp [intOf]; omega
          | false =>
            have HRF : Hid (R = false) := by
              show _ = _
              rw [HSB.out]
              have : L.all (kidsOk (pl t) L) = false := by
                rw [← Bool.not_eq_true, List.all_eq_true]
                intro h
                have := h x HMEM.out
                rw [hkx] at this
                cases this
              rw [this, Bool.and_false]
            have HXW := Lib.hid (HEX.out _ HK9.out)
            clear hkx
            go_wp2_with (fail)
            go_ret
            exact ⟨ret_bool HRF.out.symm, HXW.out⟩
        · have hjt : L.take j = L := List.take_of_length_le (by omega)
          have HRT : Hid (R = true) := by
            show _ = _
            have h1 := HALL2.out
            rw [hjt] at h1
            rw [HSB.out, HALL.out, h1]; rfl
          have HXW := Lib.hid (HEX.out _ HKP.out)
          clear hjt
          go_wp2_with (fail)
          go_ret
          exact ⟨ret_bool HRT.out.symm, HXW.out⟩
end Go.Proofs.YtjapjpigpakejaaGreatDoor
