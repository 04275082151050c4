/- Texts put together: AvWSnapT, AvLaw14A. -/
import Derived.Test.YtjapjpigpakejaaGreatDoorAvHWSnapU
import Derived.Test.YtjapjpigpakejaaGreatDoorAvG31

/- Walks: a tree off bytes: snap.Get. -/
namespace Go.Proofs.YtjapjpigpakejaaGreatDoor
set_option maxRecDepth 100000
open Go.RowKit Av

theorem newBad (room : Int) (w : World) (h : room < 1 ∨ 500 < room) : Calls Tryz.prog 10 #[.int .i64 room] w fun e w' => e = .returned (.tuple #[.pointer none, .int .i64 1]) ∧ Ext w w' := by
  by_cases h1 : room < 1
  · go_enter Tryz.func10, Tryz.ntmps10
    go_wp2_with (fail)
    go_ret2
    exact ⟨rfl, Kp.refl _ _⟩
  · have h2 : 500 < room := by omega
    go_enter Tryz.func10, Tryz.ntmps10
    go_wp2_with (fail)
    go_ret2
    exact ⟨rfl, Kp.refl _ _⟩
set_option maxHeartbeats 1600000 in
theorem snapGet_bad (v : Value) (room : Int) (w : World) (h : room < 1 ∨ 500 < room) :
    Calls Tryz.prog 33 #[v, .int .i64 room] w fun e w' => e = .returned (.tuple #[.pointer none, .int .i64 1]) ∧ Ext w w' := by
  have HN := Lib.hid (newBad room w h)
  clear h
  go_enter Tryz.func33, Tryz.ntmps33
  go_wp2_with (fail)
  refine HN.out.mono ?_
  rintro e w1 ⟨rfl, hx⟩
  go_wp2_with (fail)
  go_ret2
  exact ⟨rfl, hx⟩
set_option maxHeartbeats 1600000 in
theorem snapGet_nil (v : Value) (room : Int) (w : World) (hb : BytesR w v []) (h1 : 1 ≤ room) (h2 : room ≤ 500) :
    Calls Tryz.prog 33 #[v, .int .i64 room] w fun e w' => e = .returned (.tuple #[.pointer none, .int .i64 3]) ∧ Ext w w' := by
  have HN := Lib.hid (tsNew room w w (Kp.refl _ _) h1 h2)
  have HR := Lib.hid (fun W (hW : Ext w W) => snapRead_nil v W (hb.ext hW))
  clear hb h1 h2
  go_enter Tryz.func33, Tryz.ntmps33
  go_wp2_with (fail)
  refine HN.out.mono ?_
  rintro e w1 ⟨b, m, rfl, _, hx1, _, _⟩
  have HX1 := Lib.hid hx1
  clear hx1 HN
  go_wp2_with (fail)
  refine (HR.out w1 HX1.out).mono ?_
  rintro e w2 ⟨b2, m2, u2, rfl, _, hx2⟩
  have HX2 := Lib.hid (HX1.out.trans hx2)
  clear hx2 HR
  go_wp2_with (fail)
  go_ret2
  exact ⟨rfl, HX2.out⟩
theorem okT_ents {L : RL} (h : EntsB L) : OkT L := by
  have hm : ∀ {p n}, mget L p = some n → (p, n) ∈ L := fun hp => mget_mem hp
  exact ⟨fun p n hp => h.good _ (hm hp), fun p n hp => (h.node _ (hm hp)).parts, h.few⟩
/-- What Get tells of a tree's bytes. -/
def GetPost (w : World) (room : Int) (K : Nat) (L : RL) (e : Ending) (w' : World) : Prop :=
  Ext w w' ∧ ((soundB L = false ∧ e = .returned (.tuple #[.pointer none, .int .i64 3])) ∨ (soundB L = true ∧ room < (L.length : Int) ∧ e = .returned (.tuple #[.pointer none, .int .i64 2])) ∨
    (soundB L = true ∧ (L.length : Int) ≤ room ∧ ∃ b m u, e = .returned (.tuple #[.pointer (some ⟨b, 0, none⟩), .int .i64 0]) ∧ TS w w' b m room K u ∧ (∀ p, mget (pl u) p = mget L p) ∧ (pl u).length = L.length))
def GtRel (w : World) (b m b1 m1 : Nat) (room : Int) (K : Nat) (t : Tr) (P : List Bs) (aS : Option Addr) (cS : Nat) (s43 : Value) (wr : World) : Prop :=
  ∃ (j : Nat) (u : Tr), j ≤ P.length ∧ s43 = .int .i64 j ∧ TS w wr b1 m1 500 K t ∧ TS w wr b m room K u ∧ Apart b m u b1 m1 t ∧ LaidTo (pl t) (pl u) P j ∧ wr.ownsRow 0 strT 1 (.slice aS P.length cS) P.length (P.map encStr)
set_option maxHeartbeats 12800000 in
theorem snapGet_enc (L : RL) (K : Nat) (v : Value) (room : Int) (w : World) (hG : GT w) (hb : BytesR w v (encL L)) (hE : EntsB L) (hNK : ∀ e ∈ L, NodeK K e.2) (hK : K ≤ 500) (hl : (encL L).length ≤ 1000000000) (h1 : 1 ≤ room) (h2 : room ≤ 500) :
    Calls Tryz.prog 33 #[v, .int .i64 room] w fun e w' => GetPost w room K L e w' := by
  have HN := Lib.hid (tsNew room w w (Kp.refl _ _) h1 h2)
  have HR := Lib.hid (fun W (hW : Ext w W) => snapRead_enc L K v W (hG.ext hW) (hb.ext hW) hE hNK hK hl)
  have HG := Lib.hid hG
  have HOK := Lib.hid (okT_ents hE)
  have HEB := Lib.hid hE
  have hfew := hE.few
  have HNK := Lib.hid hNK
  have HPOST : Hid (∀ e w', Ext w w' → ((soundB L = false ∧ e = .returned (.tuple #[.pointer none, .int .i64 3])) ∨ (soundB L = true ∧ room < (L.length : Int) ∧ e = .returned (.tuple #[.pointer none, .int .i64 2])) ∨
    (soundB L = true ∧ (L.length : Int) ≤ room ∧ ∃ b m u, e = .returned (.tuple #[.pointer (some ⟨b, 0, none⟩), .int .i64 0]) ∧ TS w w' b m room K u ∧ (∀ p, mget (pl u) p = mget L p) ∧ (pl u).length = L.length)) → GetPost w room K L e w') := fun e w' h1 h2 => ⟨h1, h2⟩
  clear hb hE hG hNK
  go_enter Tryz.func33, Tryz.ntmps33
  go_wp2_with (fail)
  refine HN.out.mono ?_
  rintro e w1 ⟨b, m, rfl, hu, hx1, _, _⟩
  have HU := Lib.hid hu
  have HX1 := Lib.hid hx1
  clear hu hx1 HN
  go_wp2_with (fail)
  refine (HR.out w1 HX1.out).mono ?_
  rintro e w2 ⟨b1, m1, t, rfl, ht, hpl, hx2⟩
  have HAP := Lib.hid (Apart.new (b' := b1) (m' := m1) HU.out.tr ht.tr (Nat.le_refl _))
  have HT : Hid (TS w w2 b1 m1 500 K t) := ⟨ht.tr.less HX1.out.size, ht.pk, HX1.out.trans ht.ex⟩
  have HU2 := Lib.hid (HU.out.ext hx2)
  have HPL := Lib.hid hpl
  have HX2 := Lib.hid (HX1.out.trans hx2)
  have HOKT : Hid (OkT (pl t)) := by show OkT _; rw [hpl]; exact HOK.out
  have HSD := Lib.hid (snapSound_any HT.out (HG.out.ext HX2.out) HOKT.out hK)
  rw [hpl] at HSD
  clear ht hpl hx2 HU HX1 HR
  cases hsd : soundB L with
  | false =>
    rw [hsd] at HSD
    have HS := Lib.hid hsd
    clear hsd
    go_wp2_with (fail)
    refine HSD.out.mono ?_
    rintro e w3 ⟨rfl, hx3⟩
    have HX3 := Lib.hid (HX2.out.trans hx3)
    clear hx3
    go_wp2_with (fail)
    go_ret2
    exact HPOST.out _ _ HX3.out (.inl ⟨HS.out, rfl⟩)
  | true =>
    rw [hsd] at HSD
    have HS := Lib.hid hsd
    clear hsd
    go_wp2_with (fail)
    refine HSD.out.mono ?_
    rintro e w3 ⟨rfl, hx3⟩
    have HX3 := Lib.hid (HX2.out.trans hx3)
    have HT3 := Lib.hid (HT.out.ext hx3)
    have HU3 := Lib.hid (HU2.out.ext hx3)
    have HLN := Lib.hid (tsLen HT3.out)
    rw [HPL.out] at HLN
    clear hx3 HT HU2 HX2 HSD
    go_wp2_with (fail)
    refine HLN.out.mono ?_
    rintro e w4 ⟨rfl, rfl⟩
    by_cases hrm : room < (L.length : Int)
    · have HRM := Lib.hid hrm
      go_wp2_with (fail)
      go_ret2
      exact HPOST.out _ _ HX3.out (.inr (.inl ⟨HS.out, HRM.out, rfl⟩))
    · have HRM : Hid ((L.length : Int) ≤ room) := by show _ ≤ _; omega
      have HP := Lib.hid (tsPathsO HT3.out HOKT.out)
      have HM : Hid (∀ x ∈ pathsP (pl t), ∃ n, mget (pl t) ⟨x.toArray⟩ = some n) := fun x hx => Option.ne_none_iff_exists'.1 (paths_mem.1 hx)
      have HIN : Hid (∀ q, mget (pl t) q ≠ none → q.data.toList ∈ pathsP (pl t)) := fun q hq => paths_mem.2 (by rw [bytes_self]; exact hq)
      have HND : Hid ((pathsP (pl t)).Nodup) := (pathsP_rising HT3.out.pk.1).imp fun {a b} h e => by rw [e] at h; exact List.lt_irrefl _ h
      have hPl : (pathsP (pl t)).length = L.length := by rw [pathsP_len, HPL.out]
      generalize pathsP (pl t) = P at HM HIN HND HP hPl
      have HPLN := Lib.hid hPl
      have hP500 : P.length ≤ 500 := by omega
      clear hPl HLN
      go_wp2_with (fail)
      refine HP.out.mono ?_
      rintro e wS ⟨vS, rfl, hoS, hxS⟩
      obtain ⟨aS, cS, rfl⟩ := owns_slice hoS
      have HTS := Lib.hid (HT3.out.ext hxS)
      have HUS := Lib.hid (HU3.out.ext hxS)
      have HOS := Lib.hid (own_less hoS (Nat.zero_le _))
      clear hoS hxS HT3 HU3 HP
      go_wp2_with (fail)
      go_loopw [43] (fun s43 wr => GtRel w b m b1 m1 room K t P aS cS s43 wr) (fun s43 _ => P.length - (intOf s43).toNat)
      case atStart => exact ⟨0, [], Nat.zero_le _, rfl, HTS.out, ⟨HUS.out.tr, HUS.out.pk.mono (Nat.zero_le _), HUS.out.ex⟩, HAP.out, LaidTo.nil _ _, HOS.out⟩
      case round =>
        clear HTS HUS HOS HAP
        obtain ⟨j, u, hj, rfl, ht, hu, hap, hla, hos⟩ := hrel
        have HT := Lib.hid ht
        have HU := Lib.hid hu
        have HAP := Lib.hid hap
        have HLA := Lib.hid hla
        have HOS := Lib.hid hos
        clear ht hu hap hla hos
        by_cases hlj : j < P.length
        · obtain ⟨_, _, hsl, hop⟩ := strs_open HOS.out
          simp only [Value.slice.injEq, true_and] at hsl
          obtain ⟨rfl, rfl⟩ := hsl
          obtain ⟨g5, off5, rfl, hcl⟩ := hop (by omega)
          have hc := hcl j hlj
          obtain ⟨n, hn⟩ := HM.out _ (List.getElem_mem hlj)
          obtain ⟨x, hx⟩ : ∃ x, P[j] = x := ⟨_, rfl⟩
          rw [hx] at hc hn
          obtain ⟨p, hp⟩ : ∃ p : ByteArray, ⟨x.toArray⟩ = p := ⟨_, rfl⟩
          have hpx : p.data.toList = P[j] := by rw [hx, ← hp]
          unfold encStr at hc
          rw [hp] at hc hn
          have hfr := HLA.out.fresh HND.out hlj hpx
          have HNX := Lib.hid (HLA.out.step HND.out hlj hpx hn)
          have hnL : mget L p = some n := by rw [← HPL.out]; exact hn
          have hmem := mget_mem hnL
          have hnb := HEB.out.node _ hmem
          have hup := HEB.out.up _ hmem
          have hnk := HNK.out _ hmem
          have hgp := HEB.out.good _ hmem
          have hnm : Named n.names := named_of hnb.parts.2.2.2 hup hnb.few
          have hps := path_small p hgp
          have hnode : nodeP (pl t) p = (n, true) := by unfold nodeP; rw [hn]
          have HN := Lib.hid (by have := tsNode HT.out (by omega) p; rw [hnode] at this; exact this)
          have HLD : Hid (∀ W (hW : TS w W b m room K u) nv, NmS W nv n.names → Calls Tryz.prog 24 #[.pointer (some ⟨b, 0, none⟩), .string p, .agg (ndA n nv)] W fun e w' => ∃ t', e = .returned (.int .i64 0) ∧ TS w w' b m room K t' ∧ pl t' = mset (pl u) p n ∧ Kp (nodeFr m u) W w' ∧ Fresh W u t') := fun W hW nv hnv => by
            have := tsLoad hW HG.out (by omega) p n nv true (by omega) hnv hnk (fun s hs => by have := name_len (hnb.parts.2.2.2 s hs); omega) ⟨fun _ => ⟨hgp, hnm⟩, fun _ => rfl⟩
            rw [loadP_yes hfr (by have h1 := HLA.out.len; have h2 := HRM.out; have h3 := HPLN.out; omega), ndLoad_same hnb.parts] at this
            exact this
          clear hcl hop hx hp hpx hfr hnL hmem hnb hup hnk hgp hnm hps hnode hn
          go_wp2_with (fail)
          refine HN.out.mono ?_
          rintro e w6 ⟨nv6, rfl, ho6, ht6, hx6⟩
          obtain ⟨a6, c6, rfl⟩ := owns_slice ho6
          obtain ⟨wC, hWC⟩ : ∃ wC, w6.alloc (.cells #[.int .i64 n.made, .int .i64 n.chg, .int .i64 n.ver, .int .i64 n.kids, .int .i64 n.own, .int .i64 n.len, .int .i64 n.cnt, .string n.data, .int .i64 n.next, .slice a6 n.names.length c6] ndT) = wC := ⟨_, rfl⟩
          have hxC : Ext w6 wC := by rw [← hWC]; exact (Kp.refl _ _).alloc _
          have hC : Blk wC w6.heap.size #[.int .i64 n.made, .int .i64 n.chg, .int .i64 n.ver, .int .i64 n.kids, .int .i64 n.own, .int .i64 n.len, .int .i64 n.cnt, .string n.data, .int .i64 n.next, .slice a6 n.names.length c6] ndT := by rw [← hWC]; exact heap_alloc_new w6 _
          have hrC : Ext wr wC := hx6.trans hxC
          have HUC := Lib.hid (HU.out.ext hrC)
          have HTC := Lib.hid (ht6.ext hxC)
          have HOC := Lib.hid (ownsRow.ext HOS.out hrC)
          have HLC := Lib.hid (HLD.out wC HUC.out (.slice a6 n.names.length c6) (names_own (ownsRow.ext ho6 hxC)))
          have HWC := Lib.hid hWC
          have d0 := hC.cell 0 _ rfl
          have d1 := hC.cell 1 _ rfl
          have d2 := hC.cell 2 _ rfl
          have d3 := hC.cell 3 _ rfl
          have d4 := hC.cell 4 _ rfl
          have d5 := hC.cell 5 _ rfl
          have d6 := hC.cell 6 _ rfl
          have d7 := hC.cell 7 _ rfl
          have d8 := hC.cell 8 _ rfl
          have d9 := hC.cell 9 _ rfl
          clear hWC hC hxC hrC ho6 ht6 hx6 HN HLD
          unfold ndA
          unfold ndA at HLC
          go_upto_region 13 with (fail)
          rw [HWC.out]
          clear HWC
          go_wp2_with (fail)
          refine HLC.out.mono ?_
          rintro e w7 ⟨u7, rfl, hu7, hp7, hk7, hf7⟩
          have HT7 := Lib.hid (TS.other HAP.out HUC.out HTC.out hk7)
          have HAP7 := Lib.hid (HAP.out.step HTC.out.tr hf7)
          have HO7 := Lib.hid (owns_kpT HOC.out hk7 (HUC.out.tr.noT (by decide)))
          have HLA7 : Hid (LaidTo (pl t) (pl u7) P (j + 1)) := by show LaidTo _ _ _ _; rw [hp7]; exact HNX.out
          have HU7 := Lib.hid hu7
          clear d0 d1 d2 d3 d4 d5 d6 d7 d8 d9 hu7 hp7 hk7 hf7 HLC HU HT HAP HLA HOS HUC HTC HOC hc
          go_wp2_with (fail)
          go_light
          refine ⟨⟨j + 1, u7, ?_, ?_, HT7.out, HU7.out, HAP7.out, HLA7.out, HO7.out⟩, ?_⟩
          · omega
          · go_num
          · simp [intOf]; omega
        · have hjl : j = P.length := by omega
          have hsame : ∀ p, mget (pl u) p = mget L p := fun p => by rw [← HPL.out]; exact HLA.out.all hjl HIN.out p
          have hlen : (pl u).length = L.length := by rw [HLA.out.len, hjl]; exact HPLN.out
          have HF := Lib.hid (And.intro hsame hlen)
          clear hjl hsame hlen
          go_wp2_with (fail)
          go_ret2
          exact HPOST.out _ _ HU.out.ex (.inr (.inr ⟨HS.out, HRM.out, b, m, u, rfl, HU.out, HF.out.1, HF.out.2⟩))
end Go.Proofs.YtjapjpigpakejaaGreatDoor

/- Walks of package aviarylaw14: long, grown, awake. -/
namespace Go.Proofs.YtjapjpigpakejaaGreatDoor
set_option maxRecDepth 100000
open Go.RowKit Av

def LongPost (w : World) (xs : List OpV) (e : Ending) (w' : World) : Prop := ∃ r : Bool, e = .returned (.bool r) ∧ (r = false → xs.length ≤ 20 ∧ ∀ k (hk : k < xs.length), xs[k].path.size ≤ 300 ∧ xs[k].data.size ≤ 1100) ∧ w = w'
def LongRel (w : World) (xs : List OpV) (s3 : Value) (wr : World) : Prop := ∃ k : Nat, k ≤ xs.length ∧ s3 = .int .i64 k ∧ (∀ j (hj : j < xs.length), j < k → xs[j].path.size ≤ 300 ∧ xs[j].data.size ≤ 1100) ∧ w = wr
theorem long_any (v : Value) (xs : List OpV) (w : World) (h : OpsAt w v xs) :
    Calls Tryz.prog 37 #[v] w fun e w' => LongPost w xs e w' := by
  obtain ⟨a, c, rfl, _, hm, hop⟩ := OpsAt.open h
  have HOP := Lib.hid hop
  clear h hop
  by_cases h20 : xs.length ≤ 20
  · have h20' : ¬ (20 : Int) < (xs.length : Int) := by omega
    go_enter Tryz.func37, Tryz.ntmps37
    go_wp2_with (fail)
    go_loopw [3] (fun s3 wr => LongRel w xs s3 wr) (fun i _ => xs.length - (intOf i).toNat)
    case atStart => exact ⟨0, Nat.zero_le _, rfl, fun j _ hj => absurd hj (by omega), rfl⟩
    case round =>
      obtain ⟨k, hk, rfl, hall, rfl⟩ := hrel
      have HALL := Lib.hid hall
      clear hall
      by_cases hlt : k < xs.length
      · obtain ⟨b, off, rfl, _, hc⟩ := HOP.out (by omega)
        obtain ⟨q0, q1, q2, q3, q4⟩ := hc k hlt
        have HST : Hid (xs[k].path.size ≤ 300 → xs[k].data.size ≤ 1100 → ∀ j (hj : j < xs.length), j < k + 1 → xs[j].path.size ≤ 300 ∧ xs[j].data.size ≤ 1100) := fun h1 h2 j hj hjk => by
          by_cases e : j = k
          · subst e; exact ⟨h1, h2⟩
          · exact HALL.out j hj (by omega)
        generalize xs[k].path = p at *
        generalize xs[k].data = d at *
        clear hc q0 q3 q4
        by_cases h1 : p.size ≤ 300
        · have t1 : ¬ (300 : Int) < (p.size : Int) := by omega
          by_cases h2 : d.size ≤ 1100
          · have t2 : ¬ (1100 : Int) < (d.size : Int) := by omega
            have HS := Lib.hid (HST.out h1 h2)
            clear HST
            go_wp2_with (fail)
            go_light
            refine ⟨⟨k + 1, ?_, ?_, HS.out, rfl⟩, ?_⟩
            · omega
            · go_num
            · simp [intOf]; omega
          · have t2 : (1100 : Int) < (d.size : Int) := by omega
            go_wp2_with (fail)
            go_ret
            exact ⟨true, rfl, fun h => (by cases h), rfl⟩
        · have t1 : (300 : Int) < (p.size : Int) := by omega
          go_wp2_with (fail)
          go_ret
          exact ⟨true, rfl, fun h => (by cases h), rfl⟩
      · have HF : Hid (∀ j (hj : j < xs.length), xs[j].path.size ≤ 300 ∧ xs[j].data.size ≤ 1100) := fun j hj => HALL.out j hj (by omega)
        clear HALL
        go_wp2_with (fail)
        go_ret
        exact ⟨false, rfl, fun _ => ⟨h20, HF.out⟩, rfl⟩
  · have h20' : (20 : Int) < (xs.length : Int) := by omega
    go_enter Tryz.func37, Tryz.ntmps37
    go_wp2_with (fail)
    go_ret
    exact ⟨true, rfl, fun h => (by cases h), rfl⟩
/-- What is known of a tree that ops have made. -/
structure GoodS (room : Int) (P : Pt) : Prop where
  snd : SoundP room P
  free : PtN P
  parts : AllN PartsOk P
  num : AllN NumOk P
theorem GoodS.nil {room : Int} (h : 0 ≤ room) : GoodS room [] := ⟨SoundP.nil h, fun e he => by (cases he), AllN.nil _, AllN.nil _⟩
theorem GoodS.step {room : Int} {P : Pt} (h : GoodS room P) {K : Nat} (hk : PtK K P) (o : OpV) {sess z : Int} (hs : I64 sess) (hz : I64 z) : GoodS room (doP room P o sess z false).1 :=
  ⟨h.snd.doP hk h.free _ _ _, h.free.doP _ _ _ _ _, h.parts.doP (partsOk_inv o sess z) _ _, h.num.doP (numOk_inv o hs hz) _ _⟩
theorem GoodS.ok {room : Int} {P : Pt} (h : GoodS room P) (hr : room ≤ 500) : OkT P := okT_of h.snd h.parts hr
theorem GoodS.ents {room : Int} {P : Pt} (h : GoodS room P) {K : Nat} (hk : PtK K P) (hK : K ≤ 500) (hr : room ≤ 500) : EntsB (ownL P) := entsB_of h.snd hk hK hr h.num h.parts
theorem own_nk {P : Pt} {K : Nat} (hk : PtK K P) : ∀ e ∈ ownL P, NodeK K e.2 := fun e he => by
  have h1 := mget_of_mem (rise_nodup (own_sorted hk.1).rise) (k := e.1) he
  rw [(own_sorted hk.1).get] at h1
  exact hk.2 _ (mget_mem h1)
theorem encL_small {P : Pt} {K : Nat} (hk : PtK K P) (hK : K ≤ 500) (h : OkT P) : (encL (ownL P)).length ≤ 1000000000 := by
  have h1 := encEs_len (L := ownL P) (fun e he => by
    have h1 := mget_of_mem (rise_nodup (own_sorted hk.1).rise) (k := e.1) he
    rw [(own_sorted hk.1).get] at h1
    have h2 := h.parts _ _ h1
    exact encE_len (path_small _ (h.good _ _ h1)) h2.2.2.1 (fun x hx => name_len (h2.2.2.2 x hx)) (Nat.le_trans (own_nk hk e he).few hK))
  have h2 : (ownL P).length * 31000 ≤ 500 * 31000 := Nat.mul_le_mul (by rw [own_len]; exact h.size) (Nat.le_refl _)
  unfold encL
  rw [List.length_append, be8_len]
  omega
/-- A tree's bytes, read by one of as much room. -/
theorem sound_own {room : Int} {P : Pt} {K : Nat} (h : GoodS room P) (hk : PtK K P) : soundB (ownL P) = true := by
  have hg := (own_sorted hk.1).get
  have hn := rise_nodup (own_sorted hk.1).rise
  have hk2 : PtK K (ownL P) := hk.same hn hg
  refine sound_yes (h.snd.same_get hg (by rw [own_len]; exact h.snd.size)) hk2 (fun e he x hx => ?_)
  have h1 := mget_of_mem hn (k := e.1) he
  rw [hg] at h1
  exact h.free _ (mget_mem h1) x hx
def GrRel (w : World) (xs : List OpV) (b m : Nat) (s7 : Value) (wr : World) : Prop := ∃ (i : Nat) (t : Tr), i ≤ xs.length ∧ s7 = .int .i64 i ∧ TS w wr b m 60 i t ∧ GoodS 60 (pl t)
def GrownPost (w : World) (e : Ending) (w' : World) : Prop := Ext w w' ∧ (e = .returned (.pointer none) ∨ ∃ b m t, e = .returned (.pointer (some ⟨b, 0, none⟩)) ∧ TS w w' b m 60 20 t ∧ GoodS 60 (pl t))
set_option maxHeartbeats 3200000 in
theorem grown_any (v : Value) (xs : List OpV) (w : World) (hG : GT w) (h : OpsAt w v xs) :
    Calls Tryz.prog 36 #[v, .int .i64 60] w fun e w' => GrownPost w e w' := by
  have HLG := Lib.hid (long_any v xs w h)
  obtain ⟨a, c, rfl, _, hm, hop⟩ := OpsAt.open h
  have HOP := Lib.hid hop
  have HG := Lib.hid hG
  clear h hop hG
  go_enter Tryz.func36, Tryz.ntmps36
  go_wp2_with (fail)
  refine HLG.out.mono ?_
  rintro e w1 ⟨r, rfl, hr, rfl⟩
  have HR := Lib.hid hr
  clear hr HLG
  cases r with
  | true =>
    go_wp2_with (fail)
    go_ret
    exact ⟨Kp.refl _ _, .inl rfl⟩
  | false =>
    obtain ⟨h20, hsm⟩ := HR.out rfl
    have HSM := Lib.hid hsm
    clear hsm HR
    go_wp2_with (fail)
    refine (tsNew 60 w w (Kp.refl _ _) (by omega) (by omega)).mono ?_
    rintro e w1 ⟨b, m, rfl, h1, hx1, _, _⟩
    have H1 := Lib.hid h1
    clear h1 hx1
    go_wp2_with (fail)
    go_loopw [7] (fun s7 wr => GrRel w xs b m s7 wr) (fun s7 _ => xs.length - (intOf s7).toNat)
    case atStart => exact ⟨0, [], Nat.zero_le _, rfl, H1.out, GoodS.nil (by omega)⟩
    case round =>
      clear H1
      obtain ⟨i, t, hi, rfl, hts, hgt⟩ := hrel
      have HT := Lib.hid hts
      have HGT := Lib.hid hgt
      clear hts hgt
      by_cases hlt : i < xs.length
      · obtain ⟨g, off, rfl, _, hc⟩ := HOP.out (by omega)
        obtain ⟨q0, q1, q2, q3, q4⟩ := hc i hlt
        have c0 := HT.out.ex.cell q0 (fun f => f)
        have c1 := HT.out.ex.cell q1 (fun f => f)
        have c2 := HT.out.ex.cell q2 (fun f => f)
        have c3 := HT.out.ex.cell q3 (fun f => f)
        have c4 := HT.out.ex.cell q4 (fun f => f)
        obtain ⟨hs1, hs2⟩ := HSM.out i hlt
        have HD := Lib.hid (tsDo HT.out HG.out (by omega) xs[i] 1 (i : Int) (by omega) (by omega))
        have HST := Lib.hid (HGT.out.step HT.out.pk xs[i] (sess := 1) (z := (i : Int)) ⟨by omega, by omega⟩ ⟨by omega, by omega⟩)
        generalize xs[i] = o at *
        obtain ⟨ok, op, od, ov, of⟩ := o
        simp only at c0 c1 c2 c3 c4 HD
        clear hc q0 q1 q2 q3 q4 hs1 hs2
        go_wp2_with (fail)
        refine HD.out.mono ?_
        rintro e w4 ⟨t', nv', rfl, _, h4, hp4, _, _⟩
        have HT4 := Lib.hid h4
        have HG4 : Hid (GoodS 60 (pl t')) := by show GoodS _ _; rw [hp4]; exact HST.out
        clear h4 hp4 HD HST c0 c1 c2 c3 c4
        go_wp2_with (fail)
        go_light
        refine ⟨⟨i + 1, t', ?_, ?_, HT4.out, HG4.out⟩, ?_⟩
        · omega
        · go_num
        · simp [intOf]; omega
      · have HT2 : Hid (TS w wr b m 60 20 t) := ⟨HT.out.tr, HT.out.pk.mono (by omega), HT.out.ex⟩
        go_wp2_with (fail)
        go_ret
        exact ⟨HT2.out.ex, .inr ⟨b, m, t, rfl, HT2.out, HGT.out⟩⟩
theorem ownL_nil : ownL [] = [] := List.length_eq_zero_iff.1 (by rw [own_len]; rfl)
theorem enc_nil : encL (ownL []) = be8 0 := by rw [ownL_nil]; unfold encL; simp
set_option maxHeartbeats 3200000 in
theorem snapAwake_any (w : World) (hG : GT w) : Calls Tryz.prog 32 #[] w fun e w' => e = .returned (.bool true) ∧ Ext w w' := by
  have HG := Lib.hid hG
  clear hG
  go_enter Tryz.func32, Tryz.ntmps32
  go_wp2_with (fail)
  refine (tsNew 5 w w (Kp.refl _ _) (by omega) (by omega)).mono ?_
  rintro e w1 ⟨b, m, rfl, h1, hx1, _, _⟩
  have hg0 : GoodS 5 (pl ([] : Tr)) := GoodS.nil (by omega)
  have HOK := Lib.hid (hg0.ok (by omega))
  have HPUT := Lib.hid (snapPut_any h1 HOK.out (by omega))
  have H1 := Lib.hid h1
  clear h1 hx1
  go_wp2_with (fail)
  refine HPUT.out.mono ?_
  rintro e w2 ⟨v2, rfl, ho2, hx2⟩
  have H2 := Lib.hid (H1.out.ext hx2)
  have hpk : PtK 0 (pl ([] : Tr)) := H1.out.pk
  have hGE := snapGet_enc (ownL (pl ([] : Tr))) 0 v2 5 w2 (HG.out.ext H2.out.ex) ho2.bytes (hg0.ents hpk (by omega) (by omega)) (own_nk hpk) (by omega) (encL_small hpk (by omega) HOK.out) (by omega) (by omega)
  have HGE := Lib.hid hGE
  have hsd := sound_own hg0 hpk
  have HSD := Lib.hid hsd
  have hln : (ownL (pl ([] : Tr))).length = 0 := by rw [own_len]; rfl
  have HLN := Lib.hid hln
  rw [show pl ([] : Tr) = [] from rfl, enc_nil] at ho2
  have ho2' : w2.ownsRow w1.heap.size 5 1 v2 8 ((be8 0).map byteV) := by
    have h3 : w2.ownsRow w1.heap.size 5 1 v2 (be8 0).length ((be8 0).map byteV) := ho2
    rw [be8_len] at h3
    exact h3
  obtain ⟨a2, c2, rfl⟩ := owns_slice ho2'
  clear ho2 ho2' hx2 hGE hsd hln HPUT H1
  go_wp2_with (fail)
  refine HGE.out.mono ?_
  rintro e w3 ⟨hx3, hcase⟩
  rcases hcase with ⟨hf, _⟩ | ⟨_, hr, _⟩ | ⟨_, _, b', m', u, rfl, hu, hget, hlen⟩
  · rw [HSD.out] at hf; cases hf
  · rw [HLN.out] at hr; omega
  · have H3 := Lib.hid (H2.out.ext hx3)
    have HU : Hid (TS w w3 b' m' 5 0 u) := ⟨hu.tr.less H2.out.ex.size, hu.pk, H2.out.ex.trans hx3⟩
    have hul : (pl u).length = 0 := by rw [hlen]; exact HLN.out
    have hunil : pl u = [] := List.length_eq_zero_iff.1 hul
    have HLU := Lib.hid (tsLen HU.out)
    rw [hul] at HLU
    have HOU : Hid (OkT (pl u)) := by show OkT _; rw [hunil]; exact HOK.out
    have HSM := Lib.hid (snapSame_any H3.out HU.out HOK.out HOU.out (by omega) (by omega))
    rw [decide_eq_true (show ownL (pl ([] : Tr)) = ownL (pl u) by rw [hunil]; rfl)] at HSM
    clear hx3 hu hget hlen hul hunil HGE H2
    go_wp2_with (fail)
    refine HLU.out.mono ?_
    rintro e w4 ⟨rfl, rfl⟩
    go_wp2_with (fail)
    refine HSM.out.mono ?_
    rintro e w5 ⟨rfl, hx5⟩
    have HX5 := Lib.hid (H3.out.ex.trans hx5)
    clear hx5
    go_wp2_with (fail)
    go_ret
    exact ⟨rfl, HX5.out⟩
end Go.Proofs.YtjapjpigpakejaaGreatDoor
