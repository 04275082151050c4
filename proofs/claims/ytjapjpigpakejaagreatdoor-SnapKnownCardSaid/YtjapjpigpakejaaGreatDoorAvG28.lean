/- Texts put together: AvWBytes, AvTreeU, AvCut, AvDagApp. -/
import Derived.Test.YtjapjpigpakejaaGreatDoorAvG4
import Derived.Test.YtjapjpigpakejaaGreatDoorAvHWStatB
import Derived.Test.YtjapjpigpakejaaGreatDoorAvG27
import Derived.Deep.RegionHeld3
import Derived.Test.YtjapjpigpakejaaGreatDoorAvG26
import Derived.Test.YtjapjpigpakejaaGreatDoorAvHSound
import Derived.Test.YtjapjpigpakejaaGreatDoorAvG3
import Derived.Test.YtjapjpigpakejaaGreatDoorAvHDag

/- Walks: a node in bytes: stat.Put. -/
namespace Go.Proofs.YtjapjpigpakejaaGreatDoor
set_option maxRecDepth 100000
open Go.RowKit Av

theorem txt_size (s : Bs) : (txt s).length = 8 + s.length := by unfold txt; rw [List.length_append, be8_len]
/-- Text, I64, All behind what a call owns. -/
theorem wr_text (v : Value) (bs : Bs) (s : ByteArray) (w0 w : World) (base : Nat) (hb : OwnBy w base v bs) (hx : Ext w0 w) (hl : bs.length ≤ 10000000) (hs : s.size ≤ 10000000) (hbase : base ≤ w.heap.size) :
    Calls Tryz.prog 63 #[v, .string s] w fun e w' => ∃ v, e = .returned v ∧ OwnBy w' base v (bs ++ txt s.data.toList) ∧ Ext w0 w' ∧ base ≤ w'.heap.size ∧ (bs ++ txt s.data.toList).length = bs.length + 8 + s.size :=
  (packText_any v bs s w hb.bytes (by omega) (by omega)).mono fun _ _ ⟨v, h1, h2, h3⟩ => ⟨v, h1, h2.low hbase, hx.ext h3, by have := h3.size; omega, by rw [List.length_append, txt_size, ← Lib.size_eq]; omega⟩
theorem wr_i64 (v : Value) (bs : Bs) (z : Int) (w0 w : World) (base : Nat) (hb : OwnBy w base v bs) (hx : Ext w0 w) (hl : bs.length ≤ 20000000) (hbase : base ≤ w.heap.size) :
    Calls Tryz.prog 62 #[v, .int .i64 z] w fun e w' => ∃ v, e = .returned v ∧ OwnBy w' base v (bs ++ be8 z) ∧ Ext w0 w' ∧ base ≤ w'.heap.size ∧ (bs ++ be8 z).length = bs.length + 8 :=
  (packI64_any v bs z w hb.bytes (by omega)).mono fun _ _ ⟨v, h1, h2, h3⟩ => ⟨v, h1, h2.low hbase, hx.ext h3, by have := h3.size; omega, by rw [List.length_append, be8_len]⟩
theorem wr_all (v : Value) (bs : Bs) (zs : List Int) (w : World) (hb : BytesR w v bs) (hl : bs.length ≤ 10000000) (hn : zs.length ≤ 1000) :
    Calls Tryz.prog 93 #[v, .slice (some ⟨w.heap.size, 0, none⟩) zs.length zs.length] (w.alloc (.cells (zs.map (Value.int .i64)).toArray 2)) fun e w' => ∃ v, e = .returned v ∧ OwnBy w' w.heap.size v (bs ++ zs.flatMap be8) ∧ Ext w w' := by
  have hx : Ext w (w.alloc (.cells (zs.map (Value.int .i64)).toArray 2)) := (Kp.refl _ w).alloc _
  refine (packAll_any v _ bs zs _ (hb.ext hx) hl (Sl.of_block (heap_alloc_new w _) (by simp) (by unfold maxLen; omega) (Nat.le_refl _)) hn).mono ?_
  rintro e w' ⟨v', rfl, h2, h3⟩
  exact ⟨v', rfl, h2.low (by simp), hx.ext h3⟩
theorem txts_len {K : Nat} {l : List Bs} (h : ∀ s ∈ l, s.length ≤ K) : (l.flatMap txt).length ≤ l.length * (8 + K) := by
  induction l with
  | nil => simp
  | cons a l ih =>
    have h1 := ih (fun s hs => h s (by simp [hs]))
    have h2 := h a (by simp)
    rw [List.flatMap_cons, List.length_append, txt_size, List.length_cons, Nat.succ_mul]
    omega
def PutNRel (w : World) (base : Nat) (pre : Bs) (xs : List Bs) (o i : Value) (wr : World) : Prop :=
  ∃ k : Nat, k ≤ xs.length ∧ i = .int .i64 k ∧ OwnBy wr base o (pre ++ (xs.take k).flatMap txt) ∧ Ext w wr
set_option maxHeartbeats 3200000 in
theorem statPut_any (n : NodeV) (nv : Value) (w : World) (hn : NmS w nv n.names) (hd : n.data.size ≤ 100000) (hl : n.names.length ≤ 1000) (hs : ∀ s ∈ n.names, s.length ≤ 1000) :
    Calls Tryz.prog 64 #[.agg (ndA n nv)] w fun e w' => ∃ v, e = .returned v ∧ OwnBy w' w.heap.size v (encN n) ∧ Ext w w' := by
  obtain ⟨a, c, rfl, hcc, hm, _, hop⟩ := Sl.open hn.1
  obtain ⟨wA, hWA⟩ : ∃ wA, w.alloc (.cells (ndA n (.slice a n.names.length c)) ndT) = wA := ⟨_, rfl⟩
  have hxA : Ext w wA := by rw [← hWA]; exact (Kp.refl _ _).alloc _
  have hA : Blk wA w.heap.size (ndA n (.slice a n.names.length c)) ndT := by rw [← hWA]; exact heap_alloc_new w _
  have HSZ : Hid (w.heap.size < wA.heap.size) := hA.lt
  have HBX : Hid (∀ W, Ext wA W → W.cell? ⟨w.heap.size, 7, none⟩ = some (.string n.data) ∧ W.cell? ⟨w.heap.size, 9, none⟩ = some (.slice a n.names.length c)) := fun W hW =>
    ⟨(hA.kp hW (fun f => f)).cell 7 _ rfl, (hA.kp hW (fun f => f)).cell 9 _ rfl⟩
  have HOP : Hid (∀ W, Ext w W → 0 < n.names.length → ∃ g off, a = some ⟨g, off, none⟩ ∧ ∀ k (hk : k < n.names.length), W.cell? ⟨g, off + k, none⟩ = some (.string ⟨n.names[k].toArray⟩)) := fun W hW h0 => by
    obtain ⟨g, off, e, _, hc⟩ := hop h0
    exact ⟨g, off, e, fun k hk => hW.cell (hc k (.string ⟨n.names[k].toArray⟩) (by rw [List.getElem?_map, List.getElem?_eq_getElem hk]; rfl)) (fun f => f)⟩
  have HXA := Lib.hid hxA
  have HS := Lib.hid hs
  have HE : Hid (encN n = (([n.made, n.chg, n.ver, n.kids, n.own, n.next] : List Int).flatMap be8 ++ txt n.data.data.toList ++ be8 (n.names.length : Int)) ++ n.names.flatMap txt) := by
    show _ = _
    unfold encN
    simp only [List.flatMap_cons, List.flatMap_nil, List.append_assoc, List.append_nil]
  generalize encN n = R at HE ⊢
  unfold ndA at hA hWA ⊢
  have HWA := Lib.hid hWA
  have d0 := hA.cell 0 _ rfl
  have d1 := hA.cell 1 _ rfl
  have d2 := hA.cell 2 _ rfl
  have d3 := hA.cell 3 _ rfl
  have d4 := hA.cell 4 _ rfl
  have d5 := hA.cell 5 _ rfl
  have d6 := hA.cell 6 _ rfl
  have d7 := hA.cell 7 _ rfl
  have d8 := hA.cell 8 _ rfl
  have d9 := hA.cell 9 _ rfl
  clear hWA hxA hA hn hop hs
  go_enter Tryz.func64, Tryz.ntmps64
  go_upto_region 1 with (fail)
  rw [HWA.out]
  go_wp2_with (fail)
  refine (wr_all _ [] [n.made, n.chg, n.ver, n.kids, n.own, n.next] wA (BytesR.nil _) (by simp) (by simp)).mono ?_
  rintro e w1 ⟨v1, rfl, h1, hx1⟩
  rw [List.nil_append] at h1
  have hpl : (([n.made, n.chg, n.ver, n.kids, n.own, n.next] : List Int).flatMap be8).length = 48 := by simp [be8_len]
  obtain ⟨pre, hpre⟩ : ∃ p, (([n.made, n.chg, n.ver, n.kids, n.own, n.next] : List Int).flatMap be8) = p := ⟨_, rfl⟩
  rw [hpre] at h1 HE hpl
  have h1' : OwnBy w1 w.heap.size v1 pre := h1.low (Nat.le_of_lt HSZ.out)
  have hb1 : w.heap.size ≤ w1.heap.size := by have := HSZ.out; have := hx1.size; omega
  clear d0 d1 d2 d3 d4 d5 d6 d7 d8 d9 h1 hpre HWA
  obtain ⟨f7, f9⟩ := HBX.out w1 hx1
  have HT := Lib.hid (fun v bs s W hb hx hl hs hbase => wr_text v bs s wA W w.heap.size hb hx hl hs hbase)
  have HI := Lib.hid (fun v bs z W hb hx hl hbase => wr_i64 v bs z wA W w.heap.size hb hx hl hbase)
  go_upto_region 2 with (fail)
  go_wp2_with (fail)
  have h1d := OwnBy.ext h1' (Kp.refl (fun _ => False) w1).drew
  have hx1d := hx1.drew
  have hb1d : w.heap.size ≤ w1.drew.heap.size := hb1
  go_region_held3 (fun w' => w'.cell? ⟨w.heap.size, 7, none⟩ = some (.string n.data) ∧ w'.cell? ⟨w.heap.size, 9, none⟩ = some (.slice a n.names.length c) ∧ Ext wA w')
    ((refine (fun hE => And.intro (HBX.out _ hE).1 (And.intro (HBX.out _ hE).2 hE)) ?_; first | exact hx1d | assumption))
    (first
      | (go_at_call 63; refine (HT.out _ _ _ _ (by assumption) (by assumption) (by omega) (by omega) (by assumption)).mono ?_; rintro e w' ⟨v', rfl, h', hx', hb', hl'⟩)
      | (go_at_call 62; refine (HI.out _ _ _ _ (by assumption) (by assumption) (by omega) (by assumption)).mono ?_; rintro e w'' ⟨v'', rfl, h'', hx'', hb'', hl''⟩))
  obtain ⟨g7, g9⟩ := HBX.out _ hx''
  have HX2 := Lib.hid (HXA.out.trans hx'')
  obtain ⟨P, hP⟩ : ∃ P, pre ++ txt n.data.data.toList ++ be8 (n.names.length : Int) = P := ⟨_, rfl⟩
  have hPl : P.length ≤ 200000 := by rw [← hP]; omega
  rw [hP] at h'' HE
  have HO2 : Hid (OwnBy w'' w.heap.size v'' (P ++ (n.names.take 0).flatMap txt)) := by
    show OwnBy _ _ _ _
    simpa using h''
  clear hP h'' hx'' hb'' hl'' hpl h1' hx1 hb1 h1d hx1d hb1d f7 f9 h' hx' hb' hl' HT HI HBX HXA
  go_wp2_with (fail)
  go_loopw [3, 36] (PutNRel w'' w.heap.size P n.names) (fun _ i _ => n.names.length - (intOf i).toNat)
  case atStart => exact ⟨0, Nat.zero_le _, rfl, HO2.out, Kp.refl _ _⟩
  case round =>
    clear HO2 g7 g9
    obtain ⟨k, hk, rfl, hown, hx⟩ := hrel
    have hlen : (P ++ (n.names.take k).flatMap txt).length ≤ 10000000 := by
      have h1 := txts_len (K := 1000) (l := n.names.take k) (fun s hs => HS.out s (List.mem_of_mem_take hs))
      have h2 : (n.names.take k).length * (8 + 1000) ≤ 1000 * 1008 := Nat.mul_le_mul (by rw [List.length_take]; omega) (by omega)
      rw [List.length_append]
      omega
    have HX := Lib.hid hx
    have HO := Lib.hid hown
    by_cases hlt : k < n.names.length
    · obtain ⟨g, off, rfl, hcl⟩ := HOP.out _ (HX2.out.trans hx) (by omega)
      have hc := hcl k hlt
      have HN : Hid (P ++ (n.names.take (k + 1)).flatMap txt = P ++ (n.names.take k).flatMap txt ++ txt n.names[k]) := by
        show _ = _
        rw [List.take_succ_eq_append_getElem hlt, List.flatMap_append, List.flatMap_singleton, List.append_assoc]
      have hsz : n.names[k].length ≤ 1000 := HS.out _ (List.getElem_mem hlt)
      have HC := Lib.hid (packText_any _ _ ⟨n.names[k].toArray⟩ wr (OwnBy.bytes hown) (by omega) (by rw [Lib.size_eq]; simp; omega))
      clear hcl hown hx
      go_wp2_with (fail)
      refine HC.out.mono ?_
      rintro e w3 ⟨v3, rfl, h3, hx3⟩
      have h3' : OwnBy w3 w.heap.size v3 (P ++ (n.names.take (k + 1)).flatMap txt) := by
        rw [HN.out]
        exact h3.low ((HX2.out.trans HX.out).size)
      have HO3 := Lib.hid h3'
      have HX3 := Lib.hid (HX.out.trans hx3)
      clear h3 h3' hx3 HC
      go_wp2_with (fail)
      go_light
      refine ⟨⟨k + 1, ?_, ?_, HO3.out, HX3.out⟩, ?_⟩
      · omega
      · go_num
      · simp [intOf]; omega
    · have hke : n.names.take k = n.names := List.take_of_length_le (by omega)
      rw [hke] at HO
      clear hown hx hke
      go_wp2_with (fail)
      go_ret
      go_light
      exact ⟨_, rfl, by rw [HE.out]; exact HO.out, HX2.out.trans HX.out⟩
end Go.Proofs.YtjapjpigpakejaaGreatDoor

/- A law's tree: its paths; what soundness says of one node; loops over paths. -/
namespace Go.Proofs.YtjapjpigpakejaaGreatDoor
set_option maxRecDepth 100000
open Go.RowKit Av

/-- The paths of a tree that a law has made. -/
theorem tsPaths {w0 w : World} {b m : Nat} {room : Int} {K : Nat} {t : Tr} (h : TS w0 w b m room K t) (hs : SoundP room (pl t)) (hr : room ≤ 100000) :
    Calls Tryz.prog 13 #[.pointer (some ⟨b, 0, none⟩)] w fun e w' => PathsPost w (pathsP (pl t)) e w' := by
  refine treePaths_any w0.heap.size b m room t w h.tr (fun e he => ?_) ?_
  · have h1 : mget (pl t) e.1 = some e.2.2 := by
      rw [pl_get, mget_of_mem h.tr.keys (k := e.1) he]; rfl
    have := path_small e.1 (hs.good _ _ h1)
    unfold maxLen
    omega
  · have := hs.size
    rw [pl_len] at this
    omega
theorem strs_open {w : World} {base n : Nat} {v : Value} {L : List Bs} (h : w.ownsRow base strT 1 v n (L.map encStr)) : ∃ a c, v = .slice a n c ∧ (0 < n → ∃ g off, a = some ⟨g, off, none⟩ ∧ ∀ k (hk : k < L.length), w.cell? ⟨g, off + k, none⟩ = some (encStr L[k])) := by
  obtain ⟨a, c, e, _, _, _, hop⟩ := Sl.open (Sl.of_owns h)
  refine ⟨a, c, e, fun h0 => ?_⟩
  obtain ⟨g, off, e2, _, hc⟩ := hop h0
  exact ⟨g, off, e2, fun k hk => hc k _ (by rw [List.getElem?_map, List.getElem?_eq_getElem hk]; rfl)⟩
theorem strs_same {w : World} {base n : Nat} {v : Value} {L : List Bs} (h : w.ownsRow base strT 1 v n (L.map encStr)) : n = L.length := by
  have := h.1
  simpa using this.symm
/-- What soundness says of one node. -/
structure SoundAt (t : Pt) (p : ByteArray) (n : NodeV) : Prop where
  size : p.size ≤ 200
  cnt : n.cnt = n.names.length
  eph : n.own ≠ 0 → n.names = []
  kid : ∀ x ∈ n.names, ∃ y, mget t (childB p x) = some y
  small : ∀ x ∈ n.names, x.length ≤ 200
  par : ∀ up, parentL p.data.toList = some up → ∃ m, mget t ⟨up.toArray⟩ = some m ∧ m.own = 0 ∧ lastL p.data.toList ∈ m.names
theorem sound_at {room : Int} {t : Pt} (h : SoundP room t) {p : ByteArray} {n : NodeV} (hp : mget t p = some n) : SoundAt t p n := by
  have hk : ∀ x ∈ n.names, ∃ y, mget t (childB p x) = some y := fun x hx => Option.isSome_iff_exists.1 (h.kids p n hp x hx)
  refine ⟨path_small p (h.good p n hp), h.cnt p n hp, h.eph p n hp, hk, fun x hx => ?_, h.par p n hp⟩
  obtain ⟨y, hy⟩ := hk x hx
  have h1 := path_small _ (h.good _ y hy)
  rw [Lib.size_eq] at h1
  unfold childB at h1
  simp at h1
  omega
theorem child_add {p : ByteArray} {y : Bs} (hp : p.size ≤ 200) (hy : y.length ≤ 200) :
    (∀ wx, (Op.stringOp .add p ⟨#[47]⟩).run Tryz.prog wx = .ok (.string ⟨(p.data.toList ++ [47]).toArray⟩) wx) ∧ (∀ wx, (Op.stringOp .add ⟨(p.data.toList ++ [47]).toArray⟩ ⟨y.toArray⟩).run Tryz.prog wx = .ok (.string (childB p y)) wx) := by
  have hp2 := hp
  rw [Lib.size_eq] at hp2
  constructor
  · intro wx
    rw [run_string_add_sum (P := Tryz.prog) wx _ _ (by have : (⟨#[47]⟩ : ByteArray).size = 1 := rfl; omega)]
    refine congrArg (fun s => Result.ok (Value.string s) wx) ?_
    refine bytes_eq ?_
    simp
  · intro wx
    rw [run_string_add_sum (P := Tryz.prog) wx _ _ (by rw [Lib.size_eq, Lib.size_eq]; simp; omega)]
    refine congrArg (fun s => Result.ok (Value.string s) wx) ?_
    unfold childB
    refine bytes_eq ?_
    simp
/-- A loop over a list, all of whose rounds leave what lay there. -/
def SndRel (n : Nat) (w5 : World) (s9 : Value) (wr : World) : Prop := ∃ i : Nat, i ≤ n ∧ s9 = .int .i64 i ∧ Ext w5 wr
end Go.Proofs.YtjapjpigpakejaaGreatDoor

/- A piece of a slice. No program. -/
namespace Av
set_option maxRecDepth 100000
open Go Go.RowKit
/-- The address of a piece that begins at element i (m cells on), as the model has it. -/
def cutAd (a : Option Addr) (c i m : Nat) : Option Addr := if c = i then a else Option.map (fun x => x.add m) a
theorem cut_fold (a : Option Addr) (c i m : Nat) : (if c = i then a else Option.map (fun x => x.add m) a) = cutAd a c i m := rfl
theorem Sl.cut {w : World} {k n c : Nat} {a : Option Addr} {xs : List Value} (h : Sl w k (.slice a n c) n xs) (i j m : Nat) (hm : m = i * k) (hij : i ≤ j) (hj : j ≤ n) :
    Sl w k (.slice (cutAd a c i m) (j - i) (c - i)) (j - i) ((xs.drop m).take ((j - i) * k)) := by
  obtain ⟨a', c', e, hcc, h2, h1, h3⟩ := Sl.open h
  simp only [Value.slice.injEq, true_and] at e
  obtain ⟨rfl, rfl⟩ := e
  have hmk : (j - i) * k + m ≤ n * k := by rw [hm, ← Nat.add_mul]; exact Nat.mul_le_mul_right k (by omega)
  have hl : ((xs.drop m).take ((j - i) * k)).length = (j - i) * k := by rw [List.length_take, List.length_drop]; omega
  refine ⟨hl, by omega, _, _, rfl, by omega, ?_⟩
  by_cases h0 : j - i = 0
  · exact .inl h0
  · right
    obtain ⟨b, off, rfl, hb, hc⟩ := h3 (by omega)
    refine ⟨b, off + m, ?_, hb, fun t x hx => ?_⟩
    · unfold cutAd
      rw [if_neg (by omega)]
      simp only [Option.map_some, Option.some.injEq]
      by_cases hm0 : m = 0 <;> simp [Addr.add, hm0]
    · rw [List.getElem?_take] at hx
      split at hx
      · rw [List.getElem?_drop] at hx
        rw [Nat.add_assoc]
        exact hc (m + t) x hx
      · cases hx
theorem Shp.cut {a : Option Addr} {n c i j m : Nat} (h : Shp (.slice a n c)) (hij : i ≤ j) (hj : j ≤ n) : Shp (.slice (cutAd a c i m) (j - i) (c - i)) := by
  rcases h with h | ⟨ad, l, c', h⟩
  · simp only [Value.slice.injEq] at h
    obtain ⟨rfl, rfl, rfl⟩ := h
    left
    have : i = 0 := by omega
    have : j = 0 := by omega
    subst i j
    rfl
  · simp only [Value.slice.injEq] at h
    obtain ⟨rfl, rfl, rfl⟩ := h
    right
    unfold cutAd
    split
    · exact ⟨_, _, _, rfl⟩
    · exact ⟨_, _, _, rfl⟩
theorem cut_own {a : Option Addr} {n c i j m b : Nat} (h : (Value.slice (cutAd a c i m) (j - i) (c - i)).ownBlock = some b) : (Value.slice a n c).ownBlock = some b := by
  cases a with
  | none => unfold cutAd at h; split at h <;> simp [Value.ownBlock] at h
  | some ad =>
    unfold cutAd at h
    split at h
    · simpa [Value.ownBlock] using h
    · simp only [Option.map_some, Value.ownBlock] at h ⊢
      have : (ad.add m).block = ad.block := by simp [Addr.add]; split <;> rfl
      simpa [this] using h
theorem BytesR.cut {w : World} {a : Option Addr} {c : Nat} {bs : List UInt8} (h : BytesR w (.slice a bs.length c) bs) (i j : Nat) (hij : i ≤ j) (hj : j ≤ bs.length) :
    BytesR w (.slice (cutAd a c i i) (j - i) (c - i)) ((bs.drop i).take (j - i)) := by
  have hl : ((bs.drop i).take (j - i)).length = j - i := by rw [List.length_take, List.length_drop]; omega
  refine ⟨?_, h.2.cut hij hj⟩
  rw [hl]
  have := h.1.cut i j i (by omega) hij hj
  rwa [Nat.mul_one, ← List.map_drop, ← List.map_take] at this
end Av

/- Appends in a region that draws its order. No program. -/
namespace Av
set_option maxRecDepth 100000
open Go Go.RowKit
/-- A slice literal of nothing. -/
def Fresh0 (base : Nat) (e : TypeId) (k : Nat) (v : Value) (w : World) : Prop := w.ownsRow base e k v 0 [] ∧ ∃ g, v = .slice (some ⟨g, 0, none⟩) 0 0 ∧ w.heap[g]? = some (.cells #[] e (0, 0))
theorem Fresh0.ext {base k : Nat} {e : TypeId} {v : Value} {w w' : World} (h : Fresh0 base e k v w) (x : Ext w w') : Fresh0 base e k v w' := by
  obtain ⟨h1, g, rfl, h2⟩ := h
  exact ⟨ownsRow.ext h1 x, g, rfl, x.obj h2 (fun f => f)⟩
theorem Fresh0.new {base k : Nat} {e : TypeId} {w : World} (hb : base ≤ w.heap.size) : Fresh0 base e k (.slice (some ⟨w.heap.size, 0, none⟩) 0 0) (w.alloc (.cells #[] e)) := by
  refine ⟨⟨by simp, .inr ⟨w.heap.size, 0, #[], rfl, hb, ?_, Nat.le_refl _, Nat.zero_le _, by simp, by simp⟩⟩, w.heap.size, rfl, heap_alloc_new w _⟩
  exact heap_alloc_new w _
/-- A slice literal of m elements. -/
def BoxL (base : Nat) (e : TypeId) (m : Nat) (ys : List Value) (u : Value) (w : World) : Prop := ∃ g, base ≤ g ∧ u = .slice (some ⟨g, 0, none⟩) m m ∧ w.heap[g]? = some (.cells ys.toArray e (0, 0))
theorem BoxL.ext {base m : Nat} {e : TypeId} {ys : List Value} {u : Value} {w w' : World} (h : BoxL base e m ys u w) (x : Ext w w') : BoxL base e m ys u w' := by
  obtain ⟨g, h1, rfl, h2⟩ := h
  exact ⟨g, h1, rfl, x.obj h2 (fun f => f)⟩
theorem BoxL.new {base m : Nat} {e : TypeId} {ys : List Value} {w : World} (hb : base ≤ w.heap.size) : BoxL base e m ys (.slice (some ⟨w.heap.size, 0, none⟩) m m) (w.alloc (.cells ys.toArray e)) :=
  ⟨w.heap.size, hb, rfl, heap_alloc_new w _⟩
theorem BoxL.sl {base m k : Nat} {e : TypeId} {ys : List Value} {u : Value} {w : World} (h : BoxL base e m ys u w) (hl : ys.length = m * k) (hm : m ≤ maxLen) : Sl w k u m ys ∧ Shp u := by
  obtain ⟨g, h1, rfl, h2⟩ := h
  exact ⟨Sl.of_block h2 hl hm (Nat.le_refl _), Shp.some⟩
/-- What is written behind an empty literal leaves a literal of some element alone. -/
theorem BoxL.kp0 {base base' m k : Nat} {e e' : TypeId} {ys : List Value} {u v : Value} {w w' : World} (h : BoxL base e m ys u w) (hy : ys ≠ []) (hv : Fresh0 base' e' k v w) (x : Kp (fun i => v.ownBlock = some i) w w') : BoxL base e m ys u w' := by
  obtain ⟨g, h1, rfl, h2⟩ := h
  obtain ⟨_, g', rfl, h3⟩ := hv
  refine ⟨g, h1, rfl, x.obj h2 (fun e => ?_)⟩
  simp [Value.ownBlock] at e
  subst e
  rw [h2] at h3
  simp only [Option.some.injEq, Obj.cells.injEq] at h3
  exact hy (by have := congrArg Array.toList h3.1; simpa using this)
theorem Fresh0.keep {base base' k k' n : Nat} {e e' : TypeId} {u v : Value} {xs : List Value} {w w' : World} (h : Fresh0 base e k u w) (hv : w.ownsRow base' e' k' v n xs) (hn : 0 < n) (hk : 0 < k') (x : Kp (fun i => v.ownBlock = some i) w w') : Fresh0 base e k u w' := by
  obtain ⟨h1, g, rfl, h2⟩ := h
  have key : ¬ v.ownBlock = some g := by
    intro e1
    rcases hv.2 with ⟨rfl, _⟩ | ⟨g', cap, cur, rfl, _, hg, h3, _, h4, _⟩
    · simp [Value.ownBlock] at e1
    · simp [Value.ownBlock] at e1
      subst e1
      rw [h2] at hg
      simp only [Option.some.injEq, Obj.cells.injEq] at hg
      rw [← hg.1] at h4
      have : 0 < cap * k' := Nat.mul_pos (by omega) hk
      simp at h4
      omega
  refine ⟨ownsRow.kp h1 x (fun b hb e1 => ?_), g, rfl, x.obj h2 key⟩
  simp [Value.ownBlock] at hb
  subst hb
  exact key e1
theorem owns_kp0 {base base' k k' n : Nat} {e e' : TypeId} {u v : Value} {xs : List Value} {w w' : World} (h : w.ownsRow base e k u n xs) (hn : 0 < n) (hk : 0 < k) (hv : Fresh0 base' e' k' v w) (x : Kp (fun i => v.ownBlock = some i) w w') : w'.ownsRow base e k u n xs := by
  refine ownsRow.kp h x (fun b hb e1 => ?_)
  obtain ⟨_, g, rfl, h2⟩ := hv
  simp [Value.ownBlock] at e1
  subst e1
  rcases h.2 with ⟨rfl, _⟩ | ⟨g', cap, cur, rfl, _, hg, h3, _, h4, _⟩
  · simp [Value.ownBlock] at hb
  · simp [Value.ownBlock] at hb
    subst hb
    rw [h2] at hg
    simp only [Option.some.injEq, Obj.cells.injEq] at hg
    rw [← hg.1] at h4
    have : 0 < cap * k := Nat.mul_pos (by omega) hk
    simp at h4
    omega
/-- The blocks that are made on the way. -/
theorem Kp.over {base : Nat} {v : Value} {w w' : World} (x : Kp (fun i => v.ownBlock = some i) w w') (h : ∀ i, v.ownBlock = some i → base ≤ i) : Kp (fun i => base ≤ i) w w' := x.mono (fun i _ hi => h i hi)
theorem owns_base {w : World} {base k n : Nat} {e : TypeId} {v : Value} {xs : List Value} (h : w.ownsRow base e k v n xs) : ∀ b, v.ownBlock = some b → base ≤ b := by
  obtain ⟨_, h2⟩ := h
  rcases h2 with ⟨rfl, _⟩ | ⟨g, cap, cur, rfl, hb, hg, _⟩
  · intro b hb; simp [Value.ownBlock] at hb
  · intro b hb'
    simp [Value.ownBlock] at hb'
    subst hb'
    exact hb
theorem dUpon_app {P : Program} {o : Oper} {a : Act} {w : World} {K : Value → World → Prop} {d : Tmp} (hd : o.dst = .some d) (hlt : decide (d < a.tmps.size) = true) (t e : TypeId) (k : Nat) (hk : 0 < k) (hfacts : ElemOk P t e k)
    (hgd : o.guard = none) (s x : Operand) (ho : o.op = .call { callee := .builtin .append, args := #[s, x], argTypes := #[t, t] })
    (base : Nat) (v : Value) (n : Nat) (xs : List Value) (hs : a.eval s = v) (hown : w.ownsRow base e k v n xs)
    (u : Value) (m : Nat) (ys : List Value) (hx : a.eval x = u) (hu : Sl w k u m ys) (hsh : Shp u) (hone : ∀ y ∈ ys, y.oneCell' = true) (hn : n + m ≤ 100000000000) (hbase : base ≤ w.heap.size)
    (h : ∀ v' w', w'.ownsRow base e k v' (n + m) (xs ++ ys) → Kp (fun k => v.ownBlock = some k) w w' → K v' w') : DUpon P K ((execOp a.eval o).run P w) :=
  DUpon.of_list (ops := #[]) hd (of_decide_eq_true hlt) hgd
    (wpList_appK t e k hk hfacts hgd s x ho base v n xs hs hown u m ys hx hu hsh hone hn hbase (fun v' w' h1 h2 => ⟨rfl, v', rfl, h v' w' h1 h2⟩))
end Av
