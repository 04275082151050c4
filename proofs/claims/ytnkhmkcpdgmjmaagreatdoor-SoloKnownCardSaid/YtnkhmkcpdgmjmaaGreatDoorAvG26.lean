/- Texts put together: AvPurP, AvPurB, AvSesD, AvSesE. -/
import Derived.Test.YtnkhmkcpdgmjmaaGreatDoorAvG25
import Derived.Test.YtnkhmkcpdgmjmaaGreatDoorAvG17
import Derived.Test.YtnkhmkcpdgmjmaaGreatDoorAvG2
import Derived.Shelf.AbstractIn

/- What a session's nodes are, in which order they go: plain. No program. -/
namespace Go.Proofs.YtnkhmkcpdgmjmaaGreatDoor
set_option maxRecDepth 100000
open Go.RowKit Av

def toB (s : Bs) : ByteArray := ⟨s.toArray⟩
theorem deepB_to (s : Bs) : deepB (toB s) = dpB s := by unfold deepB dpB toB; simp
theorem sort_st (l : List Bs) : St l (l.mergeSort fun a b => decide (dpB b ≤ dpB a)) ∧ (l.mergeSort fun a b => decide (dpB b ≤ dpB a)).Pairwise (fun x y => dpB y ≤ dpB x) := by
  have htr : ∀ a b c : Bs, decide (dpB b ≤ dpB a) = true → decide (dpB c ≤ dpB b) = true → decide (dpB c ≤ dpB a) = true := fun a b c h1 h2 => by
    simp only [decide_eq_true_eq] at h1 h2 ⊢; omega
  have hto : ∀ a b : Bs, (decide (dpB b ≤ dpB a) || decide (dpB a ≤ dpB b)) = true := fun a b => by
    simp only [Bool.or_eq_true, decide_eq_true_eq]; omega
  have hp := List.mergeSort_perm l fun a b => decide (dpB b ≤ dpB a)
  refine ⟨⟨hp.length_eq, fun k => ?_⟩, ?_⟩
  · have h1 : (l.filter fun s => decide (dpB s = k)).Sublist (l.mergeSort fun a b => decide (dpB b ≤ dpB a)) := by
      refine List.sublist_mergeSort htr hto ?_ List.filter_sublist
      rw [List.pairwise_iff_forall_sublist]
      intro a b hab
      have ha := (List.mem_filter.1 (hab.subset (by simp : a ∈ [a, b]))).2
      have hb := (List.mem_filter.1 (hab.subset (by simp : b ∈ [a, b]))).2
      simp only [decide_eq_true_eq] at ha hb ⊢
      omega
    have h2 := h1.filter (fun s => decide (dpB s = k))
    rw [List.filter_filter] at h2
    simp only [Bool.and_self] at h2
    exact (h2.eq_of_length (hp.filter _).length_eq.symm).symm
  · have := List.pairwise_mergeSort htr hto l
    exact this.imp (fun h => by simpa using h)
theorem sortD_to (l : List Bs) : sortD (l.map toB) = (l.mergeSort fun a b => decide (dpB b ≤ dpB a)).map toB := by
  unfold sortD
  rw [List.map_mergeSort]
  intro a _ b _
  rw [deepB_to, deepB_to]
/-- What a stable sort leaves is this. -/
theorem st_sortD {l m : List Bs} (h : St l m) (hp : m.Pairwise (fun x y => dpB y ≤ dpB x)) : m.map toB = sortD (l.map toB) := by
  obtain ⟨h1, h2⟩ := sort_st l
  rw [sortD_to, fall_eq m _ hp h2 (fun k => by rw [h.2, h1.2])]
/-- A session's nodes, as Of tells them. -/
theorem ofBL_of {L : RL} {P : Pt} (h : SortedAs L P) (hn : (P.map (·.1)).Nodup) (sess : Int) : ofBL L sess = (ofS P (pathsP P) sess).map toB := by
  have hL : L = ownL P := h.own hn
  rw [hL]
  unfold ofBL ofS ownL
  rw [List.filter_map, List.map_map]
  congr 1
  apply List.filter_congr
  intro x hx
  show decide (0 < sess ∧ (nodeP P ⟨x.toArray⟩).1.own = sess) = _
  obtain ⟨n, hn⟩ := Option.ne_none_iff_exists'.1 (paths_mem.1 hx)
  unfold nodeP ownI
  rw [hn]
  rw [Bool.eq_iff_iff]
  simp
theorem tell_own {P : Pt} {q p : ByteArray} {n : NodeV} (h : mget P p = some n) : ∃ n', mget (tellP ndRem P q) p = some n' ∧ n'.own = n.own := by
  unfold tellP
  split
  · exact ⟨n, h, rfl⟩
  · split
    · exact ⟨n, h, rfl⟩
    · rename_i up _ _ nu hu
      rw [mget_mset]
      by_cases e : p = ⟨up.toArray⟩
      · rw [if_pos e]
        rw [e, hu] at h
        cases h
        refine ⟨_, rfl, ?_⟩
        unfold ndRem
        split <;> rfl
      · rw [if_neg e]
        exact ⟨n, h, rfl⟩
end Go.Proofs.YtnkhmkcpdgmjmaaGreatDoor

/- Walks: multi.Purge of at most 20 nodes. -/
namespace Go.Proofs.YtnkhmkcpdgmjmaaGreatDoor
set_option maxRecDepth 100000
open Go.RowKit Av

set_option maxHeartbeats 3200000 in
theorem sort_nil (a : Option Addr) (c : Nat) (w : World) : Calls Tryz.prog 169 #[.slice a 0 c, .func (.func 170) #[] #[]] w fun e w' => (∃ u, e = .returned u) ∧ w = w' := by
  have hins : Calls Tryz.prog 245 #[.slice a 0 c, .int .i64 0, .int .i64 0, .func (.func 170) #[] #[]] w fun e w' => (∃ u, e = .returned u) ∧ w = w' := by
    go_enter Tryz.func245, Tryz.ntmps245
    go_wp2_with (fail)
    go_loopw [8] (fun s8 wr => s8 = .int .i64 1 ∧ w = wr) (fun _ _ => 0)
    case atStart => exact ⟨rfl, rfl⟩
    case round =>
      obtain ⟨rfl, rfl⟩ := hrel
      go_wp2_with (fail)
      go_end0
      exact ⟨⟨_, rfl⟩, rfl⟩
  have hst : Calls Tryz.prog 212 #[.slice a 0 c, .int .i64 0, .func (.func 170) #[] #[]] w fun e w' => (∃ u, e = .returned u) ∧ w = w' := by
    have HI := Lib.hid hins
    clear hins
    go_enter Tryz.func212, Tryz.ntmps212
    go_wp2_with (fail)
    go_loopw [7, 8] (fun s7 s8 wr => s7 = .int .i64 0 ∧ s8 = .int .i64 20 ∧ w = wr) (fun _ _ _ => 0)
    case atStart => exact ⟨rfl, rfl, rfl⟩
    case round =>
      obtain ⟨rfl, rfl, rfl⟩ := hrel
      go_wp2_with (fail)
      refine HI.out.mono ?_
      rintro e w1 ⟨⟨u, rfl⟩, rfl⟩
      go_wp2_with (fail)
      go_loopw [6] (fun s6 wr => s6 = .int .i64 20 ∧ w = wr) (fun _ _ => 0)
      case atStart => exact ⟨rfl, rfl⟩
      case round =>
        obtain ⟨rfl, rfl⟩ := hrel
        go_wp2_with (fail)
        go_end0
        exact ⟨⟨_, rfl⟩, rfl⟩
  have HS := Lib.hid hst
  clear hst hins
  go_enter Tryz.func169, Tryz.ntmps169
  go_wp2_with (fail)
  refine HS.out.mono ?_
  rintro e w1 ⟨⟨u, rfl⟩, rfl⟩
  go_wp2_with (fail)
  go_end0
  exact ⟨⟨_, rfl⟩, rfl⟩
theorem remL_own {L : RL} (hr : Rising (keysR L)) {p : ByteArray} {n : NodeV} (hg : goodL p.data.toList = true) (hm : mget L p = some n) (hk : n.names = []) {p' : ByteArray} {n' : NodeV} (hne : p' ≠ p) (h' : mget L p' = some n') : ∃ n'', mget (remL L p) p' = some n'' ∧ n''.own = n'.own := by
  have hs : SortedAs L L := ⟨hr, fun _ => rfl⟩
  have h1 := (doL_doP (room := 0) hs (rise_nodup hr) (oDel p) 1 0).2
  rw [del_doL hg hm hk, del_doP hg hm hk] at h1
  rw [h1.get]
  have h2 : mget (mdel L p) p' = some n' := by rw [mget_mdel, if_neg hne]; exact h'
  exact tell_own h2
theorem sortDeep_any {base n c : Nat} {a : Option Addr} {l : List Bs} {w : World} (ho : w.ownsRow base strT 1 (.slice a n c) n (l.map encStr)) (hG : GL w) (hb : 0 < base) (hl : ∀ s ∈ l, s.length ≤ 1000000) (hn : l.length = n) (hn1 : n ≤ 20) :
    Calls Tryz.prog 169 #[.slice a n c, .func (.func 170) #[] #[]] w fun e w' => (∃ u, e = .returned u) ∧ ∃ m : List Bs, m.map toB = sortD (l.map toB) ∧ m.length = n ∧ w'.ownsRow base strT 1 (.slice a n c) n (m.map encStr) ∧ Kp (fun j => base ≤ j) w w' := by
  by_cases h0 : n = 0
  · subst h0
    have hl0 : l = [] := List.length_eq_zero_iff.1 hn
    subst hl0
    refine (sort_nil a c w).mono ?_
    rintro e w' ⟨hu, rfl⟩
    exact ⟨hu, [], by unfold sortD; simp, rfl, ho, Kp.refl _ _⟩
  · obtain ⟨ad, rfl⟩ : ∃ ad, a = some ad := by
      cases a with
      | none =>
        rcases ho.2 with ⟨h1, h2⟩ | ⟨g, cc, cur, h1, _⟩
        · simp only [Value.slice.injEq] at h1; exact absurd h1.2.1 h0
        · simp at h1
      | some ad => exact ⟨ad, rfl⟩
    obtain ⟨r, rfl, hrow, hlen, hnc, hcm, hbr⟩ := RowB.of_owns ho
    refine (sortStable_small r c n c l w hG (by omega) hl hn hn1 hrow).mono ?_
    rintro e w' ⟨hu, m, h1, h2, h3, h4⟩
    have hml : m.length = n := by rw [h1.1]; exact hn
    refine ⟨hu, m, st_sortD h1 h2, hml, ?_, h4.mono (fun i _ e => by have e2 : i = r := e; omega)⟩
    have := h3.owns (m := n) (base := base) (by simp [hml]) hnc hcm hbr
    rwa [List.take_of_length_le (by simp [hml])] at this
def PurRel (w0 w2 : World) (b m : Nat) (room : Int) (K : Nat) (t : Tr) (L : RL) (l : List ByteArray) (s15 : Value) (wr : World) : Prop := ∃ (k : Nat) (t' : Tr), k ≤ l.length ∧ s15 = .int .i64 k ∧ TrA w0 wr b m room (K + k) t' ((l.take k).foldl remL L) ∧ Kp (nodeFr m t) w2 wr ∧ Fresh w2 t t' ∧ ∀ p ∈ l.drop k, ∃ n, mget ((l.take k).foldl remL L) p = some n ∧ n.own ≠ 0
def PurPost (w0 w : World) (b m : Nat) (room : Int) (K : Nat) (t : Tr) (X : RL × List ByteArray) (e : Ending) (w' : World) : Prop :=
  ∃ (v : Value) (ls : List Bs) (t' : Tr), e = .returned v ∧ ls.map toB = X.2 ∧ w'.ownsRow w.heap.size strT 1 v ls.length (ls.map encStr) ∧ TrA w0 w' b m room (K + ls.length) t' X.1 ∧ Kp (nodeFr m t) w w' ∧ Fresh w t t'
theorem ofBL_nodup {L : RL} (hr : Rising (keysR L)) (sess : Int) : (ofBL L sess).Nodup := by
  unfold ofBL
  exact (rise_nodup hr).sublist (List.filter_sublist.map _)
theorem ofBL_own {L : RL} (hr : Rising (keysR L)) {sess : Int} {p : ByteArray} (h : p ∈ ofBL L sess) : ∃ n, mget L p = some n ∧ n.own ≠ 0 := by
  unfold ofBL at h
  obtain ⟨e, he, rfl⟩ := List.mem_map.1 h
  obtain ⟨h1, h2⟩ := List.mem_filter.1 he
  simp only [decide_eq_true_eq] at h2
  exact ⟨e.2, mget_of_mem (rise_nodup hr) h1, by omega⟩
set_option maxHeartbeats 6400000 in
theorem purge_small {w0 w : World} {b m : Nat} {room : Int} {K : Nat} {t : Tr} {L : RL} (h : TrA w0 w b m room K t L) (hG : GT w0) (hK : K ≤ 90000) (hr : room ≤ 100000) (sess : Int) (hn : (ofBL L sess).length ≤ 20) :
    Calls Tryz.prog 132 #[.pointer (some ⟨b, 0, none⟩), .int .i64 sess] w fun e w' => PurPost w0 w b m room K t (purgeL L sess) e w' := by
  have HOF := Lib.hid (tsOf h.ts h.good.snd hr sess)
  have hof := ofBL_of h.srt h.ts.pk.1 sess
  have hle : ∀ s ∈ ofS (pl t) (pathsP (pl t)) sess, s.length ≤ 1000000 := fun s hs => by
    have h1 := (List.mem_filter.1 hs).1
    obtain ⟨n, hn⟩ := Option.ne_none_iff_exists'.1 (paths_mem.1 h1)
    have := path_small _ (h.good.snd.good _ _ hn)
    rw [Lib.size_eq] at this
    simp only at this
    omega
  have hgb : 0 < w.heap.size := by
    obtain ⟨mm, hmm⟩ := (hG.ext h.ts.ex).gl
    exact World.block_lt_of_cell? _ _ hmm
  have HGL := Lib.hid (hG.ext h.ts.ex).gl
  have hnd := ofBL_nodup h.srt.rise sess
  have how := fun p => ofBL_own (p := p) h.srt.rise (sess := sess)
  have hpu : purgeL L sess = ((sortD (ofBL L sess)).foldl remL L, sortD (ofBL L sess)) := rfl
  have hpm := sortD_perm (ofBL L sess)
  rw [hpu]
  have hn2 : (ofS (pl t) (pathsP (pl t)) sess).length ≤ 20 := by
    have := congrArg List.length hof
    rw [List.length_map] at this
    omega
  rw [hof] at hnd how hpm ⊢
  have HH := Lib.hid h
  have HND := Lib.hid hnd
  have HOW := Lib.hid how
  have HPM := Lib.hid hpm
  have HLE := Lib.hid hle
  have HGB := Lib.hid hgb
  have HG := Lib.hid hG
  generalize ofS (pl t) (pathsP (pl t)) sess = l at *
  have HN2 := Lib.hid hn2
  clear hof hle hgb hnd how hpm hpu hn h hG hn2
  go_enter Tryz.func132, Tryz.ntmps132
  go_wp2_with (fail)
  refine HOF.out.mono ?_
  rintro e w1 ⟨v, rfl, ho, hx1⟩
  obtain ⟨a, c, rfl⟩ := owns_slice ho
  have HX1 := Lib.hid hx1
  have HSRT := Lib.hid (sortDeep_any ho (HGL.out.ext hx1) HGB.out HLE.out rfl HN2.out)
  clear ho hx1 HOF
  go_wp2_with (fail)
  refine HSRT.out.mono ?_
  rintro e w2 ⟨⟨u, rfl⟩, ms, h1, h2, h3, h4⟩
  have hx2 : Ext w w2 := HX1.out.next h4 (fun i hi e => by omega)
  have HX2 := Lib.hid hx2
  have HM := Lib.hid h1
  have HML := Lib.hid h2
  have HRW := Lib.hid h3
  clear h1 h2 h3 h4 hx2 HSRT HX1
  have hml := HML.out
  rw [← hml] at HRW ⊢
  obtain ⟨aS, cS, hsl, hopS⟩ := strs_open HRW.out
  simp only [Value.slice.injEq, true_and] at hsl
  obtain ⟨rfl, rfl⟩ := hsl
  have HOP := Lib.hid hopS
  have hm20 : ms.length ≤ 20 := by have := HN2.out; omega
  have hperm := HPM.out
  rw [← HM.out] at hperm
  have HPMM := Lib.hid hperm
  have HNDM : Hid ((ms.map toB).Nodup) := hperm.nodup_iff.2 HND.out
  have H0 := Lib.hid (HH.out.ext HX2.out)
  clear hml hopS hperm HML HPM HND
  go_wp2_with (fail)
  go_loopw [15] (fun s15 wr => PurRel w0 w2 b m room K t L (ms.map toB) s15 wr) (fun s15 _ => ms.length - (intOf s15).toNat)
  case atStart => exact ⟨0, t, Nat.zero_le _, rfl, H0.out, Kp.refl _ _, Fresh.refl _ _, fun p hp => HOW.out p (HPMM.out.mem_iff.1 hp)⟩
  case round =>
    obtain ⟨k, t', hk, rfl, ht, hkp, hfr, how⟩ := hrel
    rw [List.length_map] at hk
    have HT := Lib.hid ht
    have HKP := Lib.hid hkp
    have HFR := Lib.hid hfr
    have HOWK := Lib.hid how
    clear ht hkp hfr how
    by_cases hlt : k < ms.length
    · obtain ⟨g, off, rfl, hc⟩ := HOP.out (by omega)
      have hcell := H0.out.ts.tr.own' HKP.out HRW.out
      obtain ⟨_, _, hsl2, hop2⟩ := strs_open hcell
      simp only [Value.slice.injEq, true_and] at hsl2
      obtain ⟨rfl, rfl⟩ := hsl2
      obtain ⟨g2, off2, he2, hc2⟩ := hop2 (by omega)
      simp only [Option.some.injEq, Addr.mk.injEq, and_true] at he2
      obtain ⟨rfl, rfl⟩ := he2
      have c0 := hc2 k hlt
      have hk2 : k < (ms.map toB).length := by rw [List.length_map]; exact hlt
      have hpk : (ms.map toB)[k] = toB ms[k] := List.getElem_map _
      have hdrop : (ms.map toB).drop k = toB ms[k] :: (ms.map toB).drop (k + 1) := by rw [List.drop_eq_getElem_cons hk2, hpk]
      have htake : (ms.map toB).take (k + 1) = (ms.map toB).take k ++ [toB ms[k]] := by rw [List.take_succ_eq_append_getElem hk2, hpk]
      have hfold : ((ms.map toB).take (k + 1)).foldl remL L = remL (((ms.map toB).take k).foldl remL L) (toB ms[k]) := by rw [htake, List.foldl_append]; rfl
      have hndd : toB ms[k] ∉ (ms.map toB).drop (k + 1) := by
        have h1 := HNDM.out
        rw [← List.take_append_drop k (ms.map toB), hdrop] at h1
        exact (List.nodup_cons.1 (List.nodup_append.1 h1).2.1).1
      obtain ⟨n, hn, hno⟩ := HOWK.out (toB ms[k]) (by rw [hdrop]; simp)
      have hnm : n.names = [] := HT.out.good.snd.eph _ n (by rw [← HT.out.srt.get]; exact hn) hno
      have hgd := HT.out.good.snd.good _ n (by rw [← HT.out.srt.get]; exact hn)
      have HREM := Lib.hid (trRemove HT.out HG.out (by omega) (toB ms[k]) n hn hnm)
      have HNX : Hid (∀ p ∈ (ms.map toB).drop (k + 1), ∃ n, mget (remL (((ms.map toB).take k).foldl remL L) (toB ms[k])) p = some n ∧ n.own ≠ 0) := fun p hp => by
        obtain ⟨n', h1, h2⟩ := HOWK.out p (by rw [hdrop]; simp [hp])
        obtain ⟨n'', h3, h4⟩ := remL_own HT.out.srt.rise hgd hn hnm (fun e => hndd (by rw [← e]; exact hp)) h1
        exact ⟨n'', h3, by rw [h4]; exact h2⟩
      have HFOLD := Lib.hid hfold
      unfold encStr at c0
      clear hc hcell hop2 hc2 hk2 hpk hdrop htake hfold hndd hn hno hnm hgd
      rw [show (⟨ms[k].toArray⟩ : ByteArray) = toB ms[k] from rfl] at c0
      generalize toB ms[k] = p at *
      go_wp2_with (fail)
      refine HREM.out.mono ?_
      rintro e w3 ⟨⟨u, rfl⟩, t2, h1, h2, h3⟩
      have H1 := Lib.hid h1
      have H2 := Lib.hid (HKP.out.next h2 (fun i hi hs => by
        rcases hs with hs | ⟨e, he, rfl⟩
        · exact .inl hs
        · rcases HFR.out e he with ⟨e0, he0, h0⟩ | h0
          · exact .inr ⟨e0, he0, h0⟩
          · omega))
      have H3 := Lib.hid (HFR.out.trans h3 HKP.out.size)
      clear h1 h2 h3 HREM
      go_wp2_with (fail)
      go_light
      refine ⟨⟨k + 1, t2, ?_, ?_, ?_, H2.out, H3.out, ?_⟩, ?_⟩
      · rw [List.length_map]; omega
      · go_num
      · rw [HFOLD.out]; exact H1.out
      · rw [HFOLD.out]; exact HNX.out
      · simp [intOf]; omega
    · have hke : k = ms.length := by omega
      have ht2 := HT.out
      rw [List.take_of_length_le (by rw [List.length_map]; omega), hke] at ht2
      have HT2 := Lib.hid ht2
      have HRW2 := Lib.hid (H0.out.ts.tr.own' HKP.out HRW.out)
      have HK2 := Lib.hid ((Ext.kp HX2.out).trans HKP.out)
      have HF2 := Lib.hid (HFR.out.mono HX2.out.size)
      clear ht2 hke
      go_wp2_with (fail)
      go_ret
      rw [← HM.out]
      exact ⟨_, ms, t', rfl, rfl, HRW2.out, HT2.out, HK2.out, HF2.out⟩
end Go.Proofs.YtnkhmkcpdgmjmaaGreatDoor

/- Walks: slices.IndexFunc, slices.DeleteFunc at sessions, with a closure that has a memory of its own. -/
namespace Go.Proofs.YtnkhmkcpdgmjmaaGreatDoor
set_option maxRecDepth 100000
open Go.RowKit Av

/-- What a closure that is asked of one watch after the other does: Inv: what stands behind so many; cur: the block of its own that it may write besides S0; rb: the row's block. -/
structure AskedS (g : Nat) (lb : Array Value) (p : SeV → Bool) (S0 : Nat → Prop) (base rb : Nat) (Inv : List SeV → Option Nat → World → Prop) : Prop where
  eg : ∀ args w, (callFunc g args).run Tryz.prog w = .ok (.enter g args) w
  call : ∀ seen cur x W, seen.length < 100000 → Inv seen cur W → Calls Tryz.prog g (#[.agg (scell x).toArray] ++ lb) W fun e w' => e = .returned (.bool (p x)) ∧ ∃ cur', Inv (seen ++ [x]) cur' w' ∧ Kp (fun i => S0 i ∨ cur = some i) W w'
  kp : ∀ seen cur W W', Inv seen cur W → Kp (fun i => i = rb) W W' → Inv seen cur W'
  cur : ∀ seen cur W i, Inv seen cur W → cur = some i → base ≤ i ∧ i < W.heap.size ∧ i ≠ rb
  s0 : ∀ i, S0 i → i ≠ rb ∧ i < base
/-- Where the search ends. -/
def FoundS (p : SeV → Bool) (Inv : List SeV → Option Nat → World → Prop) (xs : List SeV) (e : Ending) (w' : World) : Prop :=
  (e = .returned (.int .i64 (-1)) ∧ (∀ x ∈ xs, p x = false) ∧ ∃ cur, Inv xs cur w') ∨ ∃ k : Nat, ∃ hk : k < xs.length, e = .returned (.int .i64 k) ∧ (∀ x ∈ xs.take k, p x = false) ∧ p xs[k] = true ∧ ∃ cur, Inv (xs.take (k + 1)) cur w'
def IFRelS (p : SeV → Bool) (S0 : Nat → Prop) (base : Nat) (Inv : List SeV → Option Nat → World → Prop) (xs : List SeV) (w : World) (i : Value) (wr : World) : Prop :=
  ∃ k : Nat, k ≤ xs.length ∧ i = .int .i64 k ∧ (∀ x ∈ xs.take k, p x = false) ∧ (∃ cur, Inv (xs.take k) cur wr) ∧ Kp (fun i => S0 i ∨ base ≤ i) w wr
set_option maxHeartbeats 1600000 in
theorem indexFuncS_any {g : Nat} {lb : Array Value} {p : SeV → Bool} {S0 : Nat → Prop} {base rb : Nat} {Inv : List SeV → Option Nat → World → Prop} (hA : AskedS g lb p S0 base rb Inv) (ad : Option Addr) (xs : List SeV) (cap : Nat) (w : World)
    (had : xs ≠ [] → ad = some ⟨rb, 0, none⟩ ∧ rb < base ∧ RowB w rb 203 3 cap (xs.flatMap scell)) (hm : xs.length ≤ 100000) (h0 : ∃ cur, Inv [] cur w) :
    Calls Tryz.prog 166 #[.slice ad xs.length cap, .func (.func g) #[] lb] w fun e w' => FoundS p Inv xs e w' ∧ Kp (fun i => S0 i ∨ base ≤ i) w w' := by
  have eg := hA.eg
  have HAD := Lib.hid had
  have H0 := Lib.hid h0
  have HA := Lib.hid hA
  clear had h0 hA
  go_enter Tryz.func166, Tryz.ntmps166
  go_wp2_with (fail)
  go_loopw [8] (fun i wr => IFRelS p S0 base Inv xs w i wr) (fun i _ => xs.length - (intOf i).toNat)
  case atStart => exact ⟨0, Nat.zero_le _, rfl, by simp, by simpa using H0.out, Kp.refl _ _⟩
  case round =>
    obtain ⟨k, hk, rfl, hall, ⟨cur, hinv⟩, hkp⟩ := hrel
    have HALL := Lib.hid hall
    have HK := Lib.hid hkp
    have HI := Lib.hid hinv
    clear hall hkp hinv
    by_cases hlt : k < xs.length
    · have hne : xs ≠ [] := by rintro rfl; simp at hlt
      obtain ⟨rfl, hrb, hrow⟩ := HAD.out hne
      have hrow2 : RowB wr rb 203 3 cap (xs.flatMap scell) := hrow.kp HK.out (fun f => Or.elim f (fun h => (HA.out.s0 rb h).1 rfl) (fun h => by omega))
      have c0 := hrow2.cell (i := k * 3) (v := .int .i64 xs[k].id) (rowK_cell scell 3 (fun _ => rfl) xs k hlt 0 (by decide))
      have c1 := hrow2.cell (i := k * 3 + 1) (v := .int .i64 xs[k].span) (rowK_cell scell 3 (fun _ => rfl) xs k hlt 1 (by decide))
      have c2 := hrow2.cell (i := k * 3 + 2) (v := .int .i64 xs[k].till) (rowK_cell scell 3 (fun _ => rfl) xs k hlt 2 (by decide))
      have HC := Lib.hid (HA.out.call (xs.take k) cur xs[k] wr (by rw [List.length_take]; omega) HI.out)
      have HCUR := Lib.hid (HA.out.cur (xs.take k) cur wr)
      have hcon : Calls Tryz.prog g (#[.agg #[.int .i64 xs[k].id, .int .i64 xs[k].span, .int .i64 xs[k].till]] ++ lb) wr fun e w' => e = .returned (.bool (p xs[k])) ∧ ∃ cur', Inv (xs.take (k + 1)) cur' w' ∧ Kp (fun i => S0 i ∨ base ≤ i) w w' := by
        refine HC.out.mono ?_
        rintro e w' ⟨rfl, cur', h1, h2⟩
        refine ⟨rfl, cur', by rw [List.take_succ_eq_append_getElem hlt]; exact h1, HK.out.next h2 ?_⟩
        rintro i hi (h | h)
        · exact .inl h
        · exact .inr (HCUR.out i HI.out h).1
      have HCON := Lib.hid hcon
      clear hcon hrow hrow2 hrb HC HCUR
      cases hp : p xs[k] with
      | true =>
        have HP := Lib.hid hp
        rw [hp] at HCON
        clear hp
        go_wp2_with (go_at_fn g; refine HCON.out.mono ?_; rintro e w1 ⟨rfl, cur', h1, h2⟩; have H1 := Lib.hid h1; have H2 := Lib.hid h2; clear h1 h2)
        go_ret
        go_light
        exact ⟨.inr ⟨k, hlt, rfl, HALL.out, HP.out, cur', H1.out⟩, H2.out⟩
      | false =>
        have HP := Lib.hid hp
        rw [hp] at HCON
        clear hp
        go_wp2_with (go_at_fn g; refine HCON.out.mono ?_; rintro e w1 ⟨rfl, cur', h1, h2⟩; have H1 := Lib.hid h1; have H2 := Lib.hid h2; clear h1 h2)
        go_light
        refine ⟨⟨k + 1, by omega, by go_num, fun x hx => ?_, ⟨cur', H1.out⟩, H2.out⟩, by simp [intOf]; omega⟩
        rw [List.take_succ_eq_append_getElem hlt] at hx
        rcases List.mem_append.1 hx with hx | hx
        · exact HALL.out x hx
        · simp only [List.mem_singleton] at hx; subst hx; exact HP.out
    · have e1 : xs.take k = xs := List.take_of_length_le (by omega)
      rw [e1] at HALL HI
      clear e1 HAD
      go_wp2_with (fail)
      go_ret
      go_light
      exact ⟨.inl ⟨rfl, HALL.out, cur, HI.out⟩, HK.out⟩
end Go.Proofs.YtnkhmkcpdgmjmaaGreatDoor

/- Walks: slices.DeleteFunc at sessions. -/
namespace Go.Proofs.YtnkhmkcpdgmjmaaGreatDoor
set_option maxRecDepth 100000
open Go.RowKit Av

theorem keptS_snoc {p : SeV → Bool} {xs : List SeV} {j : Nat} (hj : j < xs.length) : (xs.take (j + 1)).filter (fun x => !p x) = (xs.take j).filter (fun x => !p x) ++ (if p xs[j] then [] else [xs[j]]) := by
  rw [List.take_succ_eq_append_getElem hj, List.filter_append]
  cases h : p xs[j] <;> simp [h]
theorem keptS_start {p : SeV → Bool} {xs : List SeV} {k : Nat} (hk : k < xs.length) (hall : ∀ x ∈ xs.take k, p x = false) (hp : p xs[k] = true) : (xs.take (k + 1)).filter (fun x => !p x) = xs.take k := by
  rw [keptS_snoc hk, hp, if_pos rfl, List.append_nil, List.filter_eq_self]
  intro x hx; rw [hall x hx]; rfl
structure DelStS (p : SeV → Bool) (xs dk : List SeV) (i j : Nat) : Prop where
  hj : j ≤ xs.length
  hi : i = ((xs.take j).filter (fun x => !p x)).length
  lt : i < j
  len : dk.length = xs.length
  low : dk.take i = (xs.take j).filter (fun x => !p x)
  high : dk.drop j = xs.drop j
theorem DelStS.at {p : SeV → Bool} {xs dk : List SeV} {i j : Nat} (h : DelStS p xs dk i j) (hlt : j < xs.length) : dk[j]'(by rw [h.len]; exact hlt) = xs[j] := by
  have h1 := h.high
  rw [List.drop_eq_getElem_cons (by rw [h.len]; exact hlt), List.drop_eq_getElem_cons hlt] at h1
  exact (List.cons.inj h1).1
theorem DelStS.skip {p : SeV → Bool} {xs dk : List SeV} {i j : Nat} (h : DelStS p xs dk i j) (hlt : j < xs.length) (hp : p xs[j] = true) : DelStS p xs dk i (j + 1) := by
  have hk : (xs.take (j + 1)).filter (fun x => !p x) = (xs.take j).filter (fun x => !p x) := by rw [keptS_snoc hlt, hp, if_pos rfl, List.append_nil]
  refine ⟨hlt, by rw [hk]; exact h.hi, by have := h.lt; omega, h.len, by rw [hk]; exact h.low, ?_⟩
  have := congrArg (List.drop 1) h.high
  simpa [List.drop_drop] using this
theorem DelStS.keep {p : SeV → Bool} {xs dk : List SeV} {i j : Nat} (h : DelStS p xs dk i j) (hlt : j < xs.length) (hp : p xs[j] = false) : DelStS p xs (dk.set i xs[j]) (i + 1) (j + 1) := by
  have hk : (xs.take (j + 1)).filter (fun x => !p x) = (xs.take j).filter (fun x => !p x) ++ [xs[j]] := by rw [keptS_snoc hlt, hp]; rfl
  have hlt2 := h.lt
  have hlen := h.len
  refine ⟨hlt, by rw [hk, List.length_append, ← h.hi]; rfl, by omega, by rw [List.length_set]; exact h.len, ?_, ?_⟩
  · rw [hk, ← h.low, List.take_set, List.take_succ_eq_append_getElem (by omega : i < dk.length), List.set_append_right _ _ (by rw [List.length_take]; omega)]
    congr 1
    rw [List.length_take, Nat.min_eq_left (by omega), Nat.sub_self]; rfl
  · have h2 : (dk.set i xs[j]).drop (j + 1) = dk.drop (j + 1) := by rw [List.drop_set_of_lt (by omega)]
    rw [h2]
    have := congrArg (List.drop 1) h.high
    simpa [List.drop_drop] using this
def DFRelS (p : SeV → Bool) (S0 : Nat → Prop) (base rb cap : Nat) (Inv : List SeV → Option Nat → World → Prop) (xs : List SeV) (w : World) (s5 s6 : Value) (wr : World) : Prop :=
  ∃ (i j : Nat) (dk : List SeV), s5 = .int .i64 i ∧ s6 = .int .i64 j ∧ DelStS p xs dk i j ∧ RowB wr rb 203 3 cap (dk.flatMap scell) ∧ (∃ cur, Inv (xs.take j) cur wr) ∧ Kp (fun i => (S0 i ∨ base ≤ i) ∨ i = rb) w wr
/-- What comes of it. -/
def DeldS (p : SeV → Bool) (base : Nat) (Inv : List SeV → Option Nat → World → Prop) (xs : List SeV) (ad : Option Addr) (cap : Nat) (e : Ending) (w' : World) : Prop :=
  e = .returned (.slice ad (xs.filter fun x => !p x).length cap) ∧ w'.ownsRow base 203 3 (.slice ad (xs.filter fun x => !p x).length cap) (xs.filter fun x => !p x).length ((xs.filter fun x => !p x).flatMap scell) ∧ ∃ cur, Inv xs cur w'
set_option maxHeartbeats 3200000 in
theorem deleteFuncS_any {g : Nat} {lb : Array Value} {p : SeV → Bool} {S0 : Nat → Prop} {base rb : Nat} {Inv : List SeV → Option Nat → World → Prop} (hA : AskedS g lb p S0 base rb Inv) (rbase : Nat) (ad : Option Addr) (xs : List SeV) (cap : Nat) (w : World)
    (hown : w.ownsRow rbase 203 3 (.slice ad xs.length cap) xs.length (xs.flatMap scell)) (had : ∀ a, ad = some a → a.block = rb) (hrb : ad ≠ none → rb < base) (hb : base ≤ w.heap.size) (hm : xs.length ≤ 100000) (h0 : ∃ cur, Inv [] cur w) :
    Calls Tryz.prog 134 #[.slice ad xs.length cap, .func (.func g) #[] lb] w fun e w' => DeldS p rbase Inv xs ad cap e w' ∧ Kp (fun i => (S0 i ∨ base ≤ i) ∨ i = rb) w w' := by
  have hrow : ∀ a, ad = some a → ad = some ⟨rb, 0, none⟩ ∧ RowB w rb 203 3 cap (xs.flatMap scell) ∧ xs.length ≤ cap ∧ cap ≤ maxLen ∧ rbase ≤ rb := by
    intro a ha
    subst ha
    obtain ⟨b, rfl, h1, _, h3, h4, h5⟩ := RowB.of_owns hown
    have := had _ rfl
    simp only at this
    subst this
    exact ⟨rfl, h1, h3, h4, h5⟩
  have hsome : xs ≠ [] → ∃ a, ad = some a := by
    intro hne
    cases ad with
    | some a => exact ⟨a, rfl⟩
    | none =>
      exfalso
      obtain ⟨_, h2 | ⟨g, c, cur, hv, _⟩⟩ := hown
      · exact hne (List.eq_nil_of_length_eq_zero h2.2)
      · simp at hv
  have eg := hA.eg
  have HIF := Lib.hid (indexFuncS_any hA ad xs cap w (fun hne => by
    obtain ⟨a, ha⟩ := hsome hne
    obtain ⟨h1, h2, _⟩ := hrow a ha
    exact ⟨h1, hrb (by rw [ha]; simp), h2⟩) hm h0)
  have hown1 : ∀ w1, Kp (fun i => S0 i ∨ base ≤ i) w w1 → w1.ownsRow rbase 203 3 (.slice ad xs.length cap) xs.length (xs.flatMap scell) := by
    intro w1 hk
    refine ownsRow.kp hown hk ?_
    intro b hb h
    cases ad with
    | none => simp [Value.ownBlock] at hb
    | some a =>
      have hab : a.block = b := by simpa [Value.ownBlock] using hb
      have := had a rfl
      rw [hab] at this
      subst this
      have hrb := hrb (by simp)
      rcases h with h | h
      · exact (hA.s0 _ h).1 rfl
      · omega
  have HOWN := Lib.hid hown1
  have HROW := Lib.hid hrow
  have HSOME := Lib.hid hsome
  have HA := Lib.hid hA
  have HHB := Lib.hid hb
  clear hown hown1 had hrow hsome hA h0
  go_enter Tryz.func134, Tryz.ntmps134
  go_wp2_with (fail)
  refine HIF.out.mono ?_
  rintro e w1 ⟨hf, hk1⟩
  have HK1 := Lib.hid hk1
  clear HIF hk1
  rcases hf with ⟨rfl, hall, hcur⟩ | ⟨k, hk, rfl, hall, hp, hcur⟩
  · have HALL := Lib.hid hall
    have HC := Lib.hid hcur
    clear hall hcur
    go_wp2_with (fail)
    go_ret
    refine ⟨?_, HK1.out.mono (fun i _ h => .inl h)⟩
    unfold DeldS
    rw [show xs.filter (fun x => !p x) = xs from List.filter_eq_self.2 (fun x hx => by rw [HALL.out x hx]; rfl)]
    refine ⟨rfl, ?_, HC.out⟩
    exact HOWN.out _ HK1.out
  · have hne : xs ≠ [] := by rintro rfl; simp at hk
    obtain ⟨a, rfl⟩ := HSOME.out hne
    have hrb := hrb (by simp)
    obtain ⟨h1, hrow, hcap, hcm, hrr⟩ := HROW.out a rfl
    simp only [Option.some.injEq] at h1
    subst h1
    have HC := Lib.hid hcur
    have HROW1 : Hid (RowB w1 rb 203 3 cap (xs.flatMap scell)) := hrow.kp HK1.out (fun f => Or.elim f (fun h => (HA.out.s0 rb h).1 rfl) (fun h => by omega))
    have HD : Hid (DelStS p xs xs k (k + 1)) := by
      show DelStS p xs xs k (k + 1)
      have hks := keptS_start hk hall hp
      exact ⟨hk, by rw [hks, List.length_take]; omega, Nat.lt_succ_self _, rfl, by rw [hks], rfl⟩
    have HRR := Lib.hid hrr
    have hne1 : ((k : Int) == -1) = false := beq_eq_false_iff_ne.2 (by omega)
    unfold maxLen at hcm
    clear hall hp hcur hrow HROW HSOME HOWN hrr
    go_wp2_with (fail)
    go_loopw [5, 6] (fun s5 s6 wr => DFRelS p S0 base rb cap Inv xs w s5 s6 wr) (fun _ s6 _ => xs.length - (intOf s6).toNat)
    case atStart => exact ⟨k, k + 1, xs, rfl, by go_num, HD.out, HROW1.out, HC.out, HK1.out.mono (fun i _ h => .inl h)⟩
    case round =>
      clear HD HROW1 HC HK1 hk hne1
      obtain ⟨i, j, dk, rfl, rfl, hd, hrow, ⟨cur, hinv⟩, hkp⟩ := hrel
      have hij := hd.lt
      have hjn := hd.hj
      have HD := Lib.hid hd
      have HK := Lib.hid hkp
      have HI := Lib.hid hinv
      have HR := Lib.hid hrow
      clear hd hkp hinv hrow
      by_cases hlt : j < xs.length
      · have hlt2 : j < dk.length := by rw [HD.out.len]; exact hlt
        have hat := HD.out.at hlt
        have c0 := HR.out.cell (i := j * 3) (v := .int .i64 xs[j].id) (by rw [← hat]; exact rowK_cell scell 3 (fun _ => rfl) dk j hlt2 0 (by decide))
        have c1 := HR.out.cell (i := j * 3 + 1) (v := .int .i64 xs[j].span) (by rw [← hat]; exact rowK_cell scell 3 (fun _ => rfl) dk j hlt2 1 (by decide))
        have c2 := HR.out.cell (i := j * 3 + 2) (v := .int .i64 xs[j].till) (by rw [← hat]; exact rowK_cell scell 3 (fun _ => rfl) dk j hlt2 2 (by decide))
        obtain ⟨x, hx⟩ : ∃ x, xs[j] = x := ⟨_, rfl⟩
        rw [hx] at c0 c1 c2
        have HX := Lib.hid hx
        clear hx hat
        obtain ⟨W2, hW2⟩ : ∃ W2, wr.alloc (.cells #[.int .i64 x.id, .int .i64 x.span, .int .i64 x.till] 203) = W2 := ⟨_, rfl⟩
        have hx2 : Ext wr W2 := by rw [← hW2]; exact (Kp.refl _ _).alloc _
        have hb2 : Blk W2 wr.heap.size #[.int .i64 x.id, .int .i64 x.span, .int .i64 x.till] 203 := by rw [← hW2]; exact heap_alloc_new wr _
        have hwr : w.heap.size ≤ wr.heap.size := HK.out.size
        have hcon : Calls Tryz.prog g (#[.agg #[.int .i64 x.id, .int .i64 x.span, .int .i64 x.till]] ++ lb) W2 fun e w' => e = .returned (.bool (p x)) ∧ (∃ cur', Inv (xs.take (j + 1)) cur' w') ∧ Kp (fun i => (S0 i ∨ base ≤ i) ∨ i = rb) w w' ∧ RowB w' rb 203 3 cap (dk.flatMap scell) ∧ Blk w' wr.heap.size #[.int .i64 x.id, .int .i64 x.span, .int .i64 x.till] 203 := by
          have hi2 := HA.out.kp _ _ wr W2 HI.out hx2.kp
          have hcu := HA.out.cur (xs.take j) cur wr
          refine (HA.out.call (xs.take j) cur x W2 (by rw [List.length_take]; omega) hi2).mono ?_
          rintro e w' ⟨rfl, cur', h1, h2⟩
          refine ⟨rfl, ⟨cur', by rw [List.take_succ_eq_append_getElem hlt, HX.out]; exact h1⟩, (HK.out.ext hx2).next h2 ?_, (HR.out.kp hx2 (fun f => f)).kp h2 ?_, hb2.kp h2 ?_⟩
          · rintro i hi (h | h)
            · exact .inl (.inl h)
            · exact .inl (.inr (hcu i HI.out h).1)
          · intro f
            rcases f with h | h
            · exact (HA.out.s0 _ h).1 rfl
            · exact (hcu rb HI.out h).2.2 rfl
          · intro f
            rcases f with h | h
            · have := (HA.out.s0 _ h).2; have := HHB.out; omega
            · exact absurd (hcu _ HI.out h).2.1 (Nat.lt_irrefl _)
        have HCON := Lib.hid hcon
        have hil : i < dk.length := by omega
        have HD0 := Lib.hid (rowK_cell scell 3 (fun _ => rfl) dk i hil)
        have g0 := hb2.cell 0 _ rfl
        have g1 := hb2.cell 1 _ rfl
        have g2 := hb2.cell 2 _ rfl
        clear hcon hx2 hb2 hwr hlt2
        go_upto_region 8 with (fail)
        cases hp : p x with
        | true =>
          have HP := Lib.hid hp
          rw [hp] at HCON
          clear hp hW2
          go_wp2_with (go_at_fn g; refine HCON.out.mono ?_; rintro e w2 ⟨rfl, h1, h2, h3, h4⟩; have H1 := Lib.hid h1; have H2 := Lib.hid h2; have H3 := Lib.hid h3; clear h1 h2 h3 h4)
          go_light
          exact ⟨⟨i, j + 1, dk, rfl, by go_num, HD.out.skip hlt (by rw [HX.out]; exact HP.out), H3.out, H1.out, H2.out⟩, by simp [intOf]; omega⟩
        | false =>
          have HP := Lib.hid hp
          rw [hp] at HCON
          clear hp hW2
          go_wp2_with (go_at_fn g; refine HCON.out.mono ?_; rintro e w2 ⟨rfl, h1, h2, h3, h4⟩; have H1 := Lib.hid h1; have H2 := Lib.hid h2; have H3 := Lib.hid h3; have e0 := h4.cell 0 _ rfl; have e1 := h4.cell 1 _ rfl; have e2 := h4.cell 2 _ rfl; have d0 := h3.cell (i := i * 3) (v := .int .i64 dk[i].id) (HD0.out 0 (by decide)); have d1 := h3.cell (i := i * 3 + 1) (v := .int .i64 dk[i].span) (HD0.out 1 (by decide)); have d2 := h3.cell (i := i * 3 + 2) (v := .int .i64 dk[i].till) (HD0.out 2 (by decide)); have r0 := h3.free (i * 3); have r1 := h3.free (i * 3 + 1); have r2 := h3.free (i * 3 + 2); clear h1 h2 h3 h4)
          go_light
          obtain ⟨cur', hi'⟩ := H1.out
          refine ⟨⟨i + 1, j + 1, dk.set i x, by go_num, by go_num, ?_, ?_, ⟨cur', HA.out.kp _ _ w2 _ hi' (kp_set3 (S := fun i => i = rb) (Kp.refl _ _) rb _ _ _ _ rfl)⟩, kp_set3 H2.out rb _ _ _ _ (.inr rfl)⟩, by simp [intOf]; omega⟩
          · have := HD.out.keep hlt (by rw [HX.out]; exact HP.out)
            rwa [HX.out] at this
          · have := ((H3.out.set (i * 3) (.int .i64 x.id)).set (i * 3 + 1) (.int .i64 x.span)).set (i * 3 + 2) (.int .i64 x.till)
            rwa [flat_set3 scell x _ _ _ rfl (fun _ => rfl)] at this
      · have hj2 : j = xs.length := by omega
        subst hj2
        have hlen := HD.out.len
        have hfl := flat_len scell 3 (fun _ => rfl) dk
        obtain ⟨vs, hvl, hclr⟩ := run_clear_rows (P := Tryz.prog) wr 196 203 _ 3 rfl (by decide) Tryz.underlying196 Tryz.zeroValue203 (by intro v hv; simp [Value.cells] at hv; rcases hv with rfl | rfl | rfl <;> rfl) rb (i * 3) (xs.length - i) (cap - i) (by omega)
          (fun q hq => by
            have : i * 3 + q < (dk.flatMap scell).length := by rw [hfl]; omega
            rw [HR.out.cell (List.getElem?_eq_getElem this)]; rfl)
          (fun q _ => HR.out.free _)
        have HV := Lib.hid hvl
        clear hlen hfl
        go_wp2_with (fail)
        go_ret
        obtain ⟨cur', hi'⟩ : ∃ cur', Inv xs cur' wr := ⟨cur, by have := HI.out; rwa [List.take_length] at this⟩
        have hk : dk.take i = xs.filter (fun x => !p x) := by have := HD.out.low; rwa [List.take_length] at this
        have hil : i = (xs.filter fun x => !p x).length := by have := HD.out.hi; rwa [List.take_length] at this
        have hrow := RowB.setCells vs (i * 3) HR.out
        have hlen := HD.out.len
        have ho := hrow.owns (m := i) (base := rbase) (by rw [setMs_len, flat_len scell 3 (fun _ => rfl)]; omega) (by omega) (by unfold maxLen; omega) HRR.out
        rw [setMs_take _ _ _ _ (Nat.le_refl _), flat_take scell 3 (fun _ => rfl), hk] at ho
        refine ⟨⟨by rw [← hil]; rfl, ?_, cur', HA.out.kp _ _ wr _ hi' (kp_setCells _ _ _)⟩, HK.out.next (kp_setCells vs wr (i * 3)) (fun q _ e => .inr e)⟩
        rw [← hil]
        exact ho
end Go.Proofs.YtnkhmkcpdgmjmaaGreatDoor
