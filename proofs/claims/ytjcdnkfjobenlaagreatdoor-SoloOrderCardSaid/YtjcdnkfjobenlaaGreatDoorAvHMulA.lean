/- A tree told as the rising list of its nodes: contracts on its calls. -/
import Derived.Test.YtjcdnkfjobenlaaGreatDoorAvG21
import Derived.Test.YtjcdnkfjobenlaaGreatDoorAvG23
import Derived.Test.YtjcdnkfjobenlaaGreatDoorAvHAllN
import Derived.Test.YtjcdnkfjobenlaaGreatDoorAvG25
namespace Go.Proofs.YtjcdnkfjobenlaaGreatDoor
set_option maxRecDepth 100000
open Go.RowKit Av

/-- What is known of a tree that ops have made. -/
structure GoodQ (room : Int) (P : Pt) : Prop where
  snd : SoundP room P
  free : PtN P
  parts : AllN PartsOk P
theorem GoodQ.nil {room : Int} (h : 0 ≤ room) : GoodQ room [] := ⟨SoundP.nil h, fun e he => by (cases he), AllN.nil _⟩
theorem GoodQ.step {room : Int} {P : Pt} (h : GoodQ room P) {K : Nat} (hk : PtK K P) (o : OpV) (sess z : Int) : GoodQ room (doP room P o sess z false).1 :=
  ⟨h.snd.doP hk h.free _ _ _, h.free.doP _ _ _ _ _, h.parts.doP (partsOk_inv o sess z) _ _⟩
theorem lenQ_same {t u : Pt} (ht : (t.map (·.1)).Nodup) (hu : (u.map (·.1)).Nodup) (e : ∀ p, mget u p = mget t p) : u.length = t.length := by
  have h := own_same hu ht e
  rw [← own_len, h, own_len]
theorem GoodQ.same {room : Int} {t u : Pt} (h : GoodQ room t) (e : ∀ p, mget u p = mget t p) (ht : (t.map (·.1)).Nodup) (hu : (u.map (·.1)).Nodup) : GoodQ room u := by
  have hl := lenQ_same ht hu e
  have hal : ∀ p, mget t p = mget u p := fun p => (e p).symm
  refine ⟨⟨fun p n hp => h.snd.good p n (by rw [← e]; exact hp), fun p n hp => h.snd.cnt p n (by rw [← e]; exact hp), fun p n hp => h.snd.eph p n (by rw [← e]; exact hp), fun p n hp x hx => ?_, fun p n hp up hu2 => ?_, by rw [hl]; exact h.snd.size⟩, fun x hx y hy => ?_, fun p n hp => h.parts p n (by rw [← e]; exact hp)⟩
  · rw [e]; exact h.snd.kids p n (by rw [← e]; exact hp) x hx
  · obtain ⟨m, h1, h2⟩ := h.snd.par p n (by rw [← e]; exact hp) up hu2
    exact ⟨m, by rw [e]; exact h1, h2⟩
  · have h1 := mget_of_mem hu (k := x.1) hx
    rw [e] at h1
    exact h.free _ (mget_mem h1) y hy
/-- A tree at block b, its map m, its nodes t: it tells L. -/
structure TrA (w0 w : World) (b m : Nat) (room : Int) (K : Nat) (t : Tr) (L : RL) : Prop where
  ts : TS w0 w b m room K t
  srt : SortedAs L (pl t)
  good : GoodQ room (pl t)
theorem TrA.ext {w0 w w' : World} {b m : Nat} {room : Int} {K : Nat} {t : Tr} {L : RL} (h : TrA w0 w b m room K t L) (k : Ext w w') : TrA w0 w' b m room K t L := ⟨h.ts.ext k, h.srt, h.good⟩
theorem TrA.mono {w0 w : World} {b m : Nat} {room : Int} {K M : Nat} {t : Tr} {L : RL} (h : TrA w0 w b m room K t L) (hk : K ≤ M) : TrA w0 w b m room M t L := ⟨⟨h.ts.tr, h.ts.pk.mono hk, h.ts.ex⟩, h.srt, h.good⟩
theorem TrA.own {w0 w : World} {b m : Nat} {room : Int} {K : Nat} {t : Tr} {L : RL} (h : TrA w0 w b m room K t L) : L = ownL (pl t) := h.srt.own h.ts.pk.1
theorem TrA.len {w0 w : World} {b m : Nat} {room : Int} {K : Nat} {t : Tr} {L : RL} (h : TrA w0 w b m room K t L) : L.length = (pl t).length := by rw [h.own, own_len]
theorem trNew (room : Int) (w0 w : World) (hx : Ext w0 w) (h1 : 1 ≤ room) (h2 : room ≤ 500) : Calls Tryz.prog 12 #[.int .i64 room] w fun e w' => ∃ b m, e = .returned (.tuple #[.pointer (some ⟨b, 0, none⟩), .int .i64 0]) ∧ TrA w0 w' b m room 0 [] [] ∧ Ext w w' ∧ w.heap.size ≤ b ∧ w.heap.size ≤ m := by
  refine (tsNew room w0 w hx h1 h2).mono ?_
  rintro e w' ⟨b, m, rfl, h3, h4, h5, h6⟩
  exact ⟨b, m, rfl, ⟨h3, ⟨List.Pairwise.nil, fun _ => rfl⟩, GoodQ.nil (by omega)⟩, h4, h5, h6⟩
theorem place_path {room : Int} {t : Pt} {p : ByteArray} {f : Int} (hp : p.size ≤ 1000000) : (placeP room t p f).1.size ≤ 1000000 := by
  have hf : ∀ q : ByteArray, q.size ≤ 1000000 → (finQ room t q).1.size ≤ 1000000 := fun q hq => by
    unfold finQ
    split
    · exact Nat.zero_le _
    · split
      · exact Nat.zero_le _
      · exact hq
  unfold placeP
  split
  · exact hf p hp
  · split
    · exact Nat.zero_le _
    · split
      · exact Nat.zero_le _
      · split
        · split
          · exact Nat.zero_le _
          · rename_i q hq
            refine hf _ ?_
            have := path_small ⟨q.toArray⟩ (number_some hq).2.2.2.2
            omega
        · exact hf p hp
/-- What an answer may hold. -/
structure RpB (K : Nat) (r : Rp) : Prop where
  names : r.names.length ≤ K
  path : r.path.size ≤ 1000000
theorem RpB.fail (K : Nat) (z : Int) : RpB K (failR z) := ⟨Nat.zero_le _, Nat.zero_le _⟩
theorem RpB.mono {K L : Nat} {r : Rp} (h : RpB K r) (hk : K ≤ L) : RpB L r := ⟨Nat.le_trans h.names hk, h.path⟩
theorem doP_bound {K : Nat} {room : Int} {t : Pt} (h : PtK K t) (o : OpV) (sess z : Int) (only : Bool) (hp : o.path.size ≤ 1000000) : RpB K (doP room t o sess z only).2 := by
  unfold doP
  split
  · exact RpB.fail K _
  · split
    · exact RpB.fail K _
    · split
      · unfold createP
        simp only
        split
        · exact RpB.fail K _
        · exact ⟨Nat.zero_le _, place_path hp⟩
      · split
        · unfold changeP
          split
          · exact RpB.fail K _
          · split
            · exact RpB.fail K _
            · split
              · split
                · exact RpB.fail K _
                · exact ⟨Nat.zero_le _, hp⟩
              · split
                · exact ⟨Nat.zero_le _, hp⟩
                · exact ⟨Nat.zero_le _, hp⟩
        · unfold readP
          split
          · exact RpB.fail K _
          · rename_i n hn
            refine ⟨?_, hp⟩
            show (if o.kind = 7 then n.names else []).length ≤ K
            split
            · exact (h.2 _ (mget_mem hn)).few
            · exact Nat.zero_le _
def TrDone (w0 w : World) (b m : Nat) (room : Int) (K : Nat) (t : Tr) (X : RL × Rp) (e : Ending) (w' : World) : Prop :=
  RpB K X.2 ∧ ∃ t' nv, e = .returned (resA X.2.err X.2.path X.2.data nv X.2.st) ∧ NmO w' nv X.2.names ∧ TrA w0 w' b m room (K + 1) t' X.1 ∧ Kp (nodeFr m t) w w' ∧ Fresh w t t'
theorem trDo {w0 w : World} {b m : Nat} {room : Int} {K : Nat} {t : Tr} {L : RL} (h : TrA w0 w b m room K t L) (hG : GT w0) (hK : K ≤ 100000) (o : OpV) (sess z : Int) (hp : o.path.size ≤ 1000000) (hd : o.data.size ≤ 1000000) :
    Calls Tryz.prog 15 #[.pointer (some ⟨b, 0, none⟩), .agg #[.int .i64 o.kind, .string o.path, .string o.data, .int .i64 o.ver, .int .i64 o.flags], .int .i64 sess, .int .i64 z] w fun e w' => TrDone w0 w b m room K t (doL room L o sess z) e w' := by
  refine (tsDo h.ts hG hK o sess z hp hd).mono ?_
  rintro e w' ⟨t', nv, he, ho, h1, h2, h3, h4⟩
  obtain ⟨e1, e2⟩ := doL_doP (room := room) h.srt h.ts.pk.1 o sess z
  refine ⟨by rw [e1]; exact doP_bound h.ts.pk o sess z false hp, t', nv, by rw [e1]; exact he, by rw [e1]; exact ho, ⟨h1, by rw [h2]; exact e2, by rw [h2]; exact h.good.step h.ts.pk o sess z⟩, h3, h4⟩
theorem trCopy {w0 w : World} {b m : Nat} {room : Int} {K : Nat} {t : Tr} {L : RL} (h : TrA w0 w b m room K t L) (hK : K ≤ 100000) :
    Calls Tryz.prog 84 #[.pointer (some ⟨b, 0, none⟩)] w fun e w' => ∃ b' m' c, e = .returned (.pointer (some ⟨b', 0, none⟩)) ∧ TrA w w' b' m' room K c L ∧ Apart b m t b' m' c ∧ Ext w w' := by
  refine (treeCopy_any w0.heap.size b m room t w h.ts.tr (h.ts.pk.ok hK)).mono ?_
  rintro e w' ⟨b', m', c, rfl, h1, h2, h3⟩
  have hn : ((pl c).map (·.1)).Nodup := by rw [keys_pl]; exact h1.keys
  exact ⟨b', m', c, rfl, ⟨⟨h1, h.ts.pk.same hn h2, h3⟩, h.srt.congr (fun p => (h2 p).symm), h.good.same h2 h.ts.pk.1 hn⟩, Apart.new h.ts.tr h1 (Nat.le_refl _), h3⟩
/-- Blocks of cells, none of them a tree's, a node's, or of strings. -/
def Other (w : World) (S : Nat → Prop) : Prop := ∀ i, S i → ∃ cur T f, w.heap[i]? = some (.cells cur T f) ∧ T ≠ trT ∧ T ≠ ndT ∧ T ≠ strT
theorem Other.blk {w : World} {r : Nat} {A : Array Value} {T : TypeId} (h : Blk w r A T) (h1 : T ≠ trT) (h2 : T ≠ ndT) (h3 : T ≠ strT) : Other w (fun i => i = r) := fun i hi => by
  have e : i = r := hi
  subst e
  exact ⟨A, T, (0, 0), h, h1, h2, h3⟩
theorem Other.row {w : World} {base k n : Nat} {T : TypeId} {v : Value} {xs : List Value} (h : w.ownsRow base T k v n xs) (h1 : T ≠ trT) (h2 : T ≠ ndT) (h3 : T ≠ strT) : Other w (fun i => v.ownBlock = some i) := fun i hi => by
  obtain ⟨cur, f, hc⟩ := own_type h hi
  exact ⟨cur, T, f, hc, h1, h2, h3⟩
theorem Other.noT {w : World} {S : Nat → Prop} (h : Other w S) : NoT w S strT := fun i hi cur f hc => by
  obtain ⟨cur2, T, f2, h1, _, _, h2⟩ := h i hi
  rw [h1] at hc
  simp only [Option.some.injEq, Obj.cells.injEq] at hc
  exact h2 hc.2.1
/-- A tree stands where others' blocks are written. -/
theorem TrA.aside {S : Nat → Prop} {w0 w w' : World} {b m : Nat} {room : Int} {K : Nat} {t : Tr} {L : RL} (h : TrA w0 w b m room K t L) (k : Kp S w w') (hb : ∀ i, S i → w0.heap.size ≤ i) (ho : Other w S) : TrA w0 w' b m room K t L := by
  refine ⟨⟨h.ts.tr.apart k (fun i hi hs => ?_) (fun i hs _ cur f => ho.noT i hs cur f), h.ts.pk, h.ts.ex.next k (fun i hi hs => by have := hb i hs; omega)⟩, h.srt, h.good⟩
  obtain ⟨cur, T, f, h1, h2, h3, h4⟩ := ho i hs
  rcases hi with rfl | hi
  · have hbk : w.heap[i]? = some (.cells _ trT (0, 0)) := h.ts.tr.blk
    rw [h1] at hbk
    simp only [Option.some.injEq, Obj.cells.injEq] at hbk
    exact h2 hbk.2.1
  · exact h3 (h.ts.tr.types hi h1)
end Go.Proofs.YtjcdnkfjobenlaaGreatDoor
