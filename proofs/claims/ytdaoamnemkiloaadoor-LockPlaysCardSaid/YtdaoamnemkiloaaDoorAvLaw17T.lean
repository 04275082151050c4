/- Walk of package aviarylaw17: LockApart. -/
import Derived.Test.YtdaoamnemkiloaaDoorAvLaw17R
import Derived.Test.YtdaoamnemkiloaaDoorAvLockLaw3
import Derived.Test.YtdaoamnemkiloaaDoorAvApp
namespace Go.Proofs.YtdaoamnemkiloaaDoor
set_option maxRecDepth 100000
open Go.RowKit Av

theorem wrap_next (a : Int) : wrap64 (a + 1) ≠ a := by
  unfold wrap64
  simp
  omega
theorem own_ge {w : World} {base : Nat} {e : TypeId} {k : Nat} {v : Value} {n : Nat} {xs : List Value} (h : w.ownsRow base e k v n xs) : ∀ b, v.ownBlock = some b → base ≤ b := by
  obtain ⟨_, h2⟩ := h
  rcases h2 with ⟨rfl, _⟩ | ⟨g, cap, cur, rfl, hb, _⟩
  · intro b hb; simp [Value.ownBlock] at hb
  · intro b hb'; simp [Value.ownBlock] at hb'; omega
/-- The loop that takes, frees, and keeps the paths. -/
def ApRel (w : World) (base bl m : Nat) (xs : List ActV) (i va : Value) (wr : World) : Prop :=
  ∃ n : Nat, n ≤ xs.length ∧ i = .int .i64 n ∧ ∃ (st : St) (ps : List ByteArray), LS w wr bl m st ∧ Apart st ∧ wr.ownsRow base 9 1 va ps.length (ps.map Value.string) ∧ (ps.length ≤ 8 * n ∧ st.length ≤ 8 * n) ∧ ∀ p ∈ ps, p.size ≤ maxLen
/-- The loop that looks. -/
def ApLook (w : World) (bl m : Nat) (st : St) (va : Value) (ps : List ByteArray) (i : Value) (wr : World) : Prop :=
  ∃ n : Nat, n ≤ ps.length ∧ i = .int .i64 n ∧ LS w wr bl m st ∧ Strs wr va ps
def ApRel2 (w : World) (base bl m : Nat) (xs : List ActV) (i va : Value) (wr : World) : Prop := ApRel w base bl m xs i va wr ∧ base ≤ wr.heap.size
/-- Take, and what it leaves alone. -/
theorem LS.takeK {w0 w : World} {b m : Nat} {st : St} (hG : GL w0) (h : LS w0 w b m st) (who : Int) (v : Value) (ps : List ByteArray) (hs : Strs w0 v ps) (hps : ∀ p ∈ ps, p.size ≤ maxLen) :
    Calls Tryd.prog 12 #[.pointer (some ⟨b, 0, none⟩), .int .i64 who, v] w fun e w' =>
      e = .returned (.tuple #[.string ((wrongL st who ps).getD ⟨#[]⟩), .bool (!(wrongL st who ps).isSome)]) ∧ LS w0 w' b m (takeL st who ps) ∧ Kp (fun i => i = m) w w' := by
  refine (take_any b m st who v ps w h.here h.gl (hs.ext h.ext) hps ?_).mono ?_
  · intro hne x hx
    obtain ⟨a, c, rfl, _, _, ho⟩ := Strs.open hs
    obtain ⟨b', off, rfl, hb, _⟩ := ho (List.length_pos_iff.2 hne)
    have := h.new
    simp [Value.ownBlock] at hx
    omega
  · rintro e w' ⟨rfl, h2, h3⟩
    exact ⟨rfl, h.next h3 h2 (h.ne hG), h3⟩
theorem LS.freeK {w0 w : World} {b m : Nat} {st : St} (hG : GL w0) (h : LS w0 w b m st) (who : Int) (hn : st.length ≤ 1000000) :
    Calls Tryd.prog 14 #[.pointer (some ⟨b, 0, none⟩), .int .i64 who] w fun e w' => e = .returned (.int .i64 (freeN st who)) ∧ LS w0 w' b m (freeL st who) ∧ Kp (fun i => i = m) w w' := by
  refine (free_any b m st who w h.here hn).mono ?_
  rintro e w' ⟨rfl, h2, h3⟩
  exact ⟨rfl, h.next h3 h2 (h.ne hG), h3⟩
theorem LS.other {w0 w w' : World} {b m : Nat} {st : St} {S : Nat → Prop} (h : LS w0 w b m st) (k : Kp S w w') (hS : ∀ i, S i → m < i ∧ b < i) (_hg : 0 < w0.heap.size) : LS w0 w' b m st := by
  have hn := h.new
  refine ⟨h.here.kp k (fun s => ?_) (fun s => ?_), h.gl.kp k (fun s => ?_), h.ext.next k (fun i hi s => ?_), h.new⟩
  · have := hS _ s; omega
  · have := hS _ s; omega
  · have := hS _ s; omega
  · have := hS _ s; omega

set_option maxRecDepth 100000 in
set_option maxHeartbeats 4000000 in
theorem lockApart_any (va : Value) (xs : List ActV) (w : World) (hG : GL w) (ha : Acts w va xs) :
    Calls Tryd.prog 6 #[va] w fun e w' => e = .returned (.bool true) ∧ Ext w w' := by
  have hgl : 0 < w.heap.size := by obtain ⟨x, hx⟩ := hG; exact World.block_lt_of_cell? w _ hx
  obtain ⟨aa, ca, rfl, hca, hma, hoa⟩ := Acts.open ha
  unfold maxLen at hma
  have HOA := Lib.hid hoa
  have HSA := Lib.hid ha.2
  clear ha hoa
  by_cases hla : xs.length ≤ 40
  · go_enter Tryd.func6, Tryd.ntmps6
    go_wp2_with (fail)
    refine (awake_any w hG).mono ?_
    rintro e w1 ⟨rfl, hx1⟩
    go_wp2_with (fail)
    refine (lockNew_any w1).mono ?_
    rintro e w2 ⟨bl, m, rfl, h2, hb, hm, hx2⟩
    have hlt2 := h2.lt
    have s2 : LS w w2 bl m [] := LS.start hG h2 (by have := hx1.size; omega) (hx1.ext hx2)
    obtain ⟨base, hbase⟩ : ∃ b, w2.heap.size = b := ⟨_, rfl⟩
    have hbl : bl < base ∧ m < base ∧ w.heap.size ≤ base := by have := s2.ext.size; omega
    have BS := Lib.hid hbl
    have hbw : base ≤ w2.heap.size := by omega
    clear h2 hb hm hx1 hx2 hlt2 hbase hbl
    go_wp2_with (fail)
    go_loopw [5, 4] (ApRel2 w base bl m xs) (fun i _ _ => xs.length - (intOf i).toNat)
    case atStart => exact ⟨⟨0, Nat.zero_le _, rfl, [], [], s2, Apart.nil, ⟨rfl, .inl ⟨rfl, rfl⟩⟩, by simp, by simp⟩, hbw⟩
    case round =>
      clear s2 hbw
      obtain ⟨⟨n, hn, rfl, st, ps, sr, hap, hown, hpl, hps⟩, hbw⟩ := hrel
      have HAP := Lib.hid hap
      have HPS := Lib.hid hps
      clear hap hps
      by_cases hlt : n < xs.length
      · obtain ⟨ba, oa, rfl, hba, hcaa⟩ := HOA.out (by omega)
        obtain ⟨hstr, hsz, hshape⟩ := HSA.out _ (List.getElem_mem hlt)
        have HS := Lib.hid hstr
        have HSZ := Lib.hid hsz
        have HSH := Lib.hid hshape
        obtain ⟨a2, c2, hv, hc2, hm2, _⟩ := Strs.open hstr
        obtain ⟨hc0, hc1, hc2'⟩ := hcaa n hlt
        rw [hv] at hc2'
        have HC0 := Lib.hid (fun wx (k : Ext w wx) => k.cell hc0 (fun f => f))
        have HC1 := Lib.hid (fun wx (k : Ext w wx) => k.cell hc1 (fun f => f))
        have HC2 := Lib.hid (fun wx (k : Ext w wx) => k.cell hc2' (fun f => f))
        have q0 := HC0.out wr sr.ext
        have q1 := HC1.out wr sr.ext
        have q2 := HC2.out wr sr.ext
        have k1 : (n : Int) < xs.length := by omega
        rw [hv] at HS HSH
        clear hcaa hstr hsz hc0 hc1 hc2' hv hshape
        unfold maxLen at hm2
        by_cases h8 : xs[n].ps.length ≤ 8
        · by_cases hop : xs[n].op = 0
          · have hop' : (xs[n].op == 0) = true := by rw [hop]; rfl
            clear hop
            go_wp2_with (fail)
            have sd := sr.drew
            have od : wr.drew.ownsRow base 9 1 _ ps.length (ps.map Value.string) := ownsRow.ext hown (Kp.refl _ wr).drew
            go_region_held3 (fun w' => w'.cell? ⟨ba, oa + n * 3 + 1, none⟩ = some (.int .i64 xs[n].who) ∧ w'.cell? ⟨ba, oa + n * 3 + 2, none⟩ = some (.slice a2 xs[n].ps.length c2) ∧ Ext w w')
              ((refine (fun hE => And.intro (HC1.out _ hE) (And.intro (HC2.out _ hE) hE)) ?_; first | exact sd.ext | exact (by assumption : LS w _ _ _ _ ∧ _).1.ext))
              ((go_at_call 12; refine (LS.takeK hG sd xs[n].who _ xs[n].ps HS.out HSZ.out).mono ?_; rintro e w' ⟨rfl, s'⟩))
            obtain ⟨s', k'⟩ := s'
            have ow : w'.ownsRow base 9 1 _ ps.length (ps.map Value.string) := ownsRow.kp od k' (fun b hb e => by have h1 := own_ge od b hb; have h2 := BS.out; omega)
            have q2' := HC2.out w' s'.ext
            have hsl := takeL_len st xs[n].who xs[n].ps
            have hb2 : base ≤ w'.heap.size := by have := k'.size; simp at this; omega
            clear sd od hown sr q0 q1 q2 k'
            go_wp2_with (at_builtin; refine wpList_appS 22 9 str_facts rfl _ _ rfl base _ _ _ rfl ow _ xs[n].ps rfl (HS.out.ext s'.ext) HSH.out ?c1 ?c2 ?_)
            case c1 => omega
            case c2 => exact hb2
            intro v' w'' hown' hkp'
            go_wp2
            go_roundw
            case rel =>
              go_light
              refine ⟨⟨n + 1, by omega, by go_num, takeL st xs[n].who xs[n].ps, ps ++ xs[n].ps, ?_, HAP.out.take _ _, ?_, ?_, ?_⟩, ?_⟩
              · refine s'.other hkp' (fun i hi => ?_) hgl
                have h1 := own_ge ow i hi
                have h2 := BS.out
                omega
              · simpa using hown'
              · simp only [List.length_append]; omega
              · intro p hp
                rcases List.mem_append.1 hp with h | h
                · exact HPS.out p h
                · exact HSZ.out p h
              · have := hkp'.size; omega
            case measure => simp [intOf]; omega
          · have hop' : (xs[n].op == 0) = false := by simpa using hop
            clear hop
            go_wp2_with (fail)
            refine (LS.freeK hG sr xs[n].who (by omega)).mono ?_
            rintro e w' ⟨rfl, s', k'⟩
            have ow : w'.ownsRow base 9 1 _ ps.length (ps.map Value.string) := ownsRow.kp hown k' (fun b hb e => by have h1 := own_ge hown b hb; have h2 := BS.out; omega)
            have hfl := freeN_add st xs[n].who
            have hsz := k'.size
            clear sr hown k' q0 q1 q2
            go_wp2_with (fail)
            go_light
            exact ⟨⟨⟨n + 1, by omega, by go_num, freeL st xs[n].who, ps, s', HAP.out.leave _, ow, by omega, HPS.out⟩, by omega⟩, by simp [intOf]; omega⟩
        · go_wp2_with (fail)
          go_ret
          go_light
          exact ⟨rfl, sr.ext⟩
      · obtain rfl : n = xs.length := by omega
        have hst := Strs.of_owns hown
        clear hown
        obtain ⟨a2, c2, rfl, hc2, hm2, hop2⟩ := Strs.open hst
        unfold maxLen at hm2
        go_wp2_with (fail)
        go_loopw [6] (ApLook w bl m st (.slice a2 ps.length c2) ps) (fun i _ => ps.length - (intOf i).toNat)
        case atStart => exact ⟨0, Nat.zero_le _, rfl, sr, hst⟩
        case round =>
          clear sr hst hop2
          obtain ⟨k, hk, rfl, sr, hst⟩ := hrel
          by_cases hlt2 : k < ps.length
          · obtain ⟨a3, c3, hv3, _, _, hop3⟩ := Strs.open hst
            obtain ⟨ba, oa, ha3, hba, hcaa⟩ := hop3 (by omega)
            obtain ⟨rfl, rfl⟩ : a2 = a3 ∧ c2 = c3 := by simpa using hv3
            subst ha3
            have HC := Lib.hid (fun wx (j : Ext wr wx) => j.cell (hcaa k hlt2) (fun f => f))
            have HST := Lib.hid hst
            have q0 := HC.out wr (Kp.refl _ _)
            have k1 : (k : Int) < ps.length := by omega
            have hz := HPS.out _ (List.getElem_mem hlt2)
            obtain ⟨u, hu⟩ : ∃ u, (parentL ps[k].data.toList).isSome = u := ⟨_, rfl⟩
            have HU := Lib.hid hu
            clear hop3 hcaa hv3 hst hu
            cases hp : mget st ps[k] with
            | none =>
              have HP := Lib.hid hp
              clear hp
              go_wp2_with (fail)
              refine (held_any bl m st ps[k] wr sr.here).mono ?_
              rw [HP.out]
              rintro e w8 ⟨rfl, rfl⟩
              go_wp2_with (fail)
              refine (refParent_any ps[k] wr hz).mono ?_
              rw [HU.out]
              rintro e w9 ⟨rfl, hx9⟩
              have s9 := sr.more hx9
              go_wp2_with (fail)
              refine (held_any bl m st _ w9 s9.here).mono ?_
              rintro e w10 ⟨rfl, rfl⟩
              have q9 := HC.out w9 hx9
              go_wp2_with (fail)
              go_light
              exact ⟨⟨k + 1, by omega, by go_num, s9, HST.out.ext hx9⟩, by simp [intOf]; omega⟩
            | some a =>
              obtain ⟨g1, g2, g3⟩ := apart_law HAP.out hp
              have HP := Lib.hid hp
              have G1 := Lib.hid g1
              have G2 := Lib.hid (g2 _ (wrap_next a))
              obtain ⟨o, ho⟩ : ∃ o, mget st (optS (parentL ps[k].data.toList)) = o := ⟨_, rfl⟩
              have HO := Lib.hid ho
              have G3 : Hid (∀ b, u = true → o = some b → (a != b) = false) := by
                have : ∀ b, u = true → o = some b → (a != b) = false := fun b hu hb => by
                  have := g3 b (HU.out.trans hu) (ho.trans hb)
                  simp [this]
                exact this
              clear hp g1 g2 g3 ho
              cases u
              · go_wp2_with (fail)
                refine (held_any bl m st ps[k] wr sr.here).mono ?_
                rw [HP.out]
                rintro e w8 ⟨rfl, rfl⟩
                go_wp2_with (fail)
                refine (refParent_any ps[k] wr hz).mono ?_
                rw [HU.out]
                rintro e w9 ⟨rfl, hx9⟩
                have s9 := sr.more hx9
                go_wp2_with (fail)
                refine (held_any bl m st _ w9 s9.here).mono ?_
                rw [HO.out]
                rintro e w10 ⟨rfl, rfl⟩
                have q9 := HC.out w9 hx9
                go_wp2_with (fail)
                refine (blocks_any bl m st a ps[k] w9 s9.here s9.gl hz).mono ?_
                rw [G1.out]
                rintro e w11 ⟨rfl, hx11⟩
                have q11 := HC.out w11 (hx9.ext hx11)
                have s11 := s9.more hx11
                go_wp2_with (fail)
                refine (blocks_any bl m st _ ps[k] w11 s11.here s11.gl hz).mono ?_
                rw [G2.out]
                rintro e w12 ⟨rfl, hx12⟩
                go_wp2_with (fail)
                go_light
                exact ⟨⟨k + 1, by omega, by go_num, s11.more hx12, HST.out.ext ((hx9.ext hx11).ext hx12)⟩, by simp [intOf]; omega⟩
              · cases o with
                | none =>
                  go_wp2_with (fail)
                  refine (held_any bl m st ps[k] wr sr.here).mono ?_
                  rw [HP.out]
                  rintro e w8 ⟨rfl, rfl⟩
                  go_wp2_with (fail)
                  refine (refParent_any ps[k] wr hz).mono ?_
                  rw [HU.out]
                  rintro e w9 ⟨rfl, hx9⟩
                  have s9 := sr.more hx9
                  go_wp2_with (fail)
                  refine (held_any bl m st _ w9 s9.here).mono ?_
                  rw [HO.out]
                  rintro e w10 ⟨rfl, rfl⟩
                  have q9 := HC.out w9 hx9
                  go_wp2_with (fail)
                  refine (blocks_any bl m st a ps[k] w9 s9.here s9.gl hz).mono ?_
                  rw [G1.out]
                  rintro e w11 ⟨rfl, hx11⟩
                  have q11 := HC.out w11 (hx9.ext hx11)
                  have s11 := s9.more hx11
                  go_wp2_with (fail)
                  refine (blocks_any bl m st _ ps[k] w11 s11.here s11.gl hz).mono ?_
                  rw [G2.out]
                  rintro e w12 ⟨rfl, hx12⟩
                  go_wp2_with (fail)
                  go_light
                  exact ⟨⟨k + 1, by omega, by go_num, s11.more hx12, HST.out.ext ((hx9.ext hx11).ext hx12)⟩, by simp [intOf]; omega⟩
                | some b =>
                  have hab := G3.out b rfl rfl
                  go_wp2_with (fail)
                  refine (held_any bl m st ps[k] wr sr.here).mono ?_
                  rw [HP.out]
                  rintro e w8 ⟨rfl, rfl⟩
                  go_wp2_with (fail)
                  refine (refParent_any ps[k] wr hz).mono ?_
                  rw [HU.out]
                  rintro e w9 ⟨rfl, hx9⟩
                  have s9 := sr.more hx9
                  go_wp2_with (fail)
                  refine (held_any bl m st _ w9 s9.here).mono ?_
                  rw [HO.out]
                  rintro e w10 ⟨rfl, rfl⟩
                  have q9 := HC.out w9 hx9
                  go_wp2_with (fail)
                  refine (blocks_any bl m st a ps[k] w9 s9.here s9.gl hz).mono ?_
                  rw [G1.out]
                  rintro e w11 ⟨rfl, hx11⟩
                  have q11 := HC.out w11 (hx9.ext hx11)
                  have s11 := s9.more hx11
                  go_wp2_with (fail)
                  refine (blocks_any bl m st _ ps[k] w11 s11.here s11.gl hz).mono ?_
                  rw [G2.out]
                  rintro e w12 ⟨rfl, hx12⟩
                  go_wp2_with (fail)
                  go_light
                  exact ⟨⟨k + 1, by omega, by go_num, s11.more hx12, HST.out.ext ((hx9.ext hx11).ext hx12)⟩, by simp [intOf]; omega⟩
          · go_wp2_with (fail)
            go_ret
            go_light
            exact ⟨rfl, sr.ext⟩
  · go_enter Tryd.func6, Tryd.ntmps6
    go_wp2_with (fail)
    refine (awake_any w hG).mono ?_
    rintro e w1 ⟨rfl, hx1⟩
    go_wp2_with (fail)
    go_ret
    exact ⟨rfl, hx1⟩
end Go.Proofs.YtdaoamnemkiloaaDoor
