/- Appends, in a region that draws its order, to a row that was there. No program. -/
import Derived.Test.YtiplmahjmkmddaaDoorAvDagApp
import Derived.Maps.AppendAt
namespace Av
set_option maxRecDepth 100000
open Go Go.RowKit
/-- From base on anything; of the row v its spare places alone. -/
def Rr (base : Nat) (e : TypeId) (k : Nat) (v : Value) (n : Nat) (xs : List Value) (a b : World) : Prop :=
  Kp (fun i => base ≤ i ∨ v.ownBlock = some i) a b ∧ (a.ownsRow 0 e k v n xs → b.ownsRow 0 e k v n xs)
section
variable {base : Nat} {e : TypeId} {k : Nat} {v : Value} {n : Nat} {xs : List Value}
theorem Rr.refl (w : World) : Rr base e k v n xs w w := ⟨Kp.refl _ _, fun h => h⟩
theorem Rr.trans {a b c : World} (h : Rr base e k v n xs a b) (g : Rr base e k v n xs b c) : Rr base e k v n xs a c := ⟨h.1.trans g.1, fun x => g.2 (h.2 x)⟩
theorem Rr.ext {a b : World} (h : Ext a b) : Rr base e k v n xs a b := ⟨Ext.kp h, fun x => ownsRow.ext x h⟩
end
theorem append_keeps {P : Program} (w : World) (t ty e : TypeId) (i : TypeInfo) (z : Value) (ht : P.underlying t = some (.slice e)) (hi : P.info? e = some i) (hz : i.zero = some z)
    (v : Value) (n : Nat) (xs : List Value) (hown : w.ownsRow 0 e i.size v n xs) (ad : Addr) (m c : Nat) (news : List Value) (hl : news.length = m * i.size) (hnews : ∀ j u, news[j]? = some u → w.cell? (ad.add j) = some u) (h1 : ∀ u ∈ news, u.oneCell' = true)
    (h63 : n + m ≤ maxLen) (hbytes : (n + m) * i.bytes ≤ 140737488355328) {v' : Value} {w' : World} (hr : (Builtin.append_ #[t, t] ty #[v, .slice (some ad) m c]).run P w = .ok v' w') : w'.ownsRow 0 e i.size v n xs := by
  rcases hown.2 with ⟨rfl, rfl⟩ | ⟨g, cap, cur, rfl, hbg, hg, hnc, hcm, hcs, htake⟩
  · exact ⟨hown.1, .inl ⟨rfl, rfl⟩⟩
  · by_cases hroom : n + m ≤ cap
    · have hfit : n * i.size + news.length ≤ cur.size := by rw [hl, hcs, ← Nat.add_mul]; exact Nat.mul_le_mul_right _ hroom
      have hr2 := run_append_room (P := P) w t ty e i ht hi g n cap cur hg ad m c news hl hnews h1 hroom hfit
      rw [hr2] at hr
      simp only [Result.ok.injEq] at hr
      rw [← hr.2]
      have hlt : (cur.toList.take (n * i.size)).length = n * i.size := by rw [htake]; exact hown.1
      refine ⟨hown.1, .inr ⟨g, cap, _, rfl, hbg, setRow_heap w g cur _ e _ hg, hnc, hcm, ?_, ?_⟩⟩
      · simp only [List.size_toArray, List.length_append, List.length_take, List.length_drop, Array.length_toList]
        omega
      · rw [List.append_assoc, List.take_append_of_le_length (by rw [hlt]; exact Nat.le_refl _), List.take_of_length_le (by rw [hlt]; exact Nat.le_refl _)]
        exact htake
    · have holds : ∀ j u, xs[j]? = some u → w.cell? ((⟨g, 0, none⟩ : Addr).add j) = some u := hown.cells (g := g) rfl
      have hr2 := run_append_grow (P := P) w t ty e i z ht hi hz ⟨g, 0, none⟩ n cap xs hown.1 holds ad m c news hl hnews (by omega) (by unfold maxLen at h63; omega) (growslice_fits (by omega) hbytes)
      rw [hr2] at hr
      simp only [Result.ok.injEq] at hr
      rw [← hr.2]
      exact ownsRow.ext hown ((Kp.refl _ _).drew.alloc _)
theorem dUpon_appR {P : Program} {o : Oper} {a : Act} {w : World} {K : Value → World → Prop} {d : Tmp} (hd : o.dst = .some d) (hlt : decide (d < a.tmps.size) = true) (t e : TypeId) (k : Nat) (hk : 0 < k) (hfacts : ElemOk P t e k)
    (hgd : o.guard = none) (s x : Operand) (ho : o.op = .call { callee := .builtin .append, args := #[s, x], argTypes := #[t, t] })
    (v : Value) (n : Nat) (xs : List Value) (hs : a.eval s = v) (hown : w.ownsRow 0 e k v n xs)
    (u : Value) (m : Nat) (ys : List Value) (hx : a.eval x = u) (base : Nat) (hu : BoxL base e m ys u w) (hl : ys.length = m * k) (hone : ∀ y ∈ ys, y.oneCell' = true) (hn : n + m ≤ 1000000)
    (h : ∀ v' w', w'.ownsRow 0 e k v' (n + m) (xs ++ ys) → w.grownBy w' v.ownBlock → w'.ownsRow 0 e k v n xs → (v'.ownBlock = v.ownBlock ∨ v'.ownBlock = some w.heap.size) → K v' w') : DUpon P K ((execOp a.eval o).run P w) := by
  obtain ⟨ht, hi⟩ := hfacts
  cases hie : P.info? e with
  | none => simp [hie] at hi
  | some i =>
    simp only [hie, Option.map_some, Option.some.injEq, Prod.mk.injEq, decide_eq_true_eq] at hi
    obtain ⟨hz, hsz, hby⟩ := hi
    cases hze : i.zero with
    | none => simp [hze] at hz
    | some z =>
      simp only [hze, Option.map_some, Option.some.injEq] at hz
      subst hsz
      obtain ⟨g, hg, rfl, hblk⟩ := hu
      have hnews : ∀ j q, ys[j]? = some q → w.cell? ((⟨g, 0, none⟩ : Addr).add j) = some q := by
        intro j q hj
        rw [show (⟨g, 0, none⟩ : Addr).add j = ⟨g, j, none⟩ by by_cases h : j = 0 <;> simp [Addr.add, h]]
        exact Blk.cell hblk j q (by simpa using hj)
      have hnb : (n + m) * i.bytes ≤ 140737488355328 := by
        have := Nat.mul_le_mul hn hby
        omega
      obtain ⟨v', w', hr, h2, h3, _, h4⟩ := run_append_own_at (P := P) w 0 t o.type e i z i.size i.bytes ht hie hze rfl rfl hz hk v n xs hown ⟨g, 0, none⟩ m m ys hl hnews hone (by unfold maxLen; omega) hnb (Nat.zero_le _)
      have h5 := append_keeps w t o.type e i z ht hie hze v n xs hown ⟨g, 0, none⟩ m m ys hl hnews hone (by unfold maxLen; omega) hnb hr
      refine DUpon.of_list (ops := #[]) hd (of_decide_eq_true hlt) hgd ?_
      refine wpList_plain hgd fun _ hK => ?_
      unfold Oper.wp execOp
      simp only [ho, resolve, invoke, builtin, Sem.run_bind, Sem.run_pure, Result.andThen_ok, List.map_toArray, List.map_cons, List.map_nil, hs, hx, hr]
      exact hK _ _ ⟨rfl, v', rfl, h v' w' h2 h3 h5 h4⟩
/-- A region in which a row that was there is appended to. -/
theorem wp_region_dagQ (base : Nat) (e : TypeId) (ke : Nat) (v : Value) (m : Nat) (xs : List Value) {P : Program} {id : Nat} {Q : Exit → Act → World → Prop} {a : Act} {w : World} {l : List Oper} (n : Nat) (C : List (Tmp × List Tmp × List Tmp)) (S : List (Tmp × TSpec)) (hst : Stab (fun a b => Ext a b) S) (hm : P.follows .mixedOrders = true) (hB : dagB .any l.toArray C n = true) (hsz : dstB l.toArray a.tmps.size = true)
    (h : WpD P l.toArray (fun a b => Ext a b) (fun a b => Rr base e ke v m xs a b) w S C (fun a' => ∀ w', Rr base e ke v m xs w w' → Ends l.toArray S C n a' w' → wpList P l.toArray Q (l.drop n) a' w') (l.take n) 0 a) : (Code.region id l.toArray true).wp P Q a w :=
  wp_region_dagR n S C (fun a b => Rr base e ke v m xs a b) (fun w => Rr.refl w) (fun _ _ _ h k => h.trans k) (Rr.ext (Kp.refl _ w).drew) hm hB hsz (h.out hst (fun _ _ h => Rr.ext h))
/-- An append of a literal just laid, and where the new slice lies. -/
theorem wpList_appAt {P : Program} {ops : Array Oper} {rest : List Oper} {o : Oper} {a : Act} {Q : Exit → Act → World → Prop} {w : World} (t e : TypeId) (k : Nat) (hk : 0 < k) (hfacts : ElemOk P t e k)
    (hgd : o.guard = none) (s x : Operand) (ho : o.op = .call { callee := .builtin .append, args := #[s, x], argTypes := #[t, t] })
    (base : Nat) (v : Value) (n : Nat) (xs : List Value) (hs : a.eval s = v) (hown : w.ownsRow base e k v n xs)
    (g m : Nat) (ys : List Value) (hx : a.eval x = .slice (some ⟨g, 0, none⟩) m m) (hblk : w.heap[g]? = some (.cells ys.toArray e (0, 0))) (hl : ys.length = m * k) (hone : ∀ y ∈ ys, y.oneCell' = true) (hn : n + m ≤ 1000000) (hbase : base ≤ w.heap.size)
    (h : ∀ v' w', w'.ownsRow base e k v' (n + m) (xs ++ ys) → Kp (fun k => v.ownBlock = some k) w w' → (v'.ownBlock = v.ownBlock ∨ v'.ownBlock = some w.heap.size) → wpList P ops Q rest (a.put o.dst v') w') : wpList P ops Q (o :: rest) a w := by
  obtain ⟨ht, hi⟩ := hfacts
  cases hie : P.info? e with
  | none => simp [hie] at hi
  | some i =>
    simp only [hie, Option.map_some, Option.some.injEq, Prod.mk.injEq, decide_eq_true_eq] at hi
    obtain ⟨hz, hsz, hby⟩ := hi
    cases hze : i.zero with
    | none => simp [hze] at hz
    | some z =>
      simp only [hze, Option.map_some, Option.some.injEq] at hz
      subst hsz
      have hnews : ∀ j q, ys[j]? = some q → w.cell? ((⟨g, 0, none⟩ : Addr).add j) = some q := by
        intro j q hj
        rw [show (⟨g, 0, none⟩ : Addr).add j = ⟨g, j, none⟩ by by_cases h : j = 0 <;> simp [Addr.add, h]]
        exact Blk.cell hblk j q (by simpa using hj)
      have hnb : (n + m) * i.bytes ≤ 140737488355328 := by
        have := Nat.mul_le_mul hn hby
        omega
      obtain ⟨v', w', hr, h2, h3, _, h4⟩ := run_append_own_at (P := P) w base t o.type e i z i.size i.bytes ht hie hze rfl rfl hz hk v n xs hown ⟨g, 0, none⟩ m m ys hl hnews hone (by unfold maxLen; omega) hnb hbase
      refine wpList_plain hgd fun _ hK => ?_
      unfold Oper.wp execOp
      simp only [ho, resolve, invoke, builtin, Sem.run_bind, Sem.run_pure, Result.andThen_ok, List.map_toArray, List.map_cons, List.map_nil, hs, hx, hr]
      exact hK _ _ (h v' w' h2 ((Kp.refl _ w).grown h3 (fun k hk _ => hk)) h4)
end Av
