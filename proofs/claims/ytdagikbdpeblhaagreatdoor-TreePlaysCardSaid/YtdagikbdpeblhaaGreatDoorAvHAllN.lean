/- Plain laws: what every node of a tree is, whatever is done; whose nodes they are. -/
import Derived.Test.YtdagikbdpeblhaaGreatDoorAvG14
namespace Go.Proofs.YtdagikbdpeblhaaGreatDoor
set_option maxRecDepth 100000
open Go.RowKit Av

def AllN (Pr : NodeV → Prop) (t : Pt) : Prop := ∀ p n, mget t p = some n → Pr n
theorem AllN.nil (Pr : NodeV → Prop) : AllN Pr [] := fun p n h => by cases h
theorem AllN.set {Pr : NodeV → Prop} {t : Pt} (h : AllN Pr t) (p : ByteArray) {n : NodeV} (hn : Pr n) : AllN Pr (mset t p n) := fun q m hm => by
  rw [mget_mset] at hm
  split at hm
  · simp only [Option.some.injEq] at hm
    subst hm
    exact hn
  · exact h q m hm
theorem AllN.del {Pr : NodeV → Prop} {t : Pt} (h : AllN Pr t) (p : ByteArray) : AllN Pr (mdel t p) := fun q m hm => by
  rw [mget_mdel] at hm
  split at hm
  · cases hm
  · exact h q m hm
theorem AllN.tell {Pr : NodeV → Prop} {t : Pt} (h : AllN Pr t) {f : NodeV → Bs → NodeV} {p : ByteArray} (hf : ∀ n, parentL p.data.toList ≠ none → Pr n → Pr (f n (lastL p.data.toList))) : AllN Pr (tellP f t p) := by
  unfold tellP
  split
  · exact h
  · rename_i up hu
    split
    · exact h
    · rename_i n hn
      exact h.set _ (hf n (by rw [hu]; simp) (h _ n hn))
theorem AllN.mono {P Q : NodeV → Prop} {t : Pt} (h : AllN P t) (hpq : ∀ n, P n → Q n) : AllN Q t := fun p n hp => hpq n (h p n hp)
/-- What an act keeps of a node's truth. -/
structure NodeInv (Pr : NodeV → Prop) (o : OpV) (sess z : Int) : Prop where
  new : goodO o = 0 → 1 ≤ sess → Pr (ndNew z (ownF o.flags sess) o.data)
  add : ∀ n (q : Bs), goodL q = true → parentL q ≠ none → Pr n → Pr (ndAdd n (lastL q))
  rem : ∀ n x, Pr n → Pr (ndRem n x)
  write : ∀ n, goodO o = 0 → Pr n → Pr (ndWrite n z o.data)
theorem goodO_path {o : OpV} (h : goodO o = 0) : goodL o.path.data.toList = true := by
  unfold goodO at h
  split at h
  · rename_i hf
    unfold formedB at hf
    simp only [Bool.and_eq_true] at hf
    simp [hf]
  · simp at h
theorem par_good {q : Bs} (h : parentL q ≠ none) : goodL q = true := by
  refine (good_iff_parts q).2 fun e => h ?_
  unfold parentL
  rw [e]; rfl
theorem AllN.doP {Pr : NodeV → Prop} {t : Pt} (h : AllN Pr t) {o : OpV} {sess z : Int} (hi : NodeInv Pr o sess z) (room : Int) (only : Bool) : AllN Pr (doP room t o sess z only).1 := by
  unfold Proofs.YtdagikbdpeblhaaGreatDoor.doP
  split
  · exact h
  · rename_i hg
    have hg0 : goodO o = 0 := by simpa using hg
    split
    · exact h
    · rename_i hs
      split
      · unfold createP
        simp only
        split
        · exact h
        · split
          · exact h
          · exact (h.set _ (hi.new hg0 (by omega))).tell (fun n hp hn => hi.add n _ (par_good hp) hp hn)
      · split
        · unfold changeP
          split
          · exact h
          · rename_i n hn
            split
            · exact h
            · split
              · split
                · exact h
                · show AllN Pr (if _ then _ else _)
                  split
                  · exact h
                  · exact (h.del _).tell (fun n _ hn => hi.rem n _ hn)
              · split
                · show AllN Pr (if _ then _ else _)
                  split
                  · exact h
                  · exact h.set _ (hi.write n hg0 (h _ n hn))
                · exact h
        · exact h
/-! Whose nodes they are. -/
def OwnedBy (S : List Int) (n : NodeV) : Prop := n.own = 0 ∨ (1 ≤ n.own ∧ n.own ∈ S)
theorem ownedBy_inv {S : List Int} (o : OpV) {sess : Int} (z : Int) (hs : 1 ≤ sess → sess ∈ S) : NodeInv (OwnedBy S) o sess z := by
  refine ⟨fun _ h1 => ?_, fun n q _ _ h => ?_, fun n x h => ?_, fun n _ h => h⟩
  · show ownF o.flags sess = 0 ∨ (1 ≤ ownF o.flags sess ∧ ownF o.flags sess ∈ S)
    unfold ownF
    split
    · exact .inr ⟨h1, hs h1⟩
    · exact .inl rfl
  · unfold OwnedBy
    rw [add_own]
    exact h
  · unfold OwnedBy
    rw [rem_own]
    exact h
/-! What a node's own parts say of each other. -/
def nameOk (x : Bs) : Prop := nameL x = true ∧ (47 : UInt8) ∉ x
def PartsOk (n : NodeV) : Prop := n.len = n.data.size ∧ n.cnt = n.names.length ∧ n.data.size ≤ 1000 ∧ ∀ x ∈ n.names, nameOk x
theorem goodO_data {o : OpV} (h : goodO o = 0) : o.data.size ≤ 1000 := by
  unfold goodO at h
  split at h
  · split at h
    · simp at h
    · omega
  · simp at h
theorem last_name {q : Bs} (h : goodL q = true) : nameOk (lastL q) := by
  have hne := (good_iff_parts q).1 h
  have e : lastL q = (partsL q).getLast hne := by
    unfold lastL
    rw [List.getLastD_eq_getLast?, List.getLast?_eq_some_getLast hne]; rfl
  rw [e]
  exact parts_name q _ (List.getLast_mem hne)
theorem partsOk_inv (o : OpV) (sess z : Int) : NodeInv PartsOk o sess z := by
  refine ⟨fun h _ => ⟨rfl, rfl, goodO_data h, by simp [ndNew]⟩, fun n q hq _ h => ?_, fun n x h => ?_, fun n hg h => ⟨rfl, h.2.1, goodO_data hg, h.2.2.2⟩⟩
  · refine ⟨?_, add_cnt h.2.1 _, ?_, fun x hx => ?_⟩
    · unfold ndAdd; split <;> exact h.1
    · unfold ndAdd; split <;> exact h.2.2.1
    · rcases add_mem.1 hx with hx | rfl
      · exact h.2.2.2 x hx
      · exact last_name hq
  · refine ⟨?_, rem_cnt h.2.1 _, ?_, fun y hy => ?_⟩
    · unfold ndRem; split <;> exact h.1
    · unfold ndRem; split <;> exact h.2.2.1
    · refine h.2.2.2 y ?_
      unfold ndRem at hy
      split at hy
      · exact (delN_sub _ _).subset hy
      · exact hy
theorem name_top {x : Bs} (h : nameOk x) : goodL (47 :: x) = true ∧ topL (47 :: x) = x ∧ x ≠ [] := by
  obtain ⟨h1, h2⟩ := h
  have hc := cut_plain h2
  have hl : 1 ≤ x.length ∧ x.length ≤ 40 := by
    have h3 := h1
    unfold nameL at h3
    simp only [Bool.and_eq_true, decide_eq_true_eq] at h3
    exact ⟨h3.1.1.1.2, h3.1.1.2⟩
  have hg : goodL (47 :: x) = true := by
    show ((47 : UInt8) == 47 && decide ((47 :: x).length ≤ 200) && (cut x).all nameL && decide ((cut x).length ≤ 8)) = true
    rw [hc]
    simp [h1]
    omega
  refine ⟨hg, ?_, fun e => by rw [e] at hl; simp at hl⟩
  unfold topL partsL
  rw [hg]
  simp [hc]
theorem top_name {x : Bs} (h : topL (47 :: x) = x) (h0 : x ≠ []) : nameOk x := by
  have : x ∈ partsL (47 :: x) := by
    unfold topL at h
    cases hp : partsL (47 :: x) with
    | nil => rw [hp] at h; exact absurd h.symm h0
    | cons a r =>
      rw [hp] at h
      simp only [List.headD_cons] at h
      subst h
      simp
  exact parts_name _ _ this
theorem named_of {l : List Bs} (h : ∀ x ∈ l, nameOk x) (hr : Rising l) (hl : l.length ≤ 500) : Named l := by
  refine ⟨fun j hj => ⟨hj, ?_⟩, hl⟩
  obtain ⟨_, h2, h3⟩ := name_top (h l[j] (List.getElem_mem hj))
  exact ⟨h2, h3, fun h0 => List.pairwise_iff_getElem.1 hr (j - 1) j (by omega) hj (by omega)⟩
/-! How many a list of sessions owns. -/
def ownI (t : Pt) (x : Bs) : Int := match mget t ⟨x.toArray⟩ with
  | none => 0
  | some n => n.own
theorem ownI_some {t : Pt} {x : Bs} {n : NodeV} (h : mget t ⟨x.toArray⟩ = some n) : ownI t x = n.own := by
  unfold ownI
  rw [h]
end Go.Proofs.YtdagikbdpeblhaaGreatDoor
