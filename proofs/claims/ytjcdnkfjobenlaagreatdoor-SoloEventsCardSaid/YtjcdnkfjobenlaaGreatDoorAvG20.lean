/- Texts put together: AvSoloP, AvSoloQ, AvTreeU, AvFrame, AvActs, AvPackLaw, AvReqArg, AvArg. -/
import Derived.Test.YtjcdnkfjobenlaaGreatDoorAvG18
import Derived.Test.YtjcdnkfjobenlaaGreatDoorAvG19
import Derived.Test.YtjcdnkfjobenlaaGreatDoorAvG13
import Derived.Test.YtjcdnkfjobenlaaGreatDoorRows
import Derived.Test.YtjcdnkfjobenlaaGreatDoorTie
import Derived.Test.YtjcdnkfjobenlaaGreatDoorCards
import Derived.Test.YtjcdnkfjobenlaaGreatDoorShelf
import Derived.Test.YtjcdnkfjobenlaaGreatDoorAvG2
import Derived.ProofKit
import Derived.OpenShut
import Derived.LaidMore
import Derived.Lay
import Derived.SevenTiedAt
import Derived.HandedShaped
import Derived.Carry
import Derived.ChangeOld
import Derived.SliceStrings
import Derived.WideShapes
import Derived.Test.YtjcdnkfjobenlaaGreatDoorAvG1
import Derived.Laws.BitsLemmas
import Derived.Laws.Bits64

/- What sessions, several ops at once, and a solo answer, in plain lists. -/
namespace Go.Proofs.YtjcdnkfjobenlaaGreatDoor
set_option maxRecDepth 100000
open Go.RowKit Av

/-! Sessions. -/
structure SeV where
  id : Int
  span : Int
  till : Int
abbrev scell (e : SeV) : List Value := [.int .i64 e.id, .int .i64 e.span, .int .i64 e.till]
structure SsV where
  room : Int
  now : Int
  next : Int
  l : List SeV
def isS (id : Int) (x : SeV) : Bool := decide (x.id = id)
def findS (l : List SeV) (id : Int) : Option Nat := l.findIdx? (isS id)
def liveS (s : SsV) (id : Int) : Bool := (findS s.l id).isSome
def openS (s : SsV) (span : Int) : SsV × Int × Int :=
  if span < 1 ∨ 10000 < span then (s, 0, 1) else if s.room ≤ (s.l.length : Int) then (s, 0, 9)
  else (⟨s.room, s.now, s.next + 1, s.l ++ [⟨s.next, span, s.now + span⟩]⟩, s.next, 0)
def setTill (l : List SeV) (k : Nat) (now : Int) : List SeV := match l[k]? with
  | none => l
  | some x => l.set k ⟨x.id, x.span, now + x.span⟩
def touchS (s : SsV) (id : Int) : SsV × Int := match findS s.l id with
  | none => (s, 11)
  | some k => (⟨s.room, s.now, s.next, setTill s.l k s.now⟩, 0)
def overS (now : Int) (x : SeV) : Bool := decide (x.till ≤ now)
theorem findS_at {l : List SeV} {id : Int} {k : Nat} (hk : k < l.length) (h : ∀ x ∈ l.take k, isS id x = false) (hp : isS id l[k] = true) : findS l id = some k := by
  unfold findS
  rw [List.findIdx?_eq_some_iff_getElem]
  refine ⟨hk, hp, fun j hj => ?_⟩
  have := h (l[j]) (by rw [List.mem_take_iff_getElem]; exact ⟨j, by omega, rfl⟩)
  simp [this]
theorem findS_none {l : List SeV} {id : Int} (h : ∀ x ∈ l, isS id x = false) : findS l id = none := by
  unfold findS
  rw [List.findIdx?_eq_none_iff]; exact h
theorem findS_lt {l : List SeV} {id : Int} {k : Nat} (h : findS l id = some k) : ∃ hk : k < l.length, l[k].id = id := by
  unfold findS at h
  rw [List.findIdx?_eq_some_iff_getElem] at h
  obtain ⟨hk, hp, _⟩ := h
  exact ⟨hk, of_decide_eq_true hp⟩
/-- The bounds that the numbers keep. -/
structure SsOk (N : Nat) (s : SsV) : Prop where
  room : s.room = 64
  now : 0 ≤ s.now ∧ s.now ≤ N
  next : 1 ≤ s.next ∧ s.next ≤ N + 1
  len : s.l.length ≤ 64
  ids : ∀ x ∈ s.l, 1 ≤ x.id ∧ x.id < s.next
  span : ∀ x ∈ s.l, 1 ≤ x.span ∧ x.span ≤ 10000
theorem SsOk.mono {N M : Nat} {s : SsV} (h : SsOk N s) (hm : N ≤ M) : SsOk M s := ⟨h.room, ⟨h.now.1, by have := h.now.2; omega⟩, ⟨h.next.1, by have := h.next.2; omega⟩, h.len, h.ids, h.span⟩
theorem SsOk.open {N : Nat} {s : SsV} (h : SsOk N s) (span : Int) : SsOk (N + 1) (openS s span).1 := by
  unfold openS
  split
  · exact h.mono (by omega)
  · split
    · exact h.mono (by omega)
    · rename_i h1 h2
      have hr := h.room
      have hn := h.next
      refine ⟨hr, ⟨h.now.1, by have := h.now.2; show s.now ≤ _; omega⟩, ⟨by show 1 ≤ s.next + 1; omega, by show s.next + 1 ≤ _; omega⟩, by show (s.l ++ _).length ≤ 64; rw [List.length_append, List.length_singleton]; omega, ?_, ?_⟩
      · intro x hx
        rcases List.mem_append.1 hx with hx | hx
        · have := h.ids x hx; exact ⟨this.1, by show x.id < s.next + 1; omega⟩
        · simp only [List.mem_singleton] at hx; subst hx; exact ⟨hn.1, by show s.next < s.next + 1; omega⟩
      · intro x hx
        rcases List.mem_append.1 hx with hx | hx
        · exact h.span x hx
        · simp only [List.mem_singleton] at hx; subst hx; exact ⟨by show 1 ≤ span; omega, by show span ≤ 10000; omega⟩
theorem SsOk.sub {N : Nat} {s : SsV} (h : SsOk N s) {now : Int} {l : List SeV} (hl : l.length ≤ s.l.length) (hs : ∀ x ∈ l, ∃ y ∈ s.l, x.id = y.id ∧ x.span = y.span) (hn : 0 ≤ now ∧ now ≤ N) : SsOk N ⟨s.room, now, s.next, l⟩ :=
  ⟨h.room, hn, h.next, Nat.le_trans hl h.len, fun x hx => by obtain ⟨y, hy, e, _⟩ := hs x hx; rw [e]; exact h.ids y hy, fun x hx => by obtain ⟨y, hy, _, e⟩ := hs x hx; rw [e]; exact h.span y hy⟩
theorem setTill_mem {l : List SeV} {k : Nat} {now : Int} {x : SeV} (h : x ∈ setTill l k now) : ∃ y ∈ l, x.id = y.id ∧ x.span = y.span := by
  unfold setTill at h
  split at h
  · exact ⟨x, h, rfl, rfl⟩
  · rename_i y hy
    rcases List.mem_or_eq_of_mem_set h with h | rfl
    · exact ⟨x, h, rfl, rfl⟩
    · exact ⟨y, List.mem_of_getElem? hy, rfl, rfl⟩
theorem setTill_len (l : List SeV) (k : Nat) (now : Int) : (setTill l k now).length = l.length := by
  unfold setTill
  split
  · rfl
  · rw [List.length_set]
theorem SsOk.touch {N : Nat} {s : SsV} (h : SsOk N s) (id : Int) : SsOk N (touchS s id).1 := by
  unfold touchS
  split
  · exact h
  · exact h.sub (by rw [setTill_len]; exact Nat.le_refl _) (fun x hx => setTill_mem hx) h.now
/-! Replies. -/
structure RpV where
  num : Int
  zxid : Int
  err : Int
  at_ : Int
  res : List Rp
def failRs (e : Int) (at_ : Int) (n : Nat) : List Rp := (List.range n).map fun (i : Nat) => failR (if (i : Int) = at_ then e else 14)
def failRp (num e at_ n : Int) : RpV := ⟨num, 0, e, at_, if n < 0 ∨ 16 < n then [] else failRs e at_ n.toNat⟩
theorem failRs_len (e at_ : Int) (n : Nat) : (failRs e at_ n).length = n := by simp [failRs]
/-! Several at once: on the list of nodes. -/
def runL (room sess z : Int) : RL → List OpV → RL × List Rp × Int
  | L, [] => (L, [], 0)
  | L, o :: os => if (doL room L o sess z).2.err ≠ 0 then ((doL room L o sess z).1, [], (doL room L o sess z).2.err)
    else ((runL room sess z (doL room L o sess z).1 os).1, (doL room L o sess z).2 :: (runL room sess z (doL room L o sess z).1 os).2.1, (runL room sess z (doL room L o sess z).1 os).2.2)
def multiL (room : Int) (L : RL) (sess z : Int) (ops : List OpV) : RL × RpV × Bool :=
  if 16 < ops.length then (L, failRp 0 2 (-1) 0, false) else if ops.length = 0 then (L, failRp 0 1 (-1) 0, false) else
  if (runL room sess z L ops).2.2 ≠ 0 then (L, failRp 0 (runL room sess z L ops).2.2 (runL room sess z L ops).2.1.length ops.length, false)
  else ((runL room sess z L ops).1, ⟨0, z, 0, -1, (runL room sess z L ops).2.1⟩, true)
def requestL (room : Int) (L : RL) (sess num z : Int) (ops : List OpV) : RL × RpV :=
  if mayR sess num ops ≠ 0 then (L, failRp num (mayR sess num ops) (-1) 0) else
  ((multiL room L sess z ops).1, { (multiL room L sess z ops).2.1 with num := num, zxid := z })
theorem runL_len (room sess z : Int) : ∀ (L : RL) (ops : List OpV), (runL room sess z L ops).2.2 = 0 → (runL room sess z L ops).2.1.length = ops.length
  | _, [], _ => rfl
  | L, o :: os, h => by
    unfold runL at h ⊢
    split at h
    · rename_i h1; exact absurd h h1
    · rename_i h1
      rw [if_neg h1]
      simp only [List.length_cons]
      rw [runL_len room sess z _ os h]
theorem runL_snoc (room sess z : Int) : ∀ (L : RL) (ops : List OpV) (o : OpV), (runL room sess z L ops).2.2 = 0 → runL room sess z L (ops ++ [o]) =
    if (doL room (runL room sess z L ops).1 o sess z).2.err ≠ 0 then ((doL room (runL room sess z L ops).1 o sess z).1, (runL room sess z L ops).2.1, (doL room (runL room sess z L ops).1 o sess z).2.err)
    else ((doL room (runL room sess z L ops).1 o sess z).1, (runL room sess z L ops).2.1 ++ [(doL room (runL room sess z L ops).1 o sess z).2], 0)
  | L, [], o, _ => by
    show runL room sess z L [o] = _
    unfold runL
    rfl
  | L, a :: os, o, h => by
    rw [List.cons_append]
    unfold runL at h ⊢
    split at h
    · rename_i h1; exact absurd h h1
    · rename_i h1
      rw [if_neg h1, if_neg h1]
      rw [runL_snoc room sess z _ os o h]
      split <;> rfl
/-- Where one goes wrong, all that stand before it went well. -/
theorem runL_stop (room sess z : Int) {L : RL} {ops : List OpV} {j : Nat} (hj : j < ops.length) (h : (runL room sess z L (ops.take j)).2.2 = 0) (he : (doL room (runL room sess z L (ops.take j)).1 ops[j] sess z).2.err ≠ 0) :
    (runL room sess z L ops).2.2 = (doL room (runL room sess z L (ops.take j)).1 ops[j] sess z).2.err ∧ (runL room sess z L ops).2.1.length = j := by
  have h1 := runL_snoc room sess z L (ops.take j) ops[j] h
  rw [if_pos he, ← List.take_succ_eq_append_getElem hj] at h1
  have key : ∀ (a b : List OpV) (L : RL), (runL room sess z L a).2.2 ≠ 0 → runL room sess z L (a ++ b) = runL room sess z L a := by
    intro a b
    induction a with
    | nil => intro L h; exact absurd rfl h
    | cons x a ih =>
      intro L h
      rw [List.cons_append]
      unfold runL at h ⊢
      split
      · rfl
      · rename_i h1
        rw [if_neg h1] at h
        rw [ih _ h]
  have h2 := key (ops.take (j + 1)) (ops.drop (j + 1)) L (by rw [h1]; exact he)
  rw [List.take_append_drop] at h2
  rw [h2, h1]
  refine ⟨rfl, ?_⟩
  simp only
  rw [runL_len _ _ _ _ _ h, List.length_take]
  omega
end Go.Proofs.YtjcdnkfjobenlaaGreatDoor

/- What a solo answers, in plain lists: the service itself. -/
namespace Go.Proofs.YtjcdnkfjobenlaaGreatDoor
set_option maxRecDepth 100000
open Go.RowKit Av
structure SoV where
  room : Int
  tr : RL
  ss : SsV
  wl : List Wt
  zx : Int
  last : List (Int × RpV)
  ev : Int → List Wt
def soZ (room : Int) : SoV := ⟨room, [], ⟨64, 0, 1, []⟩, [], 0, [], fun _ => []⟩
def addEv (ss : SsV) (ev : Int → List Wt) (e : Wt) : Int → List Wt := if liveS ss e.sess = true then fun q => if q = e.sess then ev q ++ [e] else ev q else ev
def fireS (s : SoV) (p : ByteArray) (ch : Int) : SoV := { s with wl := fireG p ch s.wl, ev := (fireT p ch s.wl).foldl (addEv s.ss) s.ev }
def openO (s : SoV) (span : Int) : SoV × Int × Int := ({ s with ss := (openS s.ss span).1 }, (openS s.ss span).2)
def chOf (k : Int) : Int := if k = 1 then 1 else if k = 2 then 2 else if k = 3 then 3 else 0
def chStep (s : SoV) (x : OpV × Rp) : SoV := if chOf x.1.kind = 0 then s else fireS s x.2.path (chOf x.1.kind)
def changedS (s : SoV) (ops : List OpV) (r : RpV) : SoV := if r.err ≠ 0 then s else (ops.zip r.res).foldl chStep s
def doneS (s : SoV) (sess num : Int) (ops : List OpV) : SoV × RpV :=
  let X := requestL s.room s.tr sess num (s.zx + 1) ops
  let s3 := changedS { s with zx := s.zx + 1, tr := X.1 } ops X.2
  ({ s3 with last := mset s3.last sess X.2 }, X.2)
def askS (s : SoV) (sess num : Int) (ops : List OpV) : SoV × RpV :=
  if mayR sess num ops ≠ 0 then (s, failRp num (mayR sess num ops) (-1) 0) else
  if (touchS s.ss sess).2 ≠ 0 then (s, failRp num 11 (-1) ops.length) else
  match mget s.last sess with
  | none => doneS { s with ss := (touchS s.ss sess).1 } sess num ops
  | some r => if num = r.num then ({ s with ss := (touchS s.ss sess).1 }, r)
    else if num < r.num then ({ s with ss := (touchS s.ss sess).1 }, failRp num 1 (-1) ops.length)
    else doneS { s with ss := (touchS s.ss sess).1 } sess num ops
def watchO (s : SoV) (x : Wt) : SoV × Int := if liveS s.ss x.sess = false then (s, 11) else ({ s with wl := armG 1000 s.wl x }, armE 1000 s.wl x)
def eventsO (s : SoV) (id : Int) : SoV × List Wt := ({ s with ev := fun q => if q = id then [] else s.ev q }, s.ev id)
end Go.Proofs.YtjcdnkfjobenlaaGreatDoor

/- A law's tree: its paths; what soundness says of one node; loops over paths. -/
namespace Go.Proofs.YtjcdnkfjobenlaaGreatDoor
set_option maxRecDepth 100000
open Go.RowKit Av
/-- What soundness says of one node. -/
structure SoundAt (t : Pt) (p : ByteArray) (n : NodeV) : Prop where
  size : p.size ≤ 200
  cnt : n.cnt = n.names.length
  eph : n.own ≠ 0 → n.names = []
  kid : ∀ x ∈ n.names, ∃ y, mget t (childB p x) = some y
  small : ∀ x ∈ n.names, x.length ≤ 200
  par : ∀ up, parentL p.data.toList = some up → ∃ m, mget t ⟨up.toArray⟩ = some m ∧ m.own = 0 ∧ lastL p.data.toList ∈ m.names
end Go.Proofs.YtjcdnkfjobenlaaGreatDoor

/- The frame of a law's row: the arguments read behind the call as they read before, for nothing that lay there has turned. -/
namespace Go.Proofs.YtjcdnkfjobenlaaGreatDoor
set_option maxRecDepth 100000
open Go.ChangeShapes Go.WideShapes Go.ChangeAt Go.RowKit Av

/-- Each parameter's type can be read and is a row of the table. -/
def rowedAll (P : Program) (ts : List TypeId) : Bool := ts.all fun t => P.readableRec t && decide (t < P.types.size)

theorem trodAll_ext {H : Type} {enc : TypeId × Value → H} {P : Program} (hl : laidOutB P = true) {W W' : World} (hb : Below W.heap.size W W') : ∀ {ts : List TypeId} {vs : List Value} {ds : List (DataW H)} {ps : List MemPlace}, rowedAll P ts = true →
    DataW.TrodAll enc P W 0 (fun _ => true) true ts vs ds ps → DataW.TrodAll enc P W' 0 (fun b => decide (b < W.heap.size)) true ts vs ds ps := by
  intro ts
  induction ts with
  | nil => intro vs ds ps _ h; obtain ⟨rfl, rfl, rfl⟩ := trodAll_nil h; rfl
  | cons t ts ih =>
    intro vs ds ps hr h
    simp only [rowedAll, List.all_cons, Bool.and_eq_true, decide_eq_true_eq] at hr
    obtain ⟨v, vs', d, ds', p, q, rfl, rfl, rfl, h1, h2⟩ := trodAll_cons h
    exact trodAll_cons_mk (Below.trod hl hr.1.1 hr.1.2 h1 hb (fun x hx => (DataW.TrodAll.lt (trodAll_mk1 h1)) x hx)) (ih hr.2 h2)

theorem gl_of_shape {W : World} (h : W.ShapedOpen Tryz.prog) : ∃ m : Int, W.cell? ⟨0, 0, none⟩ = some (.int .i64 m) := Tryz.laysM146.s1_3 W h
end Go.Proofs.YtjcdnkfjobenlaaGreatDoor

/- Slices of acts: three cells each. -/
namespace Go.Proofs.YtjcdnkfjobenlaaGreatDoor
set_option maxRecDepth 100000
open Go.ChangeShapes Go.WideShapes Go.ChangeAt Go.RowKit Av

/-- One act that came in: its kind, whose it is, the value of its slice, the strings therein. -/
structure ActV where
  op : Int
  who : Int
  v : Value
  ps : List ByteArray
def ActV.cells (a : ActV) : List Value := [.int .i64 a.op, .int .i64 a.who, a.v]
/-- A slice of acts, and what each one's slice holds. -/
def Acts (w : World) (v : Value) (xs : List ActV) : Prop := Sl w 3 v xs.length (xs.flatMap ActV.cells) ∧ ∀ a ∈ xs, Strs w a.v a.ps ∧ (∀ p ∈ a.ps, p.size ≤ maxLen) ∧ (a.v = .slice none 0 0 ∨ ∃ ad l c, a.v = .slice (some ad) l c)
theorem acts_cell : ∀ (xs : List ActV) (k : Nat) (hk : k < xs.length) (j : Nat), j < 3 → (xs.flatMap ActV.cells)[k * 3 + j]? = (xs[k].cells)[j]?
  | [], _, hk, _, _ => by simp at hk
  | a :: xs, 0, _, j, hj => by
    simp only [List.flatMap_cons, List.getElem_cons_zero, Nat.zero_mul, Nat.zero_add]
    rw [List.getElem?_append_left (by simpa [ActV.cells] using hj)]
  | a :: xs, k + 1, hk, j, hj => by
    simp only [List.flatMap_cons, List.getElem_cons_succ]
    rw [List.getElem?_append_right (by simp [ActV.cells]; omega)]
    have := acts_cell xs k (by simpa using hk) j hj
    rw [← this]
    congr 1
    simp [ActV.cells]
    omega
theorem Acts.open {w : World} {v : Value} {xs : List ActV} (h : Acts w v xs) :
    ∃ a c, v = .slice a xs.length c ∧ xs.length ≤ c ∧ xs.length ≤ maxLen ∧ (0 < xs.length → ∃ b off, a = some ⟨b, off, none⟩ ∧ b < w.heap.size ∧ ∀ k (hk : k < xs.length),
      w.cell? ⟨b, off + k * 3, none⟩ = some (.int .i64 xs[k].op) ∧ w.cell? ⟨b, off + k * 3 + 1, none⟩ = some (.int .i64 xs[k].who) ∧ w.cell? ⟨b, off + k * 3 + 2, none⟩ = some xs[k].v) := by
  obtain ⟨a, c, rfl, hcc, h1, _, h3⟩ := Sl.open h.1
  refine ⟨a, c, rfl, hcc, h1, fun hn => ?_⟩
  obtain ⟨b, off, rfl, hb, hc⟩ := h3 hn
  refine ⟨b, off, rfl, hb, fun k hk => ⟨?_, ?_, ?_⟩⟩
  · exact hc (k * 3) _ (by have := acts_cell xs k hk 0 (by omega); simpa [ActV.cells] using this)
  · exact hc (k * 3 + 1) _ (by have := acts_cell xs k hk 1 (by omega); simpa [ActV.cells] using this)
  · exact hc (k * 3 + 2) _ (by have := acts_cell xs k hk 2 (by omega); simpa [ActV.cells] using this)

theorem list_of_each {α : Type} (R : Nat → α → Prop) : ∀ (n : Nat), (∀ i, i < n → ∃ x, R i x) → ∃ xs : List α, xs.length = n ∧ ∀ (i : Nat) (hi : i < xs.length), R i xs[i]
  | 0, _ => ⟨[], rfl, fun i hi => by simp at hi⟩
  | n + 1, h => by
    obtain ⟨xs, hl, hx⟩ := list_of_each R n (fun i hi => h i (by omega))
    obtain ⟨y, hy⟩ := h n (by omega)
    refine ⟨xs ++ [y], by simp [hl], fun i hi => ?_⟩
    simp at hi
    by_cases he : i < xs.length
    · rw [List.getElem_append_left he]; exact hx i he
    · have : i = n := by omega
      subst this
      rw [List.getElem_append_right (by omega)]
      simpa using hy
variable {P : Program} {H : Type} {enc : TypeId × Value → H} {W : World}
end Go.Proofs.YtjcdnkfjobenlaaGreatDoor

/- Chapter 2 in plain Lean: numbers and texts in bytes, and back. No program. -/
namespace Av
set_option maxRecDepth 100000
open Go Go.RowKit
/-- An int64. -/
def I64 (v : Int) : Prop := -9223372036854775808 ≤ v ∧ v ≤ 9223372036854775807
def byteAt (v : Int) (i : Nat) : UInt8 := UInt8.ofNat ((v / 2 ^ (8 * i)) % 256).toNat
def be8 (v : Int) : Bs := [byteAt v 7, byteAt v 6, byteAt v 5, byteAt v 4, byteAt v 3, byteAt v 2, byteAt v 1, byteAt v 0]
def fold8 (l : Bs) : Nat := l.foldl (fun u b => u * 256 + b.toNat) 0
def un8 (l : Bs) : Int := wrap64 (fold8 l)
attribute [local irreducible] be8 un8

/-! A reader: what is left, or that something was not there. -/
end Av

/- Ops and requests that come in. -/
namespace Go.Proofs.YtjcdnkfjobenlaaGreatDoor
set_option maxRecDepth 100000
open Go.ChangeShapes Go.WideShapes Go.ChangeAt Go.RowKit Av

/-- An op's numbers are int64s. -/
def Op64 (o : OpV) : Prop := I64 o.kind ∧ I64 o.ver ∧ I64 o.flags
/-- Rows of K cells each, one behind the other. -/
theorem sl_rowsK {α : Type} (f : α → List Value) (K : Nat) (hf : ∀ x, (f x).length = K) (hK : 0 < K) {W : World} {b off len cap : Nat} (xs : List α) (hl : xs.length = len) (hm : len ≤ maxLen) (hcc : len ≤ cap) (hb : 0 < len → b < W.heap.size)
    (h : ∀ (i : Nat) (hi : i < xs.length), ∀ j, j < K → W.cell? ⟨b, off + i * K + j, none⟩ = (f xs[i])[j]?) : Sl W K (.slice (some ⟨b, off, none⟩) len cap) len (xs.flatMap f) := by
  have hfl : (xs.flatMap f).length = len * K := by rw [rows_len f K hf, hl]
  refine ⟨hfl, hm, _, _, rfl, hcc, ?_⟩
  by_cases h0 : len = 0
  · exact .inl h0
  · refine .inr ⟨b, off, rfl, hb (by omega), fun i x hx => ?_⟩
    have hi : i < len * K := by rw [← hfl]; exact (List.getElem?_eq_some_iff.1 hx).1
    have hk : i / K < xs.length := by rw [hl]; exact Nat.div_lt_of_lt_mul (by rwa [Nat.mul_comm])
    have hr : i % K < K := Nat.mod_lt _ hK
    have h1 := rows_cell f K hf xs (i / K) hk (i % K) hr
    have h2 := h (i / K) hk (i % K) hr
    rw [← h1] at h2
    have e : i / K * K + i % K = i := by rw [Nat.mul_comm]; exact Nat.div_add_mod i K
    rw [Nat.add_assoc, e] at h2
    rw [h2, hx]

section
variable {P : Program} {H : Type} {enc : TypeId × Value → H} {W : World}
theorem trod_i64 {t : TypeId} {fuel : Nat} {cs : List Value} {x : DataW H × List MemPlace} (ht : P.underlying t = some (.int .i64)) (h : DataW.trod enc P W 0 (fun _ => true) true fuel t cs = some x) : ∃ n, cs = [.int .i64 n] ∧ I64 n := by
  obtain ⟨n, rfl, _, hw⟩ := DataW.trod_int ht h
  refine ⟨n, rfl, ?_⟩
  rw [Lit.wf, Bool.and_eq_true] at hw
  exact ⟨of_decide_eq_true hw.1, of_decide_eq_true hw.2⟩
end
section
variable {H : Type} {enc : TypeId × Value → H} {W : World}
end
end Go.Proofs.YtjcdnkfjobenlaaGreatDoor

/- Slices that come in, whatever their elements are. -/
namespace Go.Proofs.YtjcdnkfjobenlaaGreatDoor
set_option maxRecDepth 100000
open Go.ChangeShapes Go.WideShapes Go.ChangeAt Go.RowKit Av
section
variable {P : Program} {H : Type} {enc : TypeId × Value → H} {W : World}
/-- A slice of elements of K cells each; what an element says is shown by 'elem'. -/
theorem trod_sl {α : Type} (f : α → List Value) (K : Nat) (Pr : α → Prop) (hf : ∀ x, (f x).length = K) (hK : 0 < K) {t e : TypeId} (ht : P.underlying t = some (.slice e)) (hc : P.cellsOf e = K)
    (elem : ∀ (fuel : Nat) (cs : List Value) (x : DataW H × List MemPlace), DataW.trod enc P W 0 (fun _ => true) true fuel e cs = some x → ∃ o : α, cs = f o ∧ Pr o)
    {fuel : Nat} {cs : List Value} {x : DataW H × List MemPlace} (h : DataW.trod enc P W 0 (fun _ => true) true fuel t cs = some x) : ∃ v, cs = [v] ∧ ∃ xs : List α, Sl W K v xs.length (xs.flatMap f) ∧ Shp v ∧ ∀ o ∈ xs, Pr o := by
  rcases DataW.trod_slice ht h with ⟨rfl, hx⟩ | ⟨a, len, cap, elems, rest, n', _, rfl, _, _, hl, hm, hlen, hel, _⟩
  · exact ⟨_, rfl, [], Sl.nil W K, .inl rfl, fun o ho => by (cases ho)⟩
  · refine ⟨_, rfl, ?_⟩
    have each : ∀ i, i < len → ∃ o : α, W.cells? 0 (a.add (i * K)) K = some (f o) ∧ Pr o := by
      intro i hi
      have h1 := hel i hi
      rw [hc] at h1
      cases hcs : W.cells? 0 (a.add (i * K)) K with
      | none => rw [hcs] at h1; simp at h1; omega
      | some cs =>
        rw [hcs] at h1
        obtain ⟨y, hy⟩ : ∃ y, elems[i]? = some y := ⟨elems[i], by simp [hlen, hi]⟩
        rw [hy] at h1
        simp only [Option.bind_some] at h1
        obtain ⟨o, rfl, ho⟩ := elem _ _ _ h1
        exact ⟨o, rfl, ho⟩
    obtain ⟨xs, hxl, hxs⟩ := list_of_each _ len each
    refine ⟨xs, ?_, Shp.some, fun o ho => ?_⟩
    · rw [hxl]
      obtain ⟨b, off, spot⟩ := a
      by_cases h0 : len = 0
      · subst h0
        obtain rfl : xs = [] := List.length_eq_zero_iff.1 hxl
        exact ⟨by simp, Nat.zero_le _, _, _, rfl, hl, .inl rfl⟩
      · have hat := fun i hi => World.cells?_some (hxs i hi).1
        obtain ⟨v0, hv0⟩ : ∃ v0, (f (xs[0]'(by omega)))[0]? = some v0 := ⟨(f (xs[0]'(by omega)))[0]'(by rw [hf]; exact hK), List.getElem?_eq_getElem _⟩
        have hfirst := (hat 0 (by omega)).2.2 0 (by omega)
        rw [hv0] at hfirst
        have h5 : W.cell? ⟨b, off, spot⟩ = some v0 := by simpa [Addr.add] using hfirst
        have hspot : spot = none := by simpa using World.cell?_spot h5
        subst hspot
        refine sl_rowsK f K hf hK xs hxl (by omega) hl (fun _ => World.block_lt_of_cell? _ _ h5) (fun i hi j hj => ?_)
        have := (hat i hi).2.2 j hj
        rwa [add_plain, add_plain] at this
    · obtain ⟨i, hi, rfl⟩ := List.getElem_of_mem ho
      exact (hxs i hi).2
end
end Go.Proofs.YtjcdnkfjobenlaaGreatDoor
