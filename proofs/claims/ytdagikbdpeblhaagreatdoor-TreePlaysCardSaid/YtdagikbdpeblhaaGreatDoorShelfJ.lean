/- slices.Sorted(maps.Keys(m)) at this dump: one application each of the contracts that are laid. -/
import Derived.Shelf.SlIter.Nil
import Derived.Shelf.SortM.Plain
import Derived.Shelf.SortM.SortNone
import Derived.Ground.GgzProg
import Derived.Ground.SlgmProg
import Derived.Test.YtdagikbdpeblhaaGreatDoorShelfI
namespace Go.Proofs
open Go.RowKit Go.Maps Go.Sort Go.Shelf


/-- slices.Sort's two contracts at this dump, at the fence that asks nothing. -/
theorem Tryz.sorts111 (m : Nat) : AnyZ.SortsIn Tryz.prog Tryz.sorted111_ren Fence.wide m :=
  ⟨fun blk off cap ss W hH hblk hsz => callsIn_wide.2 (AnyM.slices_Sort_string Tryz.sort148 blk off cap ss W hH hblk hsz),
   fun p cap W => callsIn_wide.2 (AnyM.slices_Sort_string_none Tryz.sort148 p cap W)⟩

/-- **maps.Keys[map[string]*aviary/stat.Node,string,*aviary/stat.Node], at whatever map, the nil one too:** a function value over ONE NEW BLOCK, which holds the map. -/
theorem Tryz.maps_Keys_112 (mb : Option Nat) (W : World) : CallsIn Fence.wide 5 Tryz.prog 112 #[.map mb] W fun e w' => e = .returned (.func (.func 149) #[] #[.pointer (some ⟨W.heap.size, 0, none⟩)]) ∧ w' = W.alloc (.cells #[.map mb] 102) :=
  AnyZ.keys_in Tryz.keys112 Fence.wide 5 trivial rfl mb W

set_option maxHeartbeats 1000000 in
/-- **slices.Sorted[string] AT WHAT maps.Keys[map[string]*aviary/stat.Node,string,*aviary/stat.Node] HANDED BACK FOR A MAP THAT IS NOT nil** ('w': the world AHEAD of maps.Keys' call): A NEW SLICE THAT HOLDS THE MAP's KEYS, SORTED; nil just where it has none; nothing that lay before has turned. -/
theorem Tryz.slices_Sorted_keys_111_112 {H : Type} (b nn : Nat) (D0 : DataW H) (R : Value → Option (DataW H × List MemPlace)) (w : World) (hown : w.ownsMap Tryz.prog 9 R b nn D0) (hmax : Maps.size D0 ≤ maxLen) (hbytes : Maps.size D0 * 16 ≤ 140737488355328) :
    CallsIn Fence.wide 5 Tryz.prog 111 #[.func (.func 149) #[] #[.pointer (some ⟨w.heap.size, 0, none⟩)]] (w.alloc (.cells #[.map (some b)] 102)) fun e w' => ∃ (v : Value) (ss : List (List UInt8)), e = .returned v ∧ ss.Perm (strKeys D0) ∧
      w'.ownsRow (w.alloc (.cells #[.map (some b)] 102)).heap.size 9 1 v ss.length ((ss.mergeSort (fun x y => decide (x ≤ y))).map encStr) ∧ (v = .slice none 0 0 ↔ ss = []) ∧ Below (w.alloc (.cells #[.map (some b)] 102)).heap.size (w.alloc (.cells #[.map (some b)] 102)) w' := by
  have hbl := hown.lt
  have hseq : SeqGives Fence.wide 2 Tryz.prog 149 #[.pointer (some ⟨w.heap.size, 0, none⟩)] encStr (fun ss => ss.Perm (strKeys D0)) (Maps.size D0) (w.alloc (.cells #[.map (some b)] 102)) :=
    AnyZ.keys_gives (ρ := Tryz.keys112_ren) { Tryz.keys112 with } Fence.wide _ trivial rfl (by omega) w.heap.size b nn D0 _ (by simp) (by simp) (by
      obtain ⟨es, clock, hb, Ft, hs, hD⟩ := hown
      exact ⟨es, clock, (Below.heap_alloc _ _ b hbl).trans hb, Ft, hs, hD⟩)
  exact AnyZ.sorted_in Tryz.sorted111 Fence.wide 5 trivial trivial trivial trivial rfl (by omega) (Tryz.sorts111 _) (enters_of Tryz.func148 (by kernel_rfl) rfl) 149 #[.pointer (some ⟨w.heap.size, 0, none⟩)] trivial (enters_of Tryz.func149 (by kernel_rfl) rfl) _ _ hmax hbytes _ hseq

set_option maxHeartbeats 1000000 in
/-- **.. AND FOR THE nil MAP: nil.** -/
theorem Tryz.slices_Sorted_keys_nil_111_112 (w : World) :
    CallsIn Fence.wide 5 Tryz.prog 111 #[.func (.func 149) #[] #[.pointer (some ⟨w.heap.size, 0, none⟩)]] (w.alloc (.cells #[.map none] 102)) fun e w' => ∃ (v : Value) (ss : List (List UInt8)), e = .returned v ∧ ss = [] ∧
      w'.ownsRow (w.alloc (.cells #[.map none] 102)).heap.size 9 1 v ss.length ((ss.mergeSort (fun x y => decide (x ≤ y))).map encStr) ∧ (v = .slice none 0 0 ↔ ss = []) ∧ Below (w.alloc (.cells #[.map none] 102)).heap.size (w.alloc (.cells #[.map none] 102)) w' := by
  have hseq : SeqGives Fence.wide 2 Tryz.prog 149 #[.pointer (some ⟨w.heap.size, 0, none⟩)] encStr (fun ss : List (List UInt8) => ss = []) 0 (w.alloc (.cells #[.map none] 102)) :=
    AnyZ.keys_gives_nil (ρ := Tryz.keys112_ren) { Tryz.keys112 with } Fence.wide _ trivial rfl w.heap.size _ (by simp) (by simp)
  exact AnyZ.sorted_in Tryz.sorted111 Fence.wide 5 trivial trivial trivial trivial rfl (by omega) (Tryz.sorts111 _) (enters_of Tryz.func148 (by kernel_rfl) rfl) 149 #[.pointer (some ⟨w.heap.size, 0, none⟩)] trivial (enters_of Tryz.func149 (by kernel_rfl) rfl) _ 0 (Nat.zero_le _) (by omega) _ hseq



end Go.Proofs
