/-
  DERIVED: THE SHELF's CONTRACTS AT THIS DUMP, IN PLAIN WORDS (tools/lay-plain.mjs out of 'TryzwShelf.lean', which tools/lay-shelf.mjs wrote): THE SAME DECLARATIONS UNDER THE SAME NAMES: 'import', 'namespace', 'open', 'def', 'theorem' AND NOTHING ELSE: no command of the shelf's: FOR A HAND-IN. Each laying: the table of numbers ('.._ren') and one theorem, a field a fact of the dump's own or the kernel's comparison; each contract: ONE APPLICATION.
-/
import Derived.Shelf.SlicesQ.Contains
import Derived.Ground.SlgqProg
import Derived.Shelf.SlSortCmp.NoneTotal
import Derived.Ground.SlsfProg
import Derived.Test.YtnkhmkcpdgmjmaaGreatDoorProg
namespace Go.Proofs
open Go.Shelf
def Tryz.containsW_ren : Go.Shelf.Ren := ⟨fun | 7 => 136 | 6 => 174 | n => n, fun | 22 => 199 | 24 => 215 | 4 => 4 | 0 => 0 | 3 => 3 | n => n, fun | n => n⟩
theorem Tryz.containsW : Go.Proofs.SlLaysQ.n7 Tryz.prog Tryz.containsW_ren := {
  mixed := by kernel_rfl
  f6 := ⟨Tryz.f174.name, by decide, Tryz.func174.trans (congrArg some (by kernel_rfl))⟩
  f7 := ⟨Tryz.f136.name, by decide, Tryz.func136.trans (congrArg some (by kernel_rfl))⟩
  t0 := Tryz.underlying0
  a0 := Tryz.isAgg0
  z0 := Tryz.sizeOf0
  v0 := Tryz.zeroValue0
  t3 := Tryz.underlying3
  a3 := Tryz.isAgg3
  z3 := Tryz.sizeOf3
  v3 := Tryz.zeroValue3
  t4 := Tryz.underlying4
  a4 := Tryz.isAgg4
  z4 := Tryz.sizeOf4
  v4 := Tryz.zeroValue4
  t22 := Tryz.underlying199
  a22 := Tryz.isAgg199
  z22 := Tryz.sizeOf199
  v22 := Tryz.zeroValue199 }
def Tryz.sortFW_ren : Go.Shelf.Ren := ⟨fun | 6 => 208 | 15 => 206 | 14 => 241 | 28 => 239 | 29 => 240 | 20 => 281 | 21 => 282 | 22 => 283 | 23 => 284 | 24 => 285 | 25 => 286 | 26 => 287 | 27 => 288 | 46 => 310 | 47 => 276 | 48 => 277 | 49 => 311 | 50 => 312 | 57 => 322 | n => n, fun | 22 => 199 | 24 => 215 | 25 => 265 | 3 => 3 | 39 => 263 | 0 => 0 | 53 => 287 | 55 => 232 | 4 => 4 | 46 => 281 | 45 => 280 | 50 => 117 | 5 => 5 | 9 => 9 | 66 => 309 | 70 => 313 | 76 => 340 | 77 => 341 | n => n, fun | n => n⟩
theorem Tryz.sortFW : Go.Proofs.SlLaysF0.n6 Tryz.prog Tryz.sortFW_ren := {
  mixed := by kernel_rfl
  f6 := ⟨Tryz.f208.name, by decide, Tryz.func208.trans (congrArg some (by kernel_rfl))⟩
  f14 := ⟨Tryz.f241.name, by decide, Tryz.func241.trans (congrArg some (by kernel_rfl))⟩
  f15 := Tryz.func206.trans (congrArg some (by kernel_rfl))
  f20 := ⟨Tryz.f281.name, by decide, Tryz.func281.trans (congrArg some (by kernel_rfl))⟩
  f21 := ⟨Tryz.f282.name, by decide, Tryz.func282.trans (congrArg some (by kernel_rfl))⟩
  f22 := ⟨Tryz.f283.name, by decide, Tryz.func283.trans (congrArg some (by kernel_rfl))⟩
  f23 := ⟨Tryz.f284.name, by decide, Tryz.func284.trans (congrArg some (by kernel_rfl))⟩
  f24 := ⟨Tryz.f285.name, by decide, Tryz.func285.trans (congrArg some (by kernel_rfl))⟩
  f25 := ⟨Tryz.f286.name, by decide, Tryz.func286.trans (congrArg some (by kernel_rfl))⟩
  f26 := ⟨Tryz.f287.name, by decide, Tryz.func287.trans (congrArg some (by kernel_rfl))⟩
  f27 := ⟨Tryz.f288.name, by decide, Tryz.func288.trans (congrArg some (by kernel_rfl))⟩
  f28 := Tryz.func239.trans (congrArg some (by kernel_rfl))
  f29 := Tryz.func240.trans (congrArg some (by kernel_rfl))
  f46 := ⟨Tryz.f310.name, by decide, Tryz.func310.trans (congrArg some (by kernel_rfl))⟩
  f47 := Tryz.func276.trans (congrArg some (by kernel_rfl))
  f48 := Tryz.func277.trans (congrArg some (by kernel_rfl))
  f49 := ⟨Tryz.f311.name, by decide, Tryz.func311.trans (congrArg some (by kernel_rfl))⟩
  f50 := ⟨Tryz.f312.name, by decide, Tryz.func312.trans (congrArg some (by kernel_rfl))⟩
  f57 := ⟨Tryz.f322.name, by decide, Tryz.func322.trans (congrArg some (by kernel_rfl))⟩
  t0 := Tryz.underlying0
  a0 := Tryz.isAgg0
  z0 := Tryz.sizeOf0
  v0 := Tryz.zeroValue0
  t3 := Tryz.underlying3
  a3 := Tryz.isAgg3
  z3 := Tryz.sizeOf3
  v3 := Tryz.zeroValue3
  t4 := Tryz.underlying4
  a4 := Tryz.isAgg4
  z4 := Tryz.sizeOf4
  v4 := Tryz.zeroValue4
  t5 := Tryz.underlying5
  a5 := Tryz.isAgg5
  z5 := Tryz.sizeOf5
  v5 := Tryz.zeroValue5
  t9 := Tryz.underlying9
  a9 := Tryz.isAgg9
  z9 := Tryz.sizeOf9
  v9 := Tryz.zeroValue9
  t22 := Tryz.underlying199
  a22 := Tryz.isAgg199
  z22 := Tryz.sizeOf199
  v22 := Tryz.zeroValue199
  t25 := Tryz.underlying265
  a25 := Tryz.isAgg265
  z25 := Tryz.sizeOf265
  v25 := Tryz.zeroValue265
  t39 := Tryz.underlying263
  a39 := Tryz.isAgg263
  z39 := Tryz.sizeOf263
  v39 := Tryz.zeroValue263
  t45 := Tryz.underlying280
  a45 := Tryz.isAgg280
  z45 := Tryz.sizeOf280
  v45 := Tryz.zeroValue280
  t46 := Tryz.underlying281
  a46 := Tryz.isAgg281
  z46 := Tryz.sizeOf281
  v46 := Tryz.zeroValue281
  t50 := Tryz.underlying117
  a50 := Tryz.isAgg117
  z50 := Tryz.sizeOf117
  v50 := Tryz.zeroValue117
  t53 := Tryz.underlying287
  a53 := Tryz.isAgg287
  z53 := Tryz.sizeOf287
  v53 := Tryz.zeroValue287
  t55 := Tryz.underlying232
  a55 := Tryz.isAgg232
  z55 := Tryz.sizeOf232
  v55 := Tryz.zeroValue232
  t66 := Tryz.underlying309
  a66 := Tryz.isAgg309
  z66 := Tryz.sizeOf309
  v66 := Tryz.zeroValue309
  t70 := Tryz.underlying313
  a70 := Tryz.isAgg313
  z70 := Tryz.sizeOf313
  v70 := Tryz.zeroValue313
  t76 := Tryz.underlying340
  a76 := Tryz.isAgg340
  z76 := Tryz.sizeOf340
  v76 := Tryz.zeroValue340
  t77 := Tryz.underlying341
  a77 := Tryz.isAgg341
  z77 := Tryz.sizeOf341
  v77 := Tryz.zeroValue341 }
end Go.Proofs
