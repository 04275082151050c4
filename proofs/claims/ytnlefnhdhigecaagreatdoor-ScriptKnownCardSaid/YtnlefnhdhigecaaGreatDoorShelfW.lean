/-
  DERIVED: THE SHELF's CONTRACTS AT THIS DUMP, IN PLAIN WORDS (tools/lay-plain.mjs out of 'TryzwShelf.lean', which tools/lay-shelf.mjs wrote): THE SAME DECLARATIONS UNDER THE SAME NAMES: 'import', 'namespace', 'open', 'def', 'theorem' AND NOTHING ELSE: no command of the shelf's: FOR A HAND-IN. Each laying: the table of numbers ('.._ren') and one theorem, a field a fact of the dump's own or the kernel's comparison; each contract: ONE APPLICATION.
-/
import Derived.Shelf.SlicesQ.Contains
import Derived.Ground.SlgqProg
import Derived.Shelf.SlSortCmp.NoneTotal
import Derived.Ground.SlsfProg
import Derived.Test.YtnlefnhdhigecaaGreatDoorProg
namespace Go.Proofs
open Go.Shelf
def Tryz.containsW_ren : Go.Shelf.Ren := ⟨fun | 7 => 133 | 6 => 171 | n => n, fun | 22 => 202 | 24 => 214 | 4 => 4 | 0 => 0 | 3 => 3 | n => n, fun | n => n⟩
theorem Tryz.containsW : Go.Proofs.SlLaysQ.n7 Tryz.prog Tryz.containsW_ren := {
  mixed := by kernel_rfl
  f6 := ⟨Tryz.f171.name, by decide, Tryz.func171.trans (congrArg some (by kernel_rfl))⟩
  f7 := ⟨Tryz.f133.name, by decide, Tryz.func133.trans (congrArg some (by kernel_rfl))⟩
  t0 := Tryz.underlying0
  a0 := Tryz.isAgg0
  z0 := Tryz.sizeOf0
  v0 := Tryz.zeroValue0
  t3 := Tryz.underlying3
  a3 := Tryz.isAgg3
  z3 := Tryz.sizeOf3
  v3 := Tryz.zeroValue3
  t4 := Tryz.underlying4
  a4 := Tryz.isAgg4
  z4 := Tryz.sizeOf4
  v4 := Tryz.zeroValue4
  t22 := Tryz.underlying202
  a22 := Tryz.isAgg202
  z22 := Tryz.sizeOf202
  v22 := Tryz.zeroValue202 }
def Tryz.sortFW_ren : Go.Shelf.Ren := ⟨fun | 6 => 210 | 15 => 209 | 14 => 243 | 28 => 241 | 29 => 242 | 20 => 283 | 21 => 284 | 22 => 285 | 23 => 286 | 24 => 287 | 25 => 288 | 26 => 289 | 27 => 290 | 46 => 312 | 47 => 278 | 48 => 279 | 49 => 313 | 50 => 314 | 57 => 324 | n => n, fun | 22 => 202 | 24 => 214 | 25 => 268 | 3 => 3 | 39 => 266 | 0 => 0 | 53 => 290 | 55 => 236 | 4 => 4 | 46 => 284 | 45 => 283 | 50 => 119 | 5 => 5 | 9 => 9 | 66 => 312 | 70 => 316 | 76 => 343 | 77 => 344 | n => n, fun | n => n⟩
theorem Tryz.sortFW : Go.Proofs.SlLaysF0.n6 Tryz.prog Tryz.sortFW_ren := {
  mixed := by kernel_rfl
  f6 := ⟨Tryz.f210.name, by decide, Tryz.func210.trans (congrArg some (by kernel_rfl))⟩
  f14 := ⟨Tryz.f243.name, by decide, Tryz.func243.trans (congrArg some (by kernel_rfl))⟩
  f15 := Tryz.func209.trans (congrArg some (by kernel_rfl))
  f20 := ⟨Tryz.f283.name, by decide, Tryz.func283.trans (congrArg some (by kernel_rfl))⟩
  f21 := ⟨Tryz.f284.name, by decide, Tryz.func284.trans (congrArg some (by kernel_rfl))⟩
  f22 := ⟨Tryz.f285.name, by decide, Tryz.func285.trans (congrArg some (by kernel_rfl))⟩
  f23 := ⟨Tryz.f286.name, by decide, Tryz.func286.trans (congrArg some (by kernel_rfl))⟩
  f24 := ⟨Tryz.f287.name, by decide, Tryz.func287.trans (congrArg some (by kernel_rfl))⟩
  f25 := ⟨Tryz.f288.name, by decide, Tryz.func288.trans (congrArg some (by kernel_rfl))⟩
  f26 := ⟨Tryz.f289.name, by decide, Tryz.func289.trans (congrArg some (by kernel_rfl))⟩
  f27 := ⟨Tryz.f290.name, by decide, Tryz.func290.trans (congrArg some (by kernel_rfl))⟩
  f28 := Tryz.func241.trans (congrArg some (by kernel_rfl))
  f29 := Tryz.func242.trans (congrArg some (by kernel_rfl))
  f46 := ⟨Tryz.f312.name, by decide, Tryz.func312.trans (congrArg some (by kernel_rfl))⟩
  f47 := Tryz.func278.trans (congrArg some (by kernel_rfl))
  f48 := Tryz.func279.trans (congrArg some (by kernel_rfl))
  f49 := ⟨Tryz.f313.name, by decide, Tryz.func313.trans (congrArg some (by kernel_rfl))⟩
  f50 := ⟨Tryz.f314.name, by decide, Tryz.func314.trans (congrArg some (by kernel_rfl))⟩
  f57 := ⟨Tryz.f324.name, by decide, Tryz.func324.trans (congrArg some (by kernel_rfl))⟩
  t0 := Tryz.underlying0
  a0 := Tryz.isAgg0
  z0 := Tryz.sizeOf0
  v0 := Tryz.zeroValue0
  t3 := Tryz.underlying3
  a3 := Tryz.isAgg3
  z3 := Tryz.sizeOf3
  v3 := Tryz.zeroValue3
  t4 := Tryz.underlying4
  a4 := Tryz.isAgg4
  z4 := Tryz.sizeOf4
  v4 := Tryz.zeroValue4
  t5 := Tryz.underlying5
  a5 := Tryz.isAgg5
  z5 := Tryz.sizeOf5
  v5 := Tryz.zeroValue5
  t9 := Tryz.underlying9
  a9 := Tryz.isAgg9
  z9 := Tryz.sizeOf9
  v9 := Tryz.zeroValue9
  t22 := Tryz.underlying202
  a22 := Tryz.isAgg202
  z22 := Tryz.sizeOf202
  v22 := Tryz.zeroValue202
  t25 := Tryz.underlying268
  a25 := Tryz.isAgg268
  z25 := Tryz.sizeOf268
  v25 := Tryz.zeroValue268
  t39 := Tryz.underlying266
  a39 := Tryz.isAgg266
  z39 := Tryz.sizeOf266
  v39 := Tryz.zeroValue266
  t45 := Tryz.underlying283
  a45 := Tryz.isAgg283
  z45 := Tryz.sizeOf283
  v45 := Tryz.zeroValue283
  t46 := Tryz.underlying284
  a46 := Tryz.isAgg284
  z46 := Tryz.sizeOf284
  v46 := Tryz.zeroValue284
  t50 := Tryz.underlying119
  a50 := Tryz.isAgg119
  z50 := Tryz.sizeOf119
  v50 := Tryz.zeroValue119
  t53 := Tryz.underlying290
  a53 := Tryz.isAgg290
  z53 := Tryz.sizeOf290
  v53 := Tryz.zeroValue290
  t55 := Tryz.underlying236
  a55 := Tryz.isAgg236
  z55 := Tryz.sizeOf236
  v55 := Tryz.zeroValue236
  t66 := Tryz.underlying312
  a66 := Tryz.isAgg312
  z66 := Tryz.sizeOf312
  v66 := Tryz.zeroValue312
  t70 := Tryz.underlying316
  a70 := Tryz.isAgg316
  z70 := Tryz.sizeOf316
  v70 := Tryz.zeroValue316
  t76 := Tryz.underlying343
  a76 := Tryz.isAgg343
  z76 := Tryz.sizeOf343
  v76 := Tryz.zeroValue343
  t77 := Tryz.underlying344
  a77 := Tryz.isAgg344
  z77 := Tryz.sizeOf344
  v77 := Tryz.zeroValue344 }
end Go.Proofs
