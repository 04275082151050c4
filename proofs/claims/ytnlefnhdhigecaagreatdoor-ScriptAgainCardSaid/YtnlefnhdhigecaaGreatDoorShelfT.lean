/-
  DERIVED: THE SHELF's CONTRACTS AT THIS DUMP, IN PLAIN WORDS (tools/lay-plain.mjs out of 'TryztShelf.lean', which tools/lay-shelf.mjs wrote): THE SAME DECLARATIONS UNDER THE SAME NAMES: 'import', 'namespace', 'open', 'def', 'theorem' AND NOTHING ELSE: no command of the shelf's: FOR A HAND-IN. Each laying: the table of numbers ('.._ren') and one theorem, a field a fact of the dump's own or the kernel's comparison; each contract: ONE APPLICATION.
-/
import Derived.Shelf.Strings.SlTrimAscii
import Derived.Ground.NamesProg
import Derived.Test.YtnlefnhdhigecaaGreatDoorProg
namespace Go.Proofs
open Go.Shelf
def Tryz.laysT160_ren : Go.Shelf.Ren := ⟨fun | 160 => 217 | 232 => 250 | 231 => 249 | 227 => 251 | 234 => 253 | 233 => 252 | 236 => 255 | 235 => 254 | 228 => 293 | 271 => 295 | 151 => 294 | 197 => 229 | 120 => 317 | 152 => 316 | 260 => 272 | 137 => 325 | 119 => 326 | 224 => 275 | 225 => 274 | 217 => 273 | 266 => 309 | n => n, fun | 9 => 9 | 4 => 4 | 3 => 3 | 5 => 5 | 117 => 300 | 116 => 299 | 0 => 0 | 124 => 303 | 21 => 21 | 105 => 279 | 46 => 266 | 119 => 338 | 139 => 341 | 138 => 340 | n => n, fun | 3 => 2 | 4 => 3 | n => n⟩
theorem Tryz.laysT160 : Go.Proofs.Lays.n160 Tryz.prog Tryz.laysT160_ren := {
  mixed := by kernel_rfl
  f119 := Tryz.func326.trans (congrArg some (by kernel_rfl))
  f120 := Tryz.func317.trans (congrArg some (by kernel_rfl))
  f137 := Tryz.func325.trans (congrArg some (by kernel_rfl))
  f151 := Tryz.func294.trans (congrArg some (by kernel_rfl))
  f152 := Tryz.func316.trans (congrArg some (by kernel_rfl))
  f160 := Tryz.func217.trans (congrArg some (by kernel_rfl))
  f197 := Tryz.func229.trans (congrArg some (by kernel_rfl))
  f217 := Tryz.func273.trans (congrArg some (by kernel_rfl))
  f224 := Tryz.func275.trans (congrArg some (by kernel_rfl))
  f225 := Tryz.func274.trans (congrArg some (by kernel_rfl))
  f227 := Tryz.func251.trans (congrArg some (by kernel_rfl))
  f228 := Tryz.func293.trans (congrArg some (by kernel_rfl))
  f231 := Tryz.func249.trans (congrArg some (by kernel_rfl))
  f232 := Tryz.func250.trans (congrArg some (by kernel_rfl))
  f233 := Tryz.func252.trans (congrArg some (by kernel_rfl))
  f234 := Tryz.func253.trans (congrArg some (by kernel_rfl))
  f235 := Tryz.func254.trans (congrArg some (by kernel_rfl))
  f236 := Tryz.func255.trans (congrArg some (by kernel_rfl))
  f260 := Tryz.func272.trans (congrArg some (by kernel_rfl))
  f266 := Tryz.func309.trans (congrArg some (by kernel_rfl))
  f271 := Tryz.func295.trans (congrArg some (by kernel_rfl))
  t0 := Tryz.underlying0
  a0 := Tryz.isAgg0
  z0 := Tryz.sizeOf0
  v0 := Tryz.zeroValue0
  t3 := Tryz.underlying3
  a3 := Tryz.isAgg3
  z3 := Tryz.sizeOf3
  v3 := Tryz.zeroValue3
  t4 := Tryz.underlying4
  a4 := Tryz.isAgg4
  z4 := Tryz.sizeOf4
  v4 := Tryz.zeroValue4
  t5 := Tryz.underlying5
  a5 := Tryz.isAgg5
  z5 := Tryz.sizeOf5
  v5 := Tryz.zeroValue5
  t9 := Tryz.underlying9
  a9 := Tryz.isAgg9
  z9 := Tryz.sizeOf9
  v9 := Tryz.zeroValue9
  t21 := Tryz.underlying21
  a21 := Tryz.isAgg21
  z21 := Tryz.sizeOf21
  v21 := Tryz.zeroValue21
  t46 := Tryz.underlying266
  a46 := Tryz.isAgg266
  z46 := Tryz.sizeOf266
  v46 := Tryz.zeroValue266
  t105 := Tryz.underlying279
  a105 := Tryz.isAgg279
  z105 := Tryz.sizeOf279
  v105 := Tryz.zeroValue279
  t116 := Tryz.underlying299
  a116 := Tryz.isAgg299
  z116 := Tryz.sizeOf299
  t117 := Tryz.underlying300
  a117 := Tryz.isAgg300
  z117 := Tryz.sizeOf300
  v117 := Tryz.zeroValue300
  t119 := Tryz.underlying338
  a119 := Tryz.isAgg338
  z119 := Tryz.sizeOf338
  t124 := Tryz.underlying303
  a124 := Tryz.isAgg303
  z124 := Tryz.sizeOf303
  v124 := Tryz.zeroValue303
  t138 := Tryz.underlying340
  a138 := Tryz.isAgg340
  z138 := Tryz.sizeOf340
  v138 := Tryz.zeroValue340
  t139 := Tryz.underlying341
  a139 := Tryz.isAgg341
  z139 := Tryz.sizeOf341
  v139 := Tryz.zeroValue341
  g3 := by kernel_rfl
  g4 := by kernel_rfl }
end Go.Proofs
