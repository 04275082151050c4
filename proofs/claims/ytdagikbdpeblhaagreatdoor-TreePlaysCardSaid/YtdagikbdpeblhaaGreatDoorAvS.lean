/-
  DERIVED: THE SHELF's CONTRACTS AT THIS DUMP, IN PLAIN WORDS (tools/lay-plain.mjs out of 'TryzShelf.lean', which tools/lay-shelf.mjs wrote): THE SAME DECLARATIONS UNDER THE SAME NAMES: 'import', 'namespace', 'open', 'def', 'theorem' AND NOTHING ELSE: no command of the shelf's: FOR A HAND-IN. Each laying: the table of numbers ('.._ren') and one theorem, a field a fact of the dump's own or the kernel's comparison; each contract: ONE APPLICATION.
-/
import Derived.Shelf.Strings.Builder1
import Derived.Shelf.Strings.Builder2
import Derived.Shelf.Strings.OnBuilder
import Derived.Shelf.Small.Bits
import Derived.Shelf.Small.Wraps
import Derived.Shelf.Strings.BuilderF
import Derived.Shelf.Strings.BuilderK
import Derived.Shelf.Strconv.Itoa0
import Derived.Shelf.Strconv.Itoa1
import Derived.Shelf.LaysM
import Derived.Shelf.Strconv.Itoa2
import Derived.Shelf.Strconv.Itoa3
import Derived.Shelf.Strings.Search1
import Derived.Shelf.Strings.Search2
import Derived.Shelf.Strings.Search3
import Derived.Shelf.Strings.Count
import Derived.Shelf.Strings.Shaped
import Derived.Shelf.Sort.Plain
import Derived.Shelf.Strings.Prefix
import Derived.Shelf.Strings.Split
import Derived.Shelf.Strings.SplitShaped
import Derived.Shelf.Bits.Mul64
import Derived.Shelf.Strings.Repeat
import Derived.Shelf.Unicode.DecodeSlow
import Derived.Ground.Names2Prog
import Derived.Shelf.Slices.ReverseS
import Derived.Shelf.Slices.Clone
import Derived.Shelf.Slices.SearchI
import Derived.Shelf.Slices.Delete
import Derived.Shelf.Slices.Cells
import Derived.Shelf.Slices.In.SortNone
import Derived.Shelf.Slices.Empties
import Derived.Ground.SlsfProg
import Derived.Shelf.SlSortCmp.Insertion
import Derived.Shelf.SlSortCmp.Insertion1
import Derived.Shelf.SlSortCmp.NoneTotal
import Derived.Test.YtdagikbdpeblhaaGreatDoorProg
namespace Go.Proofs
open Go.Shelf
def Tryz.lays156_ren : Go.Shelf.Ren := ⟨fun | 156 => 187 | 165 => 215 | 166 => 216 | 169 => 218 | 240 => 246 | 241 => 247 | 276 => 260 | 277 => 261 | n => n, fun | 31 => 36 | 9 => 9 | 3 => 3 | 4 => 4 | 0 => 0 | 20 => 20 | 72 => 267 | 76 => 270 | 70 => 265 | 37 => 227 | 75 => 269 | 127 => 290 | 164 => 305 | 5 => 5 | 80 => 272 | n => n, fun | n => n⟩
theorem Tryz.lays156 : Go.Proofs.Lays.n156 Tryz.prog Tryz.lays156_ren := {
  mixed := by kernel_rfl
  f156 := Tryz.func187.trans (congrArg some (by kernel_rfl))
  f165 := Tryz.func215.trans (congrArg some (by kernel_rfl))
  f166 := Tryz.func216.trans (congrArg some (by kernel_rfl))
  f169 := Tryz.func218.trans (congrArg some (by kernel_rfl))
  f240 := Tryz.func246.trans (congrArg some (by kernel_rfl))
  f241 := Tryz.func247.trans (congrArg some (by kernel_rfl))
  f276 := Tryz.func260.trans (congrArg some (by kernel_rfl))
  f277 := Tryz.func261.trans (congrArg some (by kernel_rfl))
  t0 := Tryz.underlying0
  a0 := Tryz.isAgg0
  z0 := Tryz.sizeOf0
  v0 := Tryz.zeroValue0
  t3 := Tryz.underlying3
  a3 := Tryz.isAgg3
  z3 := Tryz.sizeOf3
  v3 := Tryz.zeroValue3
  t4 := Tryz.underlying4
  a4 := Tryz.isAgg4
  z4 := Tryz.sizeOf4
  v4 := Tryz.zeroValue4
  t9 := Tryz.underlying9
  a9 := Tryz.isAgg9
  z9 := Tryz.sizeOf9
  v9 := Tryz.zeroValue9
  t20 := Tryz.underlying20
  a20 := Tryz.isAgg20
  z20 := Tryz.sizeOf20
  v20 := Tryz.zeroValue20
  t31 := Tryz.underlying36
  a31 := Tryz.isAgg36
  z31 := Tryz.sizeOf36
  v31 := Tryz.zeroValue36
  t37 := Tryz.underlying227
  a37 := Tryz.isAgg227
  z37 := Tryz.sizeOf227
  v37 := Tryz.zeroValue227
  t70 := Tryz.underlying265
  a70 := Tryz.isAgg265
  z70 := Tryz.sizeOf265
  v70 := Tryz.zeroValue265
  t72 := Tryz.underlying267
  a72 := Tryz.isAgg267
  z72 := Tryz.sizeOf267
  v72 := Tryz.zeroValue267
  t75 := Tryz.underlying269
  a75 := Tryz.isAgg269
  z75 := Tryz.sizeOf269
  v75 := Tryz.zeroValue269
  t76 := Tryz.underlying270
  a76 := Tryz.isAgg270
  z76 := Tryz.sizeOf270
  v76 := Tryz.zeroValue270
  t127 := Tryz.underlying290
  a127 := Tryz.isAgg290
  z127 := Tryz.sizeOf290
  v127 := Tryz.zeroValue290
  t164 := Tryz.underlying305
  a164 := Tryz.isAgg305
  z164 := Tryz.sizeOf305
  v164 := Tryz.zeroValue305 }
theorem Tryz.Builder_Extra_156 : Builder.Extra Tryz.prog Tryz.lays156_ren := {
  sizeBuilder := by kernel_rfl
  liesBuilder := by kernel_rfl
  t5 := Tryz.underlying5
  a5 := Tryz.isAgg5
  z5 := Tryz.sizeOf5
  v5 := Tryz.zeroValue5
  infoByte := by kernel_rfl
  cellsByte := by kernel_rfl
  sizeByte := by kernel_rfl
  neB5 := by decide }
open Go.RowKit in
/-- No element: the empty string; the world is as it was. (Whatever the slice's address and capacity: a nil slice too.) (LAID: no walk: one application.) -/
theorem Tryz.strings_Join_none (a : Option Addr) (c : Nat) (sep : ByteArray) (w : World) :
    Calls Tryz.prog 187 #[.slice a 0 c, .string sep] w fun e w' => e = .returned (.string ⟨#[]⟩) ∧ w' = w := Any.strings_Join_none Tryz.lays156 Tryz.Builder_Extra_156 a c sep w
open Go.RowKit in
/-- strings.Join: "Join concatenates the elements of its first argument to create a single string. The separator string sep is placed between elements in the resulting string.": HOWEVER MANY ELEMENTS. Below the heap's end the world is as it was. (LAID: no walk: one application.) -/
theorem Tryz.strings_Join (bk o c : Nat) (xs : List ByteArray) (sep : ByteArray) (w : World) (hcells : ∀ (j : Nat) x, xs[j]? = some x → w.cell? ⟨bk, o + j, none⟩ = some (.string x)) (hbk : bk < w.heap.size) (hN : xs.length ≤ 140737488355328) (hcap : xs.length ≤ c) (hlen : (Lib.join (xs.map (·.data.toList)) sep.data.toList).length ≤ 140737488355328) :
    Calls Tryz.prog 187 #[.slice (some ⟨bk, o, none⟩) xs.length c, .string sep] w fun e w' => e = .returned (.string ⟨(Lib.join (xs.map (·.data.toList)) sep.data.toList).toArray⟩) ∧ Below w.heap.size w w' := Any.strings_Join Tryz.lays156 Tryz.Builder_Extra_156 bk o c xs sep w hcells hbk hN hcap hlen
def Tryz.lays103_ren : Go.Shelf.Ren := ⟨fun | 103 => 106 | 210 => 144 | 206 => 170 | n => n, fun | 9 => 9 | 4 => 4 | 24 => 162 | 3 => 3 | n => n, fun | n => n⟩
theorem Tryz.lays103 : Go.Proofs.Lays.n103 Tryz.prog Tryz.lays103_ren := {
  mixed := by kernel_rfl
  f103 := Tryz.func106.trans (congrArg some (by kernel_rfl))
  f206 := Tryz.func170.trans (congrArg some (by kernel_rfl))
  f210 := Tryz.func144.trans (congrArg some (by kernel_rfl))
  t3 := Tryz.underlying3
  a3 := Tryz.isAgg3
  z3 := Tryz.sizeOf3
  v3 := Tryz.zeroValue3
  t4 := Tryz.underlying4
  a4 := Tryz.isAgg4
  z4 := Tryz.sizeOf4
  v4 := Tryz.zeroValue4
  t9 := Tryz.underlying9
  a9 := Tryz.isAgg9
  z9 := Tryz.sizeOf9
  v9 := Tryz.zeroValue9
  t24 := Tryz.underlying162
  a24 := Tryz.isAgg162
  z24 := Tryz.sizeOf162
  v24 := Tryz.zeroValue162 }
open Go.RowKit in
/-- strings.CutPrefix: "CutPrefix returns s without the provided leading prefix string and reports whether it found the prefix. If s doesn't start with prefix, CutPrefix returns s, false. If prefix is the empty string, CutPrefix returns s, true.": IT RETURNS '(Lib.trimPrefix s p, Lib.hasPrefix s p)'; the world is as it was. (LAID: no walk: one application.) -/
theorem Tryz.strings_CutPrefix (s p : ByteArray) (w : World) :
    Calls Tryz.prog 106 #[.string s, .string p] w fun e w' => e = .returned (.tuple #[.string ⟨(Lib.trimPrefix s.data.toList p.data.toList).toArray⟩, .bool (Lib.hasPrefix s.data.toList p.data.toList)]) ∧ w' = w := Any.strings_CutPrefix Tryz.lays103 s p w
def Tryz.laysM171_ren : Go.Shelf.Ren := ⟨fun | 171 => 185 | 243 => 212 | 246 => 243 | 283 => 256 | 284 => 257 | 285 => 258 | 286 => 259 | 129 => 205 | 317 => 264 | 318 => 265 | 319 => 266 | 320 => 267 | 337 => 268 | 338 => 269 | n => n, fun | 3 => 3 | 9 => 9 | 2 => 2 | 4 => 4 | 171 => 301 | 0 => 0 | 53 => 210 | 37 => 227 | 5 => 5 | 173 => 303 | 212 => 310 | 51 => 256 | 20 => 20 | 213 => 311 | 46 => 233 | 232 => 312 | 233 => 313 | n => n, fun | 17 => 3 | 18 => 4 | 19 => 5 | n => n⟩
theorem Tryz.laysM171 : Go.Proofs.LaysM.n171 Tryz.prog Tryz.laysM171_ren := {
  mixed := by kernel_rfl
  f129 := Tryz.func205.trans (congrArg some (by kernel_rfl))
  f171 := Tryz.func185.trans (congrArg some (by kernel_rfl))
  f243 := Tryz.func212.trans (congrArg some (by kernel_rfl))
  f246 := Tryz.func243.trans (congrArg some (by kernel_rfl))
  f283 := Tryz.func256.trans (congrArg some (by kernel_rfl))
  f284 := Tryz.func257.trans (congrArg some (by kernel_rfl))
  f285 := Tryz.func258.trans (congrArg some (by kernel_rfl))
  f286 := Tryz.func259.trans (congrArg some (by kernel_rfl))
  f317 := Tryz.func264.trans (congrArg some (by kernel_rfl))
  f318 := Tryz.func265.trans (congrArg some (by kernel_rfl))
  f319 := Tryz.func266.trans (congrArg some (by kernel_rfl))
  f320 := Tryz.func267.trans (congrArg some (by kernel_rfl))
  f337 := Tryz.func268.trans (congrArg some (by kernel_rfl))
  f338 := Tryz.func269.trans (congrArg some (by kernel_rfl))
  t0 := Tryz.underlying0
  a0 := Tryz.isAgg0
  z0 := Tryz.sizeOf0
  v0 := Tryz.zeroValue0
  t2 := Tryz.underlying2
  a2 := Tryz.isAgg2
  z2 := Tryz.sizeOf2
  v2 := Tryz.zeroValue2
  t3 := Tryz.underlying3
  a3 := Tryz.isAgg3
  z3 := Tryz.sizeOf3
  v3 := Tryz.zeroValue3
  t4 := Tryz.underlying4
  a4 := Tryz.isAgg4
  z4 := Tryz.sizeOf4
  v4 := Tryz.zeroValue4
  t5 := Tryz.underlying5
  a5 := Tryz.isAgg5
  z5 := Tryz.sizeOf5
  v5 := Tryz.zeroValue5
  t9 := Tryz.underlying9
  a9 := Tryz.isAgg9
  z9 := Tryz.sizeOf9
  v9 := Tryz.zeroValue9
  t20 := Tryz.underlying20
  a20 := Tryz.isAgg20
  z20 := Tryz.sizeOf20
  v20 := Tryz.zeroValue20
  t37 := Tryz.underlying227
  a37 := Tryz.isAgg227
  z37 := Tryz.sizeOf227
  v37 := Tryz.zeroValue227
  t46 := Tryz.underlying233
  a46 := Tryz.isAgg233
  z46 := Tryz.sizeOf233
  v46 := Tryz.zeroValue233
  t51 := Tryz.underlying256
  a51 := Tryz.isAgg256
  z51 := Tryz.sizeOf256
  v51 := Tryz.zeroValue256
  t53 := Tryz.underlying210
  a53 := Tryz.isAgg210
  z53 := Tryz.sizeOf210
  v53 := Tryz.zeroValue210
  t171 := Tryz.underlying301
  a171 := Tryz.isAgg301
  z171 := Tryz.sizeOf301
  v171 := Tryz.zeroValue301
  t173 := Tryz.underlying303
  a173 := Tryz.isAgg303
  z173 := Tryz.sizeOf303
  v173 := Tryz.zeroValue303
  t212 := Tryz.underlying310
  a212 := Tryz.isAgg310
  z212 := Tryz.sizeOf310
  v212 := Tryz.zeroValue310
  t213 := Tryz.underlying311
  a213 := Tryz.isAgg311
  z213 := Tryz.sizeOf311
  t232 := Tryz.underlying312
  a232 := Tryz.isAgg312
  z232 := Tryz.sizeOf312
  v232 := Tryz.zeroValue312
  t233 := Tryz.underlying313
  a233 := Tryz.isAgg313
  z233 := Tryz.sizeOf313
  v233 := Tryz.zeroValue313
  g17 := by kernel_rfl
  g18 := by kernel_rfl
  g19 := by kernel_rfl
  i0 := by kernel_rfl
  i2 := by kernel_rfl
  i3 := by kernel_rfl
  i4 := by kernel_rfl
  i5 := by kernel_rfl
  i9 := by kernel_rfl
  i20 := by kernel_rfl
  i37 := by kernel_rfl
  i46 := by kernel_rfl
  i51 := by kernel_rfl
  i53 := by kernel_rfl
  i171 := by kernel_rfl
  i173 := by kernel_rfl
  i212 := by kernel_rfl
  i232 := by kernel_rfl
  i233 := by kernel_rfl
  m17 := by kernel_rfl
  m18 := by kernel_rfl
  m19 := by kernel_rfl }
open Go.RowKit Go.Sort Go.Lib in
/-- strconv.Itoa: "Itoa is equivalent to FormatInt(int64(i), 10).": i's DECIMAL NUMERAL ('Lib.itoa': a '-' where i is negative, then the digits), FOR EVERY int. The world behind the call: the world before it, new blocks behind the heap (the library's 'var a [24]byte'), draws. (LAID: no walk: one application.) -/
theorem Tryz.strconv_Itoa (n : Int) (h0 : -9223372036854775808 ≤ n) (h1 : n ≤ 9223372036854775807) (w : World) (htab : Lib.TabIs Tryz.prog w "internal/strconv.uint64pow10" .u64 Lib.pow10Tab) :
    Calls Tryz.prog 185 #[.int .i64 n] w fun e w' => e = .returned (.string ⟨(Lib.itoa n).toArray⟩) ∧ ∃ k os, w' = grow (w.drewN k) os := Any.strconv_Itoa Tryz.laysM171 n h0 h1 w htab
def Tryz.lays190_ren : Go.Shelf.Ren := ⟨fun | 190 => 148 | 125 => 176 | 258 => 175 | 128 => 204 | 129 => 205 | 302 => 195 | 303 => 196 | 304 => 197 | 305 => 198 | 306 => 199 | 307 => 200 | 308 => 201 | 309 => 202 | 310 => 203 | 333 => 227 | 329 => 228 | 330 => 229 | 334 => 230 | 335 => 231 | 336 => 232 | 344 => 251 | n => n, fun | 31 => 36 | 9 => 9 | 3 => 3 | 46 => 233 | 0 => 0 | 51 => 256 | 53 => 210 | 4 => 4 | 183 => 250 | 182 => 249 | 131 => 108 | 5 => 5 | 218 => 274 | 222 => 278 | 228 => 296 | 229 => 297 | n => n, fun | n => n⟩
theorem Tryz.lays190 : Go.Proofs.Lays.n190 Tryz.prog Tryz.lays190_ren := {
  mixed := by kernel_rfl
  f125 := Tryz.func176.trans (congrArg some (by kernel_rfl))
  f128 := Tryz.func204.trans (congrArg some (by kernel_rfl))
  f129 := Tryz.func205.trans (congrArg some (by kernel_rfl))
  f190 := Tryz.func148.trans (congrArg some (by kernel_rfl))
  f258 := Tryz.func175.trans (congrArg some (by kernel_rfl))
  f302 := Tryz.func195.trans (congrArg some (by kernel_rfl))
  f303 := Tryz.func196.trans (congrArg some (by kernel_rfl))
  f304 := Tryz.func197.trans (congrArg some (by kernel_rfl))
  f305 := Tryz.func198.trans (congrArg some (by kernel_rfl))
  f306 := Tryz.func199.trans (congrArg some (by kernel_rfl))
  f307 := Tryz.func200.trans (congrArg some (by kernel_rfl))
  f308 := Tryz.func201.trans (congrArg some (by kernel_rfl))
  f309 := Tryz.func202.trans (congrArg some (by kernel_rfl))
  f310 := Tryz.func203.trans (congrArg some (by kernel_rfl))
  f329 := Tryz.func228.trans (congrArg some (by kernel_rfl))
  f330 := Tryz.func229.trans (congrArg some (by kernel_rfl))
  f333 := Tryz.func227.trans (congrArg some (by kernel_rfl))
  f334 := Tryz.func230.trans (congrArg some (by kernel_rfl))
  f335 := Tryz.func231.trans (congrArg some (by kernel_rfl))
  f336 := Tryz.func232.trans (congrArg some (by kernel_rfl))
  f344 := Tryz.func251.trans (congrArg some (by kernel_rfl))
  t0 := Tryz.underlying0
  a0 := Tryz.isAgg0
  z0 := Tryz.sizeOf0
  v0 := Tryz.zeroValue0
  t3 := Tryz.underlying3
  a3 := Tryz.isAgg3
  z3 := Tryz.sizeOf3
  v3 := Tryz.zeroValue3
  t4 := Tryz.underlying4
  a4 := Tryz.isAgg4
  z4 := Tryz.sizeOf4
  v4 := Tryz.zeroValue4
  t5 := Tryz.underlying5
  a5 := Tryz.isAgg5
  z5 := Tryz.sizeOf5
  v5 := Tryz.zeroValue5
  t9 := Tryz.underlying9
  a9 := Tryz.isAgg9
  z9 := Tryz.sizeOf9
  v9 := Tryz.zeroValue9
  t31 := Tryz.underlying36
  a31 := Tryz.isAgg36
  z31 := Tryz.sizeOf36
  v31 := Tryz.zeroValue36
  t46 := Tryz.underlying233
  a46 := Tryz.isAgg233
  z46 := Tryz.sizeOf233
  v46 := Tryz.zeroValue233
  t51 := Tryz.underlying256
  a51 := Tryz.isAgg256
  z51 := Tryz.sizeOf256
  v51 := Tryz.zeroValue256
  t53 := Tryz.underlying210
  a53 := Tryz.isAgg210
  z53 := Tryz.sizeOf210
  v53 := Tryz.zeroValue210
  t131 := Tryz.underlying108
  a131 := Tryz.isAgg108
  z131 := Tryz.sizeOf108
  v131 := Tryz.zeroValue108
  t182 := Tryz.underlying249
  a182 := Tryz.isAgg249
  z182 := Tryz.sizeOf249
  v182 := Tryz.zeroValue249
  t183 := Tryz.underlying250
  a183 := Tryz.isAgg250
  z183 := Tryz.sizeOf250
  v183 := Tryz.zeroValue250
  t218 := Tryz.underlying274
  a218 := Tryz.isAgg274
  z218 := Tryz.sizeOf274
  v218 := Tryz.zeroValue274
  t222 := Tryz.underlying278
  a222 := Tryz.isAgg278
  z222 := Tryz.sizeOf278
  v222 := Tryz.zeroValue278
  t228 := Tryz.underlying296
  a228 := Tryz.isAgg296
  z228 := Tryz.sizeOf296
  v228 := Tryz.zeroValue296
  t229 := Tryz.underlying297
  a229 := Tryz.isAgg297
  z229 := Tryz.sizeOf297
  v229 := Tryz.zeroValue297 }
open Go.Sort Go.RowKit in
theorem Tryz.slices_Sort_string (blk off cap : Nat) (ss : List (List UInt8)) (w : World) (hH : Holds encStr w blk off ss.toArray) (hblk : blk < w.heap.size) (hsz : ss.length < 4611686018427387904) :
    Calls Tryz.prog 148 #[.slice (some ⟨blk, off, none⟩) ss.length cap] w fun e w' =>
      e = .returned (.tuple #[]) ∧ ∃ n os, w' = grow (putRow encStr (Sort.ahead w n) blk off (ss.mergeSort fun x y => decide (x ≤ y)).toArray) os := Any.slices_Sort_string Tryz.lays190 blk off cap ss w hH hblk hsz
def Tryz.lays146_ren : Go.Shelf.Ren := ⟨fun | 146 => 107 | 221 => 145 | 268 => 171 | 138 => 172 | 143 => 173 | 195 => 191 | 197 => 192 | 218 => 193 | 219 => 194 | 260 => 222 | 217 => 223 | 225 => 224 | 224 => 225 | 267 => 226 | 266 => 249 | 314 => 250 | n => n, fun | 9 => 9 | 31 => 36 | 3 => 3 | 4 => 4 | 0 => 0 | 105 => 245 | 21 => 21 | 5 => 5 | 46 => 233 | 119 => 291 | 139 => 294 | 138 => 293 | 146 => 286 | 51 => 256 | n => n, fun | 1 => 0 | 3 => 1 | 4 => 2 | n => n⟩
theorem Tryz.lays146 : Go.Proofs.Lays.n146 Tryz.prog Tryz.lays146_ren := {
  mixed := by kernel_rfl
  f138 := Tryz.func172.trans (congrArg some (by kernel_rfl))
  f143 := Tryz.func173.trans (congrArg some (by kernel_rfl))
  f146 := Tryz.func107.trans (congrArg some (by kernel_rfl))
  f195 := Tryz.func191.trans (congrArg some (by kernel_rfl))
  f197 := Tryz.func192.trans (congrArg some (by kernel_rfl))
  f217 := Tryz.func223.trans (congrArg some (by kernel_rfl))
  f218 := Tryz.func193.trans (congrArg some (by kernel_rfl))
  f219 := Tryz.func194.trans (congrArg some (by kernel_rfl))
  f221 := Tryz.func145.trans (congrArg some (by kernel_rfl))
  f224 := Tryz.func225.trans (congrArg some (by kernel_rfl))
  f225 := Tryz.func224.trans (congrArg some (by kernel_rfl))
  f260 := Tryz.func222.trans (congrArg some (by kernel_rfl))
  f266 := Tryz.func249.trans (congrArg some (by kernel_rfl))
  f267 := Tryz.func226.trans (congrArg some (by kernel_rfl))
  f268 := Tryz.func171.trans (congrArg some (by kernel_rfl))
  f314 := Tryz.func250.trans (congrArg some (by kernel_rfl))
  t0 := Tryz.underlying0
  a0 := Tryz.isAgg0
  z0 := Tryz.sizeOf0
  v0 := Tryz.zeroValue0
  t3 := Tryz.underlying3
  a3 := Tryz.isAgg3
  z3 := Tryz.sizeOf3
  v3 := Tryz.zeroValue3
  t4 := Tryz.underlying4
  a4 := Tryz.isAgg4
  z4 := Tryz.sizeOf4
  v4 := Tryz.zeroValue4
  t5 := Tryz.underlying5
  a5 := Tryz.isAgg5
  z5 := Tryz.sizeOf5
  v5 := Tryz.zeroValue5
  t9 := Tryz.underlying9
  a9 := Tryz.isAgg9
  z9 := Tryz.sizeOf9
  v9 := Tryz.zeroValue9
  t21 := Tryz.underlying21
  a21 := Tryz.isAgg21
  z21 := Tryz.sizeOf21
  v21 := Tryz.zeroValue21
  t31 := Tryz.underlying36
  a31 := Tryz.isAgg36
  z31 := Tryz.sizeOf36
  v31 := Tryz.zeroValue36
  t46 := Tryz.underlying233
  a46 := Tryz.isAgg233
  z46 := Tryz.sizeOf233
  v46 := Tryz.zeroValue233
  t51 := Tryz.underlying256
  a51 := Tryz.isAgg256
  z51 := Tryz.sizeOf256
  v51 := Tryz.zeroValue256
  t105 := Tryz.underlying245
  a105 := Tryz.isAgg245
  z105 := Tryz.sizeOf245
  v105 := Tryz.zeroValue245
  t119 := Tryz.underlying291
  a119 := Tryz.isAgg291
  z119 := Tryz.sizeOf291
  t138 := Tryz.underlying293
  a138 := Tryz.isAgg293
  z138 := Tryz.sizeOf293
  v138 := Tryz.zeroValue293
  t139 := Tryz.underlying294
  a139 := Tryz.isAgg294
  z139 := Tryz.sizeOf294
  v139 := Tryz.zeroValue294
  t146 := Tryz.underlying286
  a146 := Tryz.isAgg286
  z146 := Tryz.sizeOf286
  v146 := Tryz.zeroValue286
  g1 := by kernel_rfl
  g3 := by kernel_rfl
  g4 := by kernel_rfl }
open Go.RowKit Go.Lib in
/-- strings.Split. (LAID: no walk: one application.) -/
theorem Tryz.strings_Split (s sep : ByteArray) (m : Int) (w : World) (hs : s.size < 4294967281) (hm : w.cell? ⟨0, 0, none⟩ = some (.int .i64 m)) (h1 : 1 ≤ sep.size) :
    Calls Tryz.prog 107 #[.string s, .string sep] w fun e w' =>
      e = .returned (.slice (some ⟨w.heap.size, 0, none⟩) (Lib.countB s sep + 1) (Lib.countB s sep + 1)) ∧ w' = w.alloc (.cells ((Lib.splitB sep 0 (Lib.countB s sep) s).map Value.string).toArray 9) := Any.strings_Split Tryz.lays146 (by kernel_rfl) s sep m w hs hm h1
def Tryz.laysM146_ren : Go.Shelf.Ren := ⟨fun | 146 => 107 | 221 => 145 | 268 => 171 | 138 => 172 | 143 => 173 | 195 => 191 | 197 => 192 | 218 => 193 | 219 => 194 | 260 => 222 | 217 => 223 | 225 => 224 | 224 => 225 | 267 => 226 | 266 => 249 | 314 => 250 | n => n, fun | 9 => 9 | 31 => 36 | 3 => 3 | 4 => 4 | 0 => 0 | 105 => 245 | 21 => 21 | 5 => 5 | 46 => 233 | 119 => 291 | 139 => 294 | 138 => 293 | 146 => 286 | 51 => 256 | n => n, fun | 1 => 0 | 3 => 1 | 4 => 2 | n => n⟩
theorem Tryz.laysM146 : Go.Proofs.LaysM.n146 Tryz.prog Tryz.laysM146_ren := {
  mixed := by kernel_rfl
  f138 := Tryz.func172.trans (congrArg some (by kernel_rfl))
  f143 := Tryz.func173.trans (congrArg some (by kernel_rfl))
  f146 := Tryz.func107.trans (congrArg some (by kernel_rfl))
  f195 := Tryz.func191.trans (congrArg some (by kernel_rfl))
  f197 := Tryz.func192.trans (congrArg some (by kernel_rfl))
  f217 := Tryz.func223.trans (congrArg some (by kernel_rfl))
  f218 := Tryz.func193.trans (congrArg some (by kernel_rfl))
  f219 := Tryz.func194.trans (congrArg some (by kernel_rfl))
  f221 := Tryz.func145.trans (congrArg some (by kernel_rfl))
  f224 := Tryz.func225.trans (congrArg some (by kernel_rfl))
  f225 := Tryz.func224.trans (congrArg some (by kernel_rfl))
  f260 := Tryz.func222.trans (congrArg some (by kernel_rfl))
  f266 := Tryz.func249.trans (congrArg some (by kernel_rfl))
  f267 := Tryz.func226.trans (congrArg some (by kernel_rfl))
  f268 := Tryz.func171.trans (congrArg some (by kernel_rfl))
  f314 := Tryz.func250.trans (congrArg some (by kernel_rfl))
  t0 := Tryz.underlying0
  a0 := Tryz.isAgg0
  z0 := Tryz.sizeOf0
  v0 := Tryz.zeroValue0
  t3 := Tryz.underlying3
  a3 := Tryz.isAgg3
  z3 := Tryz.sizeOf3
  v3 := Tryz.zeroValue3
  t4 := Tryz.underlying4
  a4 := Tryz.isAgg4
  z4 := Tryz.sizeOf4
  v4 := Tryz.zeroValue4
  t5 := Tryz.underlying5
  a5 := Tryz.isAgg5
  z5 := Tryz.sizeOf5
  v5 := Tryz.zeroValue5
  t9 := Tryz.underlying9
  a9 := Tryz.isAgg9
  z9 := Tryz.sizeOf9
  v9 := Tryz.zeroValue9
  t21 := Tryz.underlying21
  a21 := Tryz.isAgg21
  z21 := Tryz.sizeOf21
  v21 := Tryz.zeroValue21
  t31 := Tryz.underlying36
  a31 := Tryz.isAgg36
  z31 := Tryz.sizeOf36
  v31 := Tryz.zeroValue36
  t46 := Tryz.underlying233
  a46 := Tryz.isAgg233
  z46 := Tryz.sizeOf233
  v46 := Tryz.zeroValue233
  t51 := Tryz.underlying256
  a51 := Tryz.isAgg256
  z51 := Tryz.sizeOf256
  v51 := Tryz.zeroValue256
  t105 := Tryz.underlying245
  a105 := Tryz.isAgg245
  z105 := Tryz.sizeOf245
  v105 := Tryz.zeroValue245
  t119 := Tryz.underlying291
  a119 := Tryz.isAgg291
  z119 := Tryz.sizeOf291
  t138 := Tryz.underlying293
  a138 := Tryz.isAgg293
  z138 := Tryz.sizeOf293
  v138 := Tryz.zeroValue293
  t139 := Tryz.underlying294
  a139 := Tryz.isAgg294
  z139 := Tryz.sizeOf294
  v139 := Tryz.zeroValue294
  t146 := Tryz.underlying286
  a146 := Tryz.isAgg286
  z146 := Tryz.sizeOf286
  v146 := Tryz.zeroValue286
  g1 := by kernel_rfl
  g3 := by kernel_rfl
  g4 := by kernel_rfl
  i0 := by kernel_rfl
  i3 := by kernel_rfl
  i4 := by kernel_rfl
  i5 := by kernel_rfl
  i9 := by kernel_rfl
  i21 := by kernel_rfl
  i31 := by kernel_rfl
  i46 := by kernel_rfl
  i51 := by kernel_rfl
  i105 := by kernel_rfl
  i138 := by kernel_rfl
  i139 := by kernel_rfl
  i146 := by kernel_rfl
  m1 := by kernel_rfl
  s1_3 := fun w h => Go.Proofs.cell_of_shapedOpen_int (zero := #[.int .i64 0]) (t := 3) h (of_decide_eq_true (by kernel_rfl)) (by kernel_rfl) rfl (by kernel_rfl) (by kernel_rfl) Tryz.underlying3
  m3 := by kernel_rfl
  m4 := by kernel_rfl }
def Tryz.lays105_ren : Go.Shelf.Ren := ⟨fun | 105 => 186 | 212 => 213 | 99 => 214 | 165 => 215 | 166 => 216 | 170 => 217 | 169 => 218 | 263 => 244 | 264 => 245 | 206 => 170 | 240 => 246 | 241 => 247 | 276 => 260 | 277 => 261 | n => n, fun | 9 => 9 | 3 => 3 | 4 => 4 | 20 => 20 | 0 => 0 | 46 => 233 | 109 => 263 | 5 => 5 | 72 => 267 | 76 => 270 | 51 => 256 | 146 => 286 | 53 => 210 | 148 => 288 | 70 => 265 | 37 => 227 | 75 => 269 | 127 => 290 | 164 => 305 | 80 => 272 | n => n, fun | n => n⟩
theorem Tryz.lays105 : Go.Proofs.Lays.n105 Tryz.prog Tryz.lays105_ren := {
  mixed := by kernel_rfl
  f99 := Tryz.func214.trans (congrArg some (by kernel_rfl))
  f105 := Tryz.func186.trans (congrArg some (by kernel_rfl))
  f165 := Tryz.func215.trans (congrArg some (by kernel_rfl))
  f166 := Tryz.func216.trans (congrArg some (by kernel_rfl))
  f169 := Tryz.func218.trans (congrArg some (by kernel_rfl))
  f170 := Tryz.func217.trans (congrArg some (by kernel_rfl))
  f206 := Tryz.func170.trans (congrArg some (by kernel_rfl))
  f212 := Tryz.func213.trans (congrArg some (by kernel_rfl))
  f240 := Tryz.func246.trans (congrArg some (by kernel_rfl))
  f241 := Tryz.func247.trans (congrArg some (by kernel_rfl))
  f263 := Tryz.func244.trans (congrArg some (by kernel_rfl))
  f264 := Tryz.func245.trans (congrArg some (by kernel_rfl))
  f276 := Tryz.func260.trans (congrArg some (by kernel_rfl))
  f277 := Tryz.func261.trans (congrArg some (by kernel_rfl))
  t0 := Tryz.underlying0
  a0 := Tryz.isAgg0
  z0 := Tryz.sizeOf0
  v0 := Tryz.zeroValue0
  t3 := Tryz.underlying3
  a3 := Tryz.isAgg3
  z3 := Tryz.sizeOf3
  v3 := Tryz.zeroValue3
  t4 := Tryz.underlying4
  a4 := Tryz.isAgg4
  z4 := Tryz.sizeOf4
  v4 := Tryz.zeroValue4
  t5 := Tryz.underlying5
  a5 := Tryz.isAgg5
  z5 := Tryz.sizeOf5
  v5 := Tryz.zeroValue5
  t9 := Tryz.underlying9
  a9 := Tryz.isAgg9
  z9 := Tryz.sizeOf9
  v9 := Tryz.zeroValue9
  t20 := Tryz.underlying20
  a20 := Tryz.isAgg20
  z20 := Tryz.sizeOf20
  v20 := Tryz.zeroValue20
  t37 := Tryz.underlying227
  a37 := Tryz.isAgg227
  z37 := Tryz.sizeOf227
  v37 := Tryz.zeroValue227
  t46 := Tryz.underlying233
  a46 := Tryz.isAgg233
  z46 := Tryz.sizeOf233
  v46 := Tryz.zeroValue233
  t51 := Tryz.underlying256
  a51 := Tryz.isAgg256
  z51 := Tryz.sizeOf256
  v51 := Tryz.zeroValue256
  t53 := Tryz.underlying210
  a53 := Tryz.isAgg210
  z53 := Tryz.sizeOf210
  v53 := Tryz.zeroValue210
  t70 := Tryz.underlying265
  a70 := Tryz.isAgg265
  z70 := Tryz.sizeOf265
  v70 := Tryz.zeroValue265
  t72 := Tryz.underlying267
  a72 := Tryz.isAgg267
  z72 := Tryz.sizeOf267
  v72 := Tryz.zeroValue267
  t75 := Tryz.underlying269
  a75 := Tryz.isAgg269
  z75 := Tryz.sizeOf269
  v75 := Tryz.zeroValue269
  t76 := Tryz.underlying270
  a76 := Tryz.isAgg270
  z76 := Tryz.sizeOf270
  v76 := Tryz.zeroValue270
  t109 := Tryz.underlying263
  a109 := Tryz.isAgg263
  z109 := Tryz.sizeOf263
  v109 := Tryz.zeroValue263
  t127 := Tryz.underlying290
  a127 := Tryz.isAgg290
  z127 := Tryz.sizeOf290
  v127 := Tryz.zeroValue290
  t146 := Tryz.underlying286
  a146 := Tryz.isAgg286
  z146 := Tryz.sizeOf286
  v146 := Tryz.zeroValue286
  t148 := Tryz.underlying288
  a148 := Tryz.isAgg288
  z148 := Tryz.sizeOf288
  v148 := Tryz.zeroValue288
  t164 := Tryz.underlying305
  a164 := Tryz.isAgg305
  z164 := Tryz.sizeOf305
  v164 := Tryz.zeroValue305 }
theorem Tryz.Builder_Extra_105 : Builder.Extra Tryz.prog Tryz.lays105_ren := {
  sizeBuilder := by kernel_rfl
  liesBuilder := by kernel_rfl
  t5 := Tryz.underlying5
  a5 := Tryz.isAgg5
  z5 := Tryz.sizeOf5
  v5 := Tryz.zeroValue5
  infoByte := by kernel_rfl
  cellsByte := by kernel_rfl
  sizeByte := by kernel_rfl
  neB5 := by decide }
open Go.RowKit Go.Lib in
/-- **strings.Repeat: count ≥ 0, the result within one allocation: count copies of s.** (LAID: no walk: one application.) -/
theorem Tryz.strings_Repeat (s : ByteArray) (c : Nat) (w : World) (hc : c ≤ 9223372036854775807) (hlen : s.size * c ≤ 140737488355328) :
    Calls Tryz.prog 186 #[.string s, .int .i64 c] w fun e w' => e = .returned (.string ⟨(Lib.repeatL s.data.toList c).toArray⟩) ∧ Below w.heap.size w w' := Any.strings_Repeat Tryz.lays105 Tryz.Builder_Extra_105 s c w hc hlen
def Tryz.laysNm216_ren : Go.Shelf.Ren := ⟨fun | 16 => 110 | n => n, fun | 24 => 36 | 9 => 9 | 4 => 4 | n => n, fun | n => n⟩
theorem Tryz.laysNm216 : Go.Proofs.Lays2.n16 Tryz.prog Tryz.laysNm216_ren := {
  mixed := by kernel_rfl
  f16 := Tryz.func110.trans (congrArg some (by kernel_rfl))
  t4 := Tryz.underlying4
  a4 := Tryz.isAgg4
  z4 := Tryz.sizeOf4
  v4 := Tryz.zeroValue4
  t9 := Tryz.underlying9
  a9 := Tryz.isAgg9
  z9 := Tryz.sizeOf9
  v9 := Tryz.zeroValue9
  t24 := Tryz.underlying36
  a24 := Tryz.isAgg36
  z24 := Tryz.sizeOf36
  v24 := Tryz.zeroValue36
  i9 := by kernel_rfl }
open Go.RowKit Go.Lib in
/-- slices.Clone at []string: "Clone returns a copy of the slice. The elements are copied using assignment, so this is a shallow clone. The result may have additional unused capacity. The result preserves the nilness of s.": OF A SLICE THAT IS NOT nil IT RETURNS A SLICE THAT IS NOT nil, OF THE SAME ELEMENTS, IN MEMORY OF THE CALL's OWN: in the how-to's words (6f): 'w'.ownsRow B e 1 v' n cells': v' begins at the head of a row among the blocks from B on (B: the heap's size at the call), not frozen, whose first cells are the elements · 'Below B w w'': below B all is as it was. The capacity is whatever the run-time gives. 'zs': what the cells behind the slice's address hold; 'zs.take n': its elements. (LAID: no walk: one application.) -/
theorem Tryz.slices_Clone_string (b off n c : Nat) (zs : List ByteArray) (w : World) (hz : n ≤ zs.length) (hbig : n * 16 ≤ 140737488355328) (hc : ∀ j, j < zs.length → w.cell? ⟨b, off + j, none⟩ = some (.string (zs.getD j ByteArray.empty))) :
    Calls Tryz.prog 110 #[.slice (some ⟨b, off, none⟩) n c] w fun e w' => ∃ v', e = .returned v' ∧ w'.ownsRow w.heap.size 9 1 v' n ((zs.take n).map (Value.string)) ∧ v' ≠ .slice none 0 0 ∧ Below w.heap.size w w' := Any.slices_Clone_string Tryz.laysNm216 b off n c zs w hz hbig hc
open Go.RowKit Go.Lib in
/-- The same at nil: nil comes back; the world is as it was. (LAID: no walk: one application.) -/
theorem Tryz.slices_Clone_string_nil (n c : Nat) (w : World) :
    Calls Tryz.prog 110 #[.slice none n c] w fun e w' => e = .returned (.slice none 0 0) ∧ w' = w := Any.slices_Clone_string_nil Tryz.laysNm216 n c w
open Go.RowKit Go.Lib in
/-- The same at a slice of length 0 that is not nil, WHATEVER ITS ADDRESS (no cell is asked for): a slice that is not nil and owns nothing comes back. (LAID: no walk: one application.) -/
theorem Tryz.slices_Clone_string_zero (a : Addr) (c : Nat) (w : World) :
    Calls Tryz.prog 110 #[.slice (some a) 0 c] w fun e w' => ∃ v', e = .returned v' ∧ w'.ownsRow w.heap.size 9 1 v' 0 [] ∧ v' ≠ .slice none 0 0 ∧ Below w.heap.size w w' := Any.slices_Clone_string_zero Tryz.laysNm216 a c w
def Tryz.laysNm224_ren : Go.Shelf.Ren := ⟨fun | 24 => 190 | n => n, fun | 24 => 36 | 9 => 9 | 3 => 3 | 4 => 4 | 0 => 0 | n => n, fun | n => n⟩
theorem Tryz.laysNm224 : Go.Proofs.Lays2.n24 Tryz.prog Tryz.laysNm224_ren := {
  mixed := by kernel_rfl
  f24 := Tryz.func190.trans (congrArg some (by kernel_rfl))
  t0 := Tryz.underlying0
  a0 := Tryz.isAgg0
  z0 := Tryz.sizeOf0
  v0 := Tryz.zeroValue0
  t3 := Tryz.underlying3
  a3 := Tryz.isAgg3
  z3 := Tryz.sizeOf3
  v3 := Tryz.zeroValue3
  t4 := Tryz.underlying4
  a4 := Tryz.isAgg4
  z4 := Tryz.sizeOf4
  v4 := Tryz.zeroValue4
  t9 := Tryz.underlying9
  a9 := Tryz.isAgg9
  z9 := Tryz.sizeOf9
  v9 := Tryz.zeroValue9
  t24 := Tryz.underlying36
  a24 := Tryz.isAgg36
  z24 := Tryz.sizeOf36
  v24 := Tryz.zeroValue36
  i9 := by kernel_rfl }
open Go.RowKit Go.Lib Go.Sort in
/-- slices.Delete at []string, of an argument, for i ≤ j ≤ n. (LAID: no walk: one application.) -/
theorem Tryz.slices_Delete_string_cells (b off n c i j : Nat) (Sx : Nat → ByteArray) (w : World) (hcap : n ≤ c) (hm : c ≤ 9223372036854775807) (hij : i ≤ j) (hj : j ≤ n) (hc : ∀ i, i < n → w.cell? ⟨b, off + i, none⟩ = some (.string (Sx i))) (hf : ∀ j, j < n → w.frozen? ⟨b, off + j, none⟩ = false) :
    Calls Tryz.prog 190 #[.slice (some ⟨b, off, none⟩) n c, .int .i64 i, .int .i64 j] w fun e w' => e = .returned (.slice (some ⟨b, off, none⟩) (n - (j - i)) c) ∧ ∃ q, w' = (w.drewN q).setCells b off (((Lib.strsOf Sx n).take i ++ (Lib.strsOf Sx n).drop j ++ List.replicate (j - i) []).map encStr) := Any.slices_Delete_string_cells Tryz.laysNm224 b off n c i j Sx w hcap hm hij hj hc hf
open Go.RowKit Go.Sort in
/-- .. and plain. (LAID: no walk: one application.) -/
theorem Tryz.slices_Sort_string_none (p : Option Addr) (cap : Nat) (w : World) :
    Calls Tryz.prog 148 #[.slice p 0 cap] w fun e w' => e = .returned (.tuple #[]) ∧ w' = w := Any.slices_Sort_string_none Tryz.lays190 p cap w
end Go.Proofs
