/-
  Contracts of the library at this translation, laid by the kit (its plain mode).
-/
import Derived.Shelf.Strings.Builder1
import Derived.Shelf.Strings.Builder2
import Derived.Shelf.Strings.OnBuilder
import Derived.Shelf.Small.Utf8
import Derived.Shelf.Small.Bits
import Derived.Shelf.Small.Strs
import Derived.Shelf.Small.Wraps
import Derived.Shelf.Utf8.RuneCount
import Derived.Shelf.Strconv.Atoi
import Derived.Shelf.Strconv.Itoa0
import Derived.Shelf.Strconv.Itoa1
import Derived.Shelf.LaysM
import Derived.Shelf.Strconv.Itoa2
import Derived.Shelf.Strconv.Itoa3
import Derived.Shelf.Strconv.Itoa4
import Derived.Shelf.Strconv.AtoiErrFast
import Derived.Shelf.Strconv.ParseIntEmpty
import Derived.Shelf.Strconv.AtoiFail
import Derived.Shelf.Strconv.Clone
import Derived.Shelf.Strconv.SyntaxError
import Derived.Shelf.LaysC
import Derived.Shelf.Strconv.ToError
import Derived.Shelf.Strconv.AtoiErr
import Derived.Shelf.Strconv.ErrVar
import Derived.Shelf.Strconv.Lower
import Derived.Shelf.Strconv.ParseUint10
import Derived.Shelf.Strconv.ParseUint10Empty
import Derived.Shelf.Strconv.ParseUint10Any
import Derived.Shelf.Strconv.ParseInt10
import Derived.Shelf.Strconv.AtoiLong
import Derived.Shelf.Strconv.AtoiInnerAll
import Derived.Shelf.Strconv.RangeError
import Derived.Shelf.Strconv.ToErrorRange
import Derived.Shelf.Strconv.AtoiAll
import Derived.Shelf.Strconv.ErrVarAll
import Derived.Shelf.Strings.Search1
import Derived.Shelf.Strings.Search2
import Derived.Shelf.Strings.Search3
import Derived.Shelf.Strings.Cut
import Derived.Shelf.Strings.Count
import Derived.Shelf.Strings.Shaped
import Derived.Shelf.Sort.Plain
import Derived.Shelf.Strings.Prefix
import Derived.Shelf.Strings.Split
import Derived.Shelf.Strings.Replace
import Derived.Shelf.Strings.SplitShaped
import Derived.Shelf.Unicode.Latin
import Derived.Shelf.Unicode.Decode
import Derived.Shelf.Strings.Runes
import Derived.Shelf.Strings.RuneCount
import Derived.Shelf.Strings.AsciiSet
import Derived.Shelf.Strings.Explode
import Derived.Shelf.Unicode.DecodeSlow
import Derived.Shelf.Unicode.DecodeAny
import Derived.Shelf.Unicode.DecodeLast
import Derived.Shelf.Unicode.CaseLookup
import Derived.Shelf.Unicode.CaseConvert
import Derived.Shelf.Unicode.CaseTo
import Derived.Shelf.Unicode.CaseLaid
import Derived.Shelf.Slices.Turned
import Derived.Ground.Names2Prog
import Derived.Shelf.Slices.SearchI
import Derived.Shelf.Slices.Delete
import Derived.Shelf.Slices.Cells
import Derived.Shelf.Bytes.SlIndexSmall
import Derived.Shelf.Slices.Empties
import Derived.Shelf.Bytes.SlIndexAt
import Derived.Shelf.Bytes.SlSearch0
import Derived.Shelf.Bytes.SlSearch1
import Derived.Shelf.Bytes.SlSearch2
import Derived.Shelf.Bytes.SlIndexWhole
import Derived.Ground.SlbCloneProg
import Derived.Shelf.Bytes.SlClone
import Derived.Ground.SlgnProg
import Derived.Shelf.SlicesE.Clone
import Derived.Ground.SlgmProg
import Derived.Shelf.SortM.SortNone
import Derived.Shelf.Bytes.Small
import Derived.Shelf.Bytes.IndexByte
import Derived.Test.YtlhaempecidohaaGreatDoorProg
set_option linter.unusedSimpArgs false
set_option linter.unusedVariables false
namespace Go.Proofs
open Go.Shelf
def Tryz.lays158_ren : Go.Shelf.Ren := ⟨fun | 158 => 202 | 165 => 252 | 166 => 253 | 167 => 254 | 169 => 255 | 230 => 256 | 203 => 257 | 240 => 306 | 241 => 307 | 197 => 308 | 118 => 309 | 168 => 310 | 270 => 311 | 262 => 312 | 276 => 348 | 277 => 349 | 260 => 350 | 242 => 351 | 313 => 352 | 278 => 383 | 274 => 384 | 275 => 385 | n => n, fun | 9 => 9 | 4 => 4 | 3 => 3 | 5 => 5 | 72 => 333 | 0 => 0 | 76 => 206 | 75 => 205 | 107 => 337 | 70 => 331 | 20 => 20 | 37 => 23 | 127 => 383 | 21 => 21 | 105 => 384 | 164 => 418 | 162 => 423 | 203 => 421 | 119 => 439 | 46 => 271 | 139 => 442 | 138 => 441 | 51 => 35 | 160 => 443 | 208 => 483 | 206 => 481 | 80 => 199 | n => n, fun | 13 => 4 | 3 => 5 | 4 => 6 | n => n⟩
theorem Tryz.lays158 : Go.Proofs.Lays.n158 Tryz.prog Tryz.lays158_ren := {
  mixed := by kernel_rfl
  f118 := Tryz.func309.trans (congrArg some (by kernel_rfl))
  f158 := Tryz.func202.trans (congrArg some (by kernel_rfl))
  f165 := Tryz.func252.trans (congrArg some (by kernel_rfl))
  f166 := Tryz.func253.trans (congrArg some (by kernel_rfl))
  f167 := Tryz.func254.trans (congrArg some (by kernel_rfl))
  f168 := Tryz.func310.trans (congrArg some (by kernel_rfl))
  f169 := Tryz.func255.trans (congrArg some (by kernel_rfl))
  f197 := Tryz.func308.trans (congrArg some (by kernel_rfl))
  f203 := Tryz.func257.trans (congrArg some (by kernel_rfl))
  f230 := Tryz.func256.trans (congrArg some (by kernel_rfl))
  f240 := Tryz.func306.trans (congrArg some (by kernel_rfl))
  f241 := Tryz.func307.trans (congrArg some (by kernel_rfl))
  f242 := Tryz.func351.trans (congrArg some (by kernel_rfl))
  f260 := Tryz.func350.trans (congrArg some (by kernel_rfl))
  f262 := Tryz.func312.trans (congrArg some (by kernel_rfl))
  f270 := Tryz.func311.trans (congrArg some (by kernel_rfl))
  f274 := Tryz.func384.trans (congrArg some (by kernel_rfl))
  f275 := Tryz.func385.trans (congrArg some (by kernel_rfl))
  f276 := Tryz.func348.trans (congrArg some (by kernel_rfl))
  f277 := Tryz.func349.trans (congrArg some (by kernel_rfl))
  f278 := Tryz.func383.trans (congrArg some (by kernel_rfl))
  f313 := Tryz.func352.trans (congrArg some (by kernel_rfl))
  t0 := Tryz.underlying0
  a0 := Tryz.isAgg0
  z0 := Tryz.sizeOf0
  v0 := Tryz.zeroValue0
  t3 := Tryz.underlying3
  a3 := Tryz.isAgg3
  z3 := Tryz.sizeOf3
  v3 := Tryz.zeroValue3
  t4 := Tryz.underlying4
  a4 := Tryz.isAgg4
  z4 := Tryz.sizeOf4
  v4 := Tryz.zeroValue4
  t5 := Tryz.underlying5
  a5 := Tryz.isAgg5
  z5 := Tryz.sizeOf5
  v5 := Tryz.zeroValue5
  t9 := Tryz.underlying9
  a9 := Tryz.isAgg9
  z9 := Tryz.sizeOf9
  v9 := Tryz.zeroValue9
  t20 := Tryz.underlying20
  a20 := Tryz.isAgg20
  z20 := Tryz.sizeOf20
  v20 := Tryz.zeroValue20
  t21 := Tryz.underlying21
  a21 := Tryz.isAgg21
  z21 := Tryz.sizeOf21
  v21 := Tryz.zeroValue21
  t37 := Tryz.underlying23
  a37 := Tryz.isAgg23
  z37 := Tryz.sizeOf23
  v37 := Tryz.zeroValue23
  t46 := Tryz.underlying271
  a46 := Tryz.isAgg271
  z46 := Tryz.sizeOf271
  v46 := Tryz.zeroValue271
  t51 := Tryz.underlying35
  a51 := Tryz.isAgg35
  z51 := Tryz.sizeOf35
  v51 := Tryz.zeroValue35
  t70 := Tryz.underlying331
  a70 := Tryz.isAgg331
  z70 := Tryz.sizeOf331
  v70 := Tryz.zeroValue331
  t72 := Tryz.underlying333
  a72 := Tryz.isAgg333
  z72 := Tryz.sizeOf333
  v72 := Tryz.zeroValue333
  t75 := Tryz.underlying205
  a75 := Tryz.isAgg205
  z75 := Tryz.sizeOf205
  v75 := Tryz.zeroValue205
  t76 := Tryz.underlying206
  a76 := Tryz.isAgg206
  z76 := Tryz.sizeOf206
  v76 := Tryz.zeroValue206
  t105 := Tryz.underlying384
  a105 := Tryz.isAgg384
  z105 := Tryz.sizeOf384
  v105 := Tryz.zeroValue384
  t107 := Tryz.underlying337
  a107 := Tryz.isAgg337
  z107 := Tryz.sizeOf337
  v107 := Tryz.zeroValue337
  t119 := Tryz.underlying439
  a119 := Tryz.isAgg439
  z119 := Tryz.sizeOf439
  t127 := Tryz.underlying383
  a127 := Tryz.isAgg383
  z127 := Tryz.sizeOf383
  v127 := Tryz.zeroValue383
  t138 := Tryz.underlying441
  a138 := Tryz.isAgg441
  z138 := Tryz.sizeOf441
  v138 := Tryz.zeroValue441
  t139 := Tryz.underlying442
  a139 := Tryz.isAgg442
  z139 := Tryz.sizeOf442
  v139 := Tryz.zeroValue442
  t160 := Tryz.underlying443
  a160 := Tryz.isAgg443
  z160 := Tryz.sizeOf443
  v160 := Tryz.zeroValue443
  t162 := Tryz.underlying423
  a162 := Tryz.isAgg423
  z162 := Tryz.sizeOf423
  v162 := Tryz.zeroValue423
  t164 := Tryz.underlying418
  a164 := Tryz.isAgg418
  z164 := Tryz.sizeOf418
  v164 := Tryz.zeroValue418
  t203 := Tryz.underlying421
  a203 := Tryz.isAgg421
  z203 := Tryz.sizeOf421
  v203 := Tryz.zeroValue421
  t206 := Tryz.underlying481
  a206 := Tryz.isAgg481
  z206 := Tryz.sizeOf481
  v206 := Tryz.zeroValue481
  t208 := Tryz.underlying483
  a208 := Tryz.isAgg483
  z208 := Tryz.sizeOf483
  v208 := Tryz.zeroValue483
  g3 := by kernel_rfl
  g4 := by kernel_rfl
  g13 := by kernel_rfl }
theorem Tryz.Builder_Extra_158 : Builder.Extra Tryz.prog Tryz.lays158_ren := {
  sizeBuilder := by kernel_rfl
  liesBuilder := by kernel_rfl
  t5 := Tryz.underlying5
  a5 := Tryz.isAgg5
  z5 := Tryz.sizeOf5
  v5 := Tryz.zeroValue5
  infoByte := by kernel_rfl
  cellsByte := by kernel_rfl
  sizeByte := by kernel_rfl
  neB5 := by decide }
open Go.RowKit in
/-- strings.ToUpper: "ToUpper returns s with all Unicode letters mapped to their upper case.": ON ASCII TEXT OF AT MOST 2^47 BYTES. Below the heap's end the world is as it was: where a letter turns, the call makes a builder and its buffer. (LAID: no walk: one application.) -/
theorem Tryz.strings_ToUpper_ascii (s : ByteArray) (w : World) (hs : s.size ≤ 140737488355328) (hascii : ∀ (j : Nat) (b : UInt8), s.data.toList[j]? = some b → b.toNat < 128) :
    Calls Tryz.prog 202 #[.string s] w fun e w' => e = .returned (.string ⟨(Lib.toUpperA s.data.toList).toArray⟩) ∧ Below w.heap.size w w' := Any.strings_ToUpper_ascii Tryz.lays158 Tryz.Builder_Extra_158 s w hs hascii
def Tryz.lays103_ren : Go.Shelf.Ren := ⟨fun | 103 => 119 | 210 => 182 | 206 => 222 | n => n, fun | 9 => 9 | 4 => 4 | 24 => 202 | 3 => 3 | n => n, fun | n => n⟩
theorem Tryz.lays103 : Go.Proofs.Lays.n103 Tryz.prog Tryz.lays103_ren := {
  mixed := by kernel_rfl
  f103 := Tryz.func119.trans (congrArg some (by kernel_rfl))
  f206 := Tryz.func222.trans (congrArg some (by kernel_rfl))
  f210 := Tryz.func182.trans (congrArg some (by kernel_rfl))
  t3 := Tryz.underlying3
  a3 := Tryz.isAgg3
  z3 := Tryz.sizeOf3
  v3 := Tryz.zeroValue3
  t4 := Tryz.underlying4
  a4 := Tryz.isAgg4
  z4 := Tryz.sizeOf4
  v4 := Tryz.zeroValue4
  t9 := Tryz.underlying9
  a9 := Tryz.isAgg9
  z9 := Tryz.sizeOf9
  v9 := Tryz.zeroValue9
  t24 := Tryz.underlying202
  a24 := Tryz.isAgg202
  z24 := Tryz.sizeOf202
  v24 := Tryz.zeroValue202 }
open Go.RowKit in
/-- strings.CutPrefix: "CutPrefix returns s without the provided leading prefix string and reports whether it found the prefix. If s doesn't start with prefix, CutPrefix returns s, false. If prefix is the empty string, CutPrefix returns s, true.": IT RETURNS '(Lib.trimPrefix s p, Lib.hasPrefix s p)'; the world is as it was. (LAID: no walk: one application.) -/
theorem Tryz.strings_CutPrefix (s p : ByteArray) (w : World) :
    Calls Tryz.prog 119 #[.string s, .string p] w fun e w' => e = .returned (.tuple #[.string ⟨(Lib.trimPrefix s.data.toList p.data.toList).toArray⟩, .bool (Lib.hasPrefix s.data.toList p.data.toList)]) ∧ w' = w := Any.strings_CutPrefix Tryz.lays103 s p w
def Tryz.lays171_ren : Go.Shelf.Ren := ⟨fun | 171 => 90 | 243 => 147 | 246 => 203 | 283 => 258 | 284 => 259 | 285 => 260 | 286 => 261 | 129 => 242 | 317 => 313 | 318 => 314 | 319 => 315 | 320 => 316 | 337 => 353 | 338 => 354 | n => n, fun | 3 => 3 | 9 => 9 | 2 => 2 | 4 => 4 | 171 => 338 | 0 => 0 | 53 => 281 | 37 => 23 | 5 => 5 | 173 => 340 | 212 => 390 | 51 => 35 | 20 => 20 | 213 => 391 | 46 => 271 | 232 => 138 | 233 => 446 | n => n, fun | 17 => 3 | 18 => 7 | 19 => 8 | n => n⟩
theorem Tryz.lays171 : Go.Proofs.Lays.n171 Tryz.prog Tryz.lays171_ren := {
  mixed := by kernel_rfl
  f129 := Tryz.func242.trans (congrArg some (by kernel_rfl))
  f171 := Tryz.func90.trans (congrArg some (by kernel_rfl))
  f243 := Tryz.func147.trans (congrArg some (by kernel_rfl))
  f246 := Tryz.func203.trans (congrArg some (by kernel_rfl))
  f283 := Tryz.func258.trans (congrArg some (by kernel_rfl))
  f284 := Tryz.func259.trans (congrArg some (by kernel_rfl))
  f285 := Tryz.func260.trans (congrArg some (by kernel_rfl))
  f286 := Tryz.func261.trans (congrArg some (by kernel_rfl))
  f317 := Tryz.func313.trans (congrArg some (by kernel_rfl))
  f318 := Tryz.func314.trans (congrArg some (by kernel_rfl))
  f319 := Tryz.func315.trans (congrArg some (by kernel_rfl))
  f320 := Tryz.func316.trans (congrArg some (by kernel_rfl))
  f337 := Tryz.func353.trans (congrArg some (by kernel_rfl))
  f338 := Tryz.func354.trans (congrArg some (by kernel_rfl))
  t0 := Tryz.underlying0
  a0 := Tryz.isAgg0
  z0 := Tryz.sizeOf0
  v0 := Tryz.zeroValue0
  t2 := Tryz.underlying2
  a2 := Tryz.isAgg2
  z2 := Tryz.sizeOf2
  v2 := Tryz.zeroValue2
  t3 := Tryz.underlying3
  a3 := Tryz.isAgg3
  z3 := Tryz.sizeOf3
  v3 := Tryz.zeroValue3
  t4 := Tryz.underlying4
  a4 := Tryz.isAgg4
  z4 := Tryz.sizeOf4
  v4 := Tryz.zeroValue4
  t5 := Tryz.underlying5
  a5 := Tryz.isAgg5
  z5 := Tryz.sizeOf5
  v5 := Tryz.zeroValue5
  t9 := Tryz.underlying9
  a9 := Tryz.isAgg9
  z9 := Tryz.sizeOf9
  v9 := Tryz.zeroValue9
  t20 := Tryz.underlying20
  a20 := Tryz.isAgg20
  z20 := Tryz.sizeOf20
  v20 := Tryz.zeroValue20
  t37 := Tryz.underlying23
  a37 := Tryz.isAgg23
  z37 := Tryz.sizeOf23
  v37 := Tryz.zeroValue23
  t46 := Tryz.underlying271
  a46 := Tryz.isAgg271
  z46 := Tryz.sizeOf271
  v46 := Tryz.zeroValue271
  t51 := Tryz.underlying35
  a51 := Tryz.isAgg35
  z51 := Tryz.sizeOf35
  v51 := Tryz.zeroValue35
  t53 := Tryz.underlying281
  a53 := Tryz.isAgg281
  z53 := Tryz.sizeOf281
  v53 := Tryz.zeroValue281
  t171 := Tryz.underlying338
  a171 := Tryz.isAgg338
  z171 := Tryz.sizeOf338
  v171 := Tryz.zeroValue338
  t173 := Tryz.underlying340
  a173 := Tryz.isAgg340
  z173 := Tryz.sizeOf340
  v173 := Tryz.zeroValue340
  t212 := Tryz.underlying390
  a212 := Tryz.isAgg390
  z212 := Tryz.sizeOf390
  v212 := Tryz.zeroValue390
  t213 := Tryz.underlying391
  a213 := Tryz.isAgg391
  z213 := Tryz.sizeOf391
  t232 := Tryz.underlying138
  a232 := Tryz.isAgg138
  z232 := Tryz.sizeOf138
  v232 := Tryz.zeroValue138
  t233 := Tryz.underlying446
  a233 := Tryz.isAgg446
  z233 := Tryz.sizeOf446
  v233 := Tryz.zeroValue446
  g17 := by kernel_rfl
  g18 := by kernel_rfl
  g19 := by kernel_rfl }
open Go.RowKit Go.Sort Go.Lib in
/-- THE ROAD WITHOUT THE TABLE: 0 <= i < 100: NO PREMISE ON THE WORLD, AND THE WORLD IS AS IT WAS: a row that keeps its argument in that range need list no table ('laid = []'). (LAID: no walk: one application.) -/
theorem Tryz.strconv_Itoa_small (i : Nat) (hi : i < 100) (w : World) :
    Calls Tryz.prog 90 #[.int .i64 i] w fun e w' => e = .returned (.string ⟨(Lib.decDigits i).toArray⟩) ∧ w' = w := Any.strconv_Itoa_small Tryz.lays171 i hi w
def Tryz.laysM173_ren : Go.Shelf.Ren := ⟨fun | 173 => 164 | 246 => 203 | 283 => 258 | 284 => 259 | 285 => 260 | 286 => 261 | 129 => 242 | 317 => 313 | 318 => 314 | 319 => 315 | 320 => 316 | 337 => 353 | 338 => 354 | n => n, fun | 2 => 2 | 3 => 3 | 9 => 9 | 4 => 4 | 171 => 338 | 0 => 0 | 53 => 281 | 37 => 23 | 5 => 5 | 173 => 340 | 212 => 390 | 51 => 35 | 20 => 20 | 213 => 391 | 46 => 271 | 232 => 138 | 233 => 446 | n => n, fun | 17 => 3 | 18 => 7 | 19 => 8 | n => n⟩
theorem Tryz.laysM173 : Go.Proofs.LaysM.n173 Tryz.prog Tryz.laysM173_ren := {
  mixed := by kernel_rfl
  f129 := Tryz.func242.trans (congrArg some (by kernel_rfl))
  f173 := Tryz.func164.trans (congrArg some (by kernel_rfl))
  f246 := Tryz.func203.trans (congrArg some (by kernel_rfl))
  f283 := Tryz.func258.trans (congrArg some (by kernel_rfl))
  f284 := Tryz.func259.trans (congrArg some (by kernel_rfl))
  f285 := Tryz.func260.trans (congrArg some (by kernel_rfl))
  f286 := Tryz.func261.trans (congrArg some (by kernel_rfl))
  f317 := Tryz.func313.trans (congrArg some (by kernel_rfl))
  f318 := Tryz.func314.trans (congrArg some (by kernel_rfl))
  f319 := Tryz.func315.trans (congrArg some (by kernel_rfl))
  f320 := Tryz.func316.trans (congrArg some (by kernel_rfl))
  f337 := Tryz.func353.trans (congrArg some (by kernel_rfl))
  f338 := Tryz.func354.trans (congrArg some (by kernel_rfl))
  t0 := Tryz.underlying0
  a0 := Tryz.isAgg0
  z0 := Tryz.sizeOf0
  v0 := Tryz.zeroValue0
  t2 := Tryz.underlying2
  a2 := Tryz.isAgg2
  z2 := Tryz.sizeOf2
  v2 := Tryz.zeroValue2
  t3 := Tryz.underlying3
  a3 := Tryz.isAgg3
  z3 := Tryz.sizeOf3
  v3 := Tryz.zeroValue3
  t4 := Tryz.underlying4
  a4 := Tryz.isAgg4
  z4 := Tryz.sizeOf4
  v4 := Tryz.zeroValue4
  t5 := Tryz.underlying5
  a5 := Tryz.isAgg5
  z5 := Tryz.sizeOf5
  v5 := Tryz.zeroValue5
  t9 := Tryz.underlying9
  a9 := Tryz.isAgg9
  z9 := Tryz.sizeOf9
  v9 := Tryz.zeroValue9
  t20 := Tryz.underlying20
  a20 := Tryz.isAgg20
  z20 := Tryz.sizeOf20
  v20 := Tryz.zeroValue20
  t37 := Tryz.underlying23
  a37 := Tryz.isAgg23
  z37 := Tryz.sizeOf23
  v37 := Tryz.zeroValue23
  t46 := Tryz.underlying271
  a46 := Tryz.isAgg271
  z46 := Tryz.sizeOf271
  v46 := Tryz.zeroValue271
  t51 := Tryz.underlying35
  a51 := Tryz.isAgg35
  z51 := Tryz.sizeOf35
  v51 := Tryz.zeroValue35
  t53 := Tryz.underlying281
  a53 := Tryz.isAgg281
  z53 := Tryz.sizeOf281
  v53 := Tryz.zeroValue281
  t171 := Tryz.underlying338
  a171 := Tryz.isAgg338
  z171 := Tryz.sizeOf338
  v171 := Tryz.zeroValue338
  t173 := Tryz.underlying340
  a173 := Tryz.isAgg340
  z173 := Tryz.sizeOf340
  v173 := Tryz.zeroValue340
  t212 := Tryz.underlying390
  a212 := Tryz.isAgg390
  z212 := Tryz.sizeOf390
  v212 := Tryz.zeroValue390
  t213 := Tryz.underlying391
  a213 := Tryz.isAgg391
  z213 := Tryz.sizeOf391
  t232 := Tryz.underlying138
  a232 := Tryz.isAgg138
  z232 := Tryz.sizeOf138
  v232 := Tryz.zeroValue138
  t233 := Tryz.underlying446
  a233 := Tryz.isAgg446
  z233 := Tryz.sizeOf446
  v233 := Tryz.zeroValue446
  g17 := by kernel_rfl
  g18 := by kernel_rfl
  g19 := by kernel_rfl
  i0 := by kernel_rfl
  i2 := by kernel_rfl
  i3 := by kernel_rfl
  i4 := by kernel_rfl
  i5 := by kernel_rfl
  i9 := by kernel_rfl
  i20 := by kernel_rfl
  i37 := by kernel_rfl
  i46 := by kernel_rfl
  i51 := by kernel_rfl
  i53 := by kernel_rfl
  i171 := by kernel_rfl
  i173 := by kernel_rfl
  i212 := by kernel_rfl
  i232 := by kernel_rfl
  i233 := by kernel_rfl
  m17 := by kernel_rfl
  m18 := by kernel_rfl
  m19 := by kernel_rfl }
open Go.RowKit Go.Sort Go.Lib in
/-- strconv.FormatInt: "FormatInt returns the string representation of i in the given base": AT BASE 10: i's decimal numeral, for every int64. (LAID: no walk: one application.) -/
theorem Tryz.strconv_FormatInt_10 (n : Int) (h0 : -9223372036854775808 ≤ n) (h1 : n ≤ 9223372036854775807) (w : World) (htab : Lib.TabIs Tryz.prog w "internal/strconv.uint64pow10" .u64 Lib.pow10Tab) :
    Calls Tryz.prog 164 #[.int .i64 n, .int .i64 10] w fun e w' => e = .returned (.string ⟨(Lib.itoa n).toArray⟩) ∧ ∃ k os, w' = grow (w.drewN k) os := Any.strconv_FormatInt_10 Tryz.laysM173 n h0 h1 w htab
def Tryz.lays173_ren : Go.Shelf.Ren := ⟨fun | 173 => 164 | 246 => 203 | 283 => 258 | 284 => 259 | 285 => 260 | 286 => 261 | 129 => 242 | 317 => 313 | 318 => 314 | 319 => 315 | 320 => 316 | 337 => 353 | 338 => 354 | n => n, fun | 2 => 2 | 3 => 3 | 9 => 9 | 4 => 4 | 171 => 338 | 0 => 0 | 53 => 281 | 37 => 23 | 5 => 5 | 173 => 340 | 212 => 390 | 51 => 35 | 20 => 20 | 213 => 391 | 46 => 271 | 232 => 138 | 233 => 446 | n => n, fun | 17 => 3 | 18 => 7 | 19 => 8 | n => n⟩
theorem Tryz.lays173 : Go.Proofs.Lays.n173 Tryz.prog Tryz.lays173_ren := {
  mixed := by kernel_rfl
  f129 := Tryz.func242.trans (congrArg some (by kernel_rfl))
  f173 := Tryz.func164.trans (congrArg some (by kernel_rfl))
  f246 := Tryz.func203.trans (congrArg some (by kernel_rfl))
  f283 := Tryz.func258.trans (congrArg some (by kernel_rfl))
  f284 := Tryz.func259.trans (congrArg some (by kernel_rfl))
  f285 := Tryz.func260.trans (congrArg some (by kernel_rfl))
  f286 := Tryz.func261.trans (congrArg some (by kernel_rfl))
  f317 := Tryz.func313.trans (congrArg some (by kernel_rfl))
  f318 := Tryz.func314.trans (congrArg some (by kernel_rfl))
  f319 := Tryz.func315.trans (congrArg some (by kernel_rfl))
  f320 := Tryz.func316.trans (congrArg some (by kernel_rfl))
  f337 := Tryz.func353.trans (congrArg some (by kernel_rfl))
  f338 := Tryz.func354.trans (congrArg some (by kernel_rfl))
  t0 := Tryz.underlying0
  a0 := Tryz.isAgg0
  z0 := Tryz.sizeOf0
  v0 := Tryz.zeroValue0
  t2 := Tryz.underlying2
  a2 := Tryz.isAgg2
  z2 := Tryz.sizeOf2
  v2 := Tryz.zeroValue2
  t3 := Tryz.underlying3
  a3 := Tryz.isAgg3
  z3 := Tryz.sizeOf3
  v3 := Tryz.zeroValue3
  t4 := Tryz.underlying4
  a4 := Tryz.isAgg4
  z4 := Tryz.sizeOf4
  v4 := Tryz.zeroValue4
  t5 := Tryz.underlying5
  a5 := Tryz.isAgg5
  z5 := Tryz.sizeOf5
  v5 := Tryz.zeroValue5
  t9 := Tryz.underlying9
  a9 := Tryz.isAgg9
  z9 := Tryz.sizeOf9
  v9 := Tryz.zeroValue9
  t20 := Tryz.underlying20
  a20 := Tryz.isAgg20
  z20 := Tryz.sizeOf20
  v20 := Tryz.zeroValue20
  t37 := Tryz.underlying23
  a37 := Tryz.isAgg23
  z37 := Tryz.sizeOf23
  v37 := Tryz.zeroValue23
  t46 := Tryz.underlying271
  a46 := Tryz.isAgg271
  z46 := Tryz.sizeOf271
  v46 := Tryz.zeroValue271
  t51 := Tryz.underlying35
  a51 := Tryz.isAgg35
  z51 := Tryz.sizeOf35
  v51 := Tryz.zeroValue35
  t53 := Tryz.underlying281
  a53 := Tryz.isAgg281
  z53 := Tryz.sizeOf281
  v53 := Tryz.zeroValue281
  t171 := Tryz.underlying338
  a171 := Tryz.isAgg338
  z171 := Tryz.sizeOf338
  v171 := Tryz.zeroValue338
  t173 := Tryz.underlying340
  a173 := Tryz.isAgg340
  z173 := Tryz.sizeOf340
  v173 := Tryz.zeroValue340
  t212 := Tryz.underlying390
  a212 := Tryz.isAgg390
  z212 := Tryz.sizeOf390
  v212 := Tryz.zeroValue390
  t213 := Tryz.underlying391
  a213 := Tryz.isAgg391
  z213 := Tryz.sizeOf391
  t232 := Tryz.underlying138
  a232 := Tryz.isAgg138
  z232 := Tryz.sizeOf138
  v232 := Tryz.zeroValue138
  t233 := Tryz.underlying446
  a233 := Tryz.isAgg446
  z233 := Tryz.sizeOf446
  v233 := Tryz.zeroValue446
  g17 := by kernel_rfl
  g18 := by kernel_rfl
  g19 := by kernel_rfl }
open Go.RowKit Go.Sort Go.Lib in
/-- THE ROAD WITHOUT THE TABLE: 0 <= i < 100. (LAID: no walk: one application.) -/
theorem Tryz.strconv_FormatInt_10_small (i : Nat) (hi : i < 100) (w : World) :
    Calls Tryz.prog 164 #[.int .i64 i, .int .i64 10] w fun e w' => e = .returned (.string ⟨(Lib.decDigits i).toArray⟩) ∧ w' = w := Any.strconv_FormatInt_10_small Tryz.lays173 i hi w
def Tryz.laysC172_ren : Go.Shelf.Ren := ⟨fun | 172 => 120 | 244 => 183 | 245 => 184 | 247 => 227 | 279 => 228 | 280 => 229 | 281 => 230 | 282 => 231 | 287 => 291 | 316 => 292 | 171 => 90 | 205 => 293 | 321 => 341 | 322 => 342 | 243 => 147 | 246 => 203 | 283 => 258 | 284 => 259 | 285 => 260 | 286 => 261 | 129 => 242 | 317 => 313 | 318 => 314 | 319 => 315 | 320 => 316 | 337 => 353 | 338 => 354 | n => n, fun | 9 => 9 | 3 => 3 | 75 => 205 | 76 => 206 | 4 => 4 | 5 => 5 | 167 => 309 | 37 => 23 | 0 => 0 | 85 => 310 | 2 => 2 | 168 => 312 | 53 => 281 | 175 => 367 | 46 => 271 | 210 => 370 | 127 => 383 | 145 => 412 | 143 => 410 | 21 => 21 | 171 => 338 | 173 => 340 | 212 => 390 | 51 => 35 | 20 => 20 | 213 => 391 | 232 => 138 | 233 => 446 | 80 => 199 | n => n, fun | 15 => 1 | 16 => 2 | 17 => 3 | 18 => 7 | 19 => 8 | n => n⟩
theorem Tryz.laysC172 : Go.Proofs.LaysC.n172 Tryz.prog Tryz.laysC172_ren := {
  mixed := by kernel_rfl
  f129 := Tryz.func242.trans (congrArg some (by kernel_rfl))
  f171 := Tryz.func90.trans (congrArg some (by kernel_rfl))
  f172 := Tryz.func120.trans (congrArg some (by kernel_rfl))
  f205 := Tryz.func293.trans (congrArg some (by kernel_rfl))
  f243 := Tryz.func147.trans (congrArg some (by kernel_rfl))
  f244 := Tryz.func183.trans (congrArg some (by kernel_rfl))
  f245 := Tryz.func184.trans (congrArg some (by kernel_rfl))
  f246 := Tryz.func203.trans (congrArg some (by kernel_rfl))
  f247 := Tryz.func227.trans (congrArg some (by kernel_rfl))
  f279 := Tryz.func228.trans (congrArg some (by kernel_rfl))
  f280 := Tryz.func229.trans (congrArg some (by kernel_rfl))
  f281 := Tryz.func230.trans (congrArg some (by kernel_rfl))
  f282 := Tryz.func231.trans (congrArg some (by kernel_rfl))
  f283 := Tryz.func258.trans (congrArg some (by kernel_rfl))
  f284 := Tryz.func259.trans (congrArg some (by kernel_rfl))
  f285 := Tryz.func260.trans (congrArg some (by kernel_rfl))
  f286 := Tryz.func261.trans (congrArg some (by kernel_rfl))
  f287 := Tryz.func291.trans (congrArg some (by kernel_rfl))
  f316 := Tryz.func292.trans (congrArg some (by kernel_rfl))
  f317 := Tryz.func313.trans (congrArg some (by kernel_rfl))
  f318 := Tryz.func314.trans (congrArg some (by kernel_rfl))
  f319 := Tryz.func315.trans (congrArg some (by kernel_rfl))
  f320 := Tryz.func316.trans (congrArg some (by kernel_rfl))
  f321 := Tryz.func341.trans (congrArg some (by kernel_rfl))
  f322 := Tryz.func342.trans (congrArg some (by kernel_rfl))
  f337 := Tryz.func353.trans (congrArg some (by kernel_rfl))
  f338 := Tryz.func354.trans (congrArg some (by kernel_rfl))
  t0 := Tryz.underlying0
  a0 := Tryz.isAgg0
  z0 := Tryz.sizeOf0
  v0 := Tryz.zeroValue0
  t2 := Tryz.underlying2
  a2 := Tryz.isAgg2
  z2 := Tryz.sizeOf2
  v2 := Tryz.zeroValue2
  t3 := Tryz.underlying3
  a3 := Tryz.isAgg3
  z3 := Tryz.sizeOf3
  v3 := Tryz.zeroValue3
  t4 := Tryz.underlying4
  a4 := Tryz.isAgg4
  z4 := Tryz.sizeOf4
  v4 := Tryz.zeroValue4
  t5 := Tryz.underlying5
  a5 := Tryz.isAgg5
  z5 := Tryz.sizeOf5
  v5 := Tryz.zeroValue5
  t9 := Tryz.underlying9
  a9 := Tryz.isAgg9
  z9 := Tryz.sizeOf9
  v9 := Tryz.zeroValue9
  t20 := Tryz.underlying20
  a20 := Tryz.isAgg20
  z20 := Tryz.sizeOf20
  v20 := Tryz.zeroValue20
  t21 := Tryz.underlying21
  a21 := Tryz.isAgg21
  z21 := Tryz.sizeOf21
  v21 := Tryz.zeroValue21
  t37 := Tryz.underlying23
  a37 := Tryz.isAgg23
  z37 := Tryz.sizeOf23
  v37 := Tryz.zeroValue23
  t46 := Tryz.underlying271
  a46 := Tryz.isAgg271
  z46 := Tryz.sizeOf271
  v46 := Tryz.zeroValue271
  t51 := Tryz.underlying35
  a51 := Tryz.isAgg35
  z51 := Tryz.sizeOf35
  v51 := Tryz.zeroValue35
  t53 := Tryz.underlying281
  a53 := Tryz.isAgg281
  z53 := Tryz.sizeOf281
  v53 := Tryz.zeroValue281
  t75 := Tryz.underlying205
  a75 := Tryz.isAgg205
  z75 := Tryz.sizeOf205
  v75 := Tryz.zeroValue205
  t76 := Tryz.underlying206
  a76 := Tryz.isAgg206
  z76 := Tryz.sizeOf206
  v76 := Tryz.zeroValue206
  t85 := Tryz.underlying310
  a85 := Tryz.isAgg310
  z85 := Tryz.sizeOf310
  v85 := Tryz.zeroValue310
  t127 := Tryz.underlying383
  a127 := Tryz.isAgg383
  z127 := Tryz.sizeOf383
  v127 := Tryz.zeroValue383
  t143 := Tryz.underlying410
  a143 := Tryz.isAgg410
  z143 := Tryz.sizeOf410
  v143 := Tryz.zeroValue410
  t145 := Tryz.underlying412
  a145 := Tryz.isAgg412
  z145 := Tryz.sizeOf412
  v145 := Tryz.zeroValue412
  t167 := Tryz.underlying309
  a167 := Tryz.isAgg309
  z167 := Tryz.sizeOf309
  v167 := Tryz.zeroValue309
  t168 := Tryz.underlying312
  a168 := Tryz.isAgg312
  z168 := Tryz.sizeOf312
  v168 := Tryz.zeroValue312
  t171 := Tryz.underlying338
  a171 := Tryz.isAgg338
  z171 := Tryz.sizeOf338
  v171 := Tryz.zeroValue338
  t173 := Tryz.underlying340
  a173 := Tryz.isAgg340
  z173 := Tryz.sizeOf340
  v173 := Tryz.zeroValue340
  t175 := Tryz.underlying367
  a175 := Tryz.isAgg367
  z175 := Tryz.sizeOf367
  v175 := Tryz.zeroValue367
  t210 := Tryz.underlying370
  a210 := Tryz.isAgg370
  z210 := Tryz.sizeOf370
  v210 := Tryz.zeroValue370
  t212 := Tryz.underlying390
  a212 := Tryz.isAgg390
  z212 := Tryz.sizeOf390
  v212 := Tryz.zeroValue390
  t213 := Tryz.underlying391
  a213 := Tryz.isAgg391
  z213 := Tryz.sizeOf391
  t232 := Tryz.underlying138
  a232 := Tryz.isAgg138
  z232 := Tryz.sizeOf138
  v232 := Tryz.zeroValue138
  t233 := Tryz.underlying446
  a233 := Tryz.isAgg446
  z233 := Tryz.sizeOf446
  v233 := Tryz.zeroValue446
  g15 := by kernel_rfl
  g16 := by kernel_rfl
  g17 := by kernel_rfl
  g18 := by kernel_rfl
  g19 := by kernel_rfl
  t80 := Tryz.underlying199
  a80 := Tryz.isAgg199
  z80 := Tryz.sizeOf199
  v80 := Tryz.zeroValue199
  i0 := by kernel_rfl
  i2 := by kernel_rfl
  i3 := by kernel_rfl
  i4 := by kernel_rfl
  i5 := by kernel_rfl
  i9 := by kernel_rfl
  i20 := by kernel_rfl
  i21 := by kernel_rfl
  i37 := by kernel_rfl
  i46 := by kernel_rfl
  i51 := by kernel_rfl
  i53 := by kernel_rfl
  i75 := by kernel_rfl
  i76 := by kernel_rfl
  i80 := by kernel_rfl
  i85 := by kernel_rfl
  i127 := by kernel_rfl
  i143 := by kernel_rfl
  i145 := by kernel_rfl
  i167 := by kernel_rfl
  i168 := by kernel_rfl
  i171 := by kernel_rfl
  i173 := by kernel_rfl
  i175 := by kernel_rfl
  i210 := by kernel_rfl
  i212 := by kernel_rfl
  i232 := by kernel_rfl
  i233 := by kernel_rfl
  m15 := by kernel_rfl
  m16 := by kernel_rfl
  m17 := by kernel_rfl
  m18 := by kernel_rfl
  m19 := by kernel_rfl
  c0 := by kernel_rfl
  c2 := by kernel_rfl
  c3 := by kernel_rfl
  c4 := by kernel_rfl
  c5 := by kernel_rfl
  c9 := by kernel_rfl
  c20 := by kernel_rfl
  c21 := by kernel_rfl
  c37 := by kernel_rfl
  c46 := by kernel_rfl
  c51 := by kernel_rfl
  c53 := by kernel_rfl
  c75 := by kernel_rfl
  c76 := by kernel_rfl
  c80 := by kernel_rfl
  c85 := by kernel_rfl
  c127 := by kernel_rfl
  c143 := by kernel_rfl
  c145 := by kernel_rfl
  c167 := by kernel_rfl
  c168 := by kernel_rfl
  c171 := by kernel_rfl
  c173 := by kernel_rfl
  c175 := by kernel_rfl
  c210 := by kernel_rfl
  c212 := by kernel_rfl
  c213 := by kernel_rfl
  c232 := by kernel_rfl
  c233 := by kernel_rfl }
open Go.RowKit in
/-- strconv.Atoi, AT EVERY STRING THAT SPELLS AN int ('Lib.atoiAll .. = .ok v'; of whatever length: leading zeros count): v, AND NO ERROR. The world: as it was, or with the one new row that '[]byte(..)' lays. (LAID: no walk: one application.) -/
theorem Tryz.strconv_Atoi_ok (s : ByteArray) (hmax : s.size ≤ 9223372036854775806) (v : Int) (h : Lib.atoiAll s.data.toList = .ok v) (w : World) :
    Calls Tryz.prog 120 #[.string s] w fun e w' => e = .returned (.tuple #[.int .i64 v, .nilIface]) ∧ (w' = w ∨ ∃ t, w' = Lib.bytesWorld w 5 t) := Any.strconv_Atoi_ok Tryz.laysC172 s hmax v h w
open Go.RowKit in
theorem Tryz.strconv_Atoi_syntax_var (s : ByteArray) (hlim : s.size ≤ 281474976710656) (h : Lib.atoiAll s.data.toList = Lib.atoiAll []) (tp : TypeId) (p : Value) (w : World) (hvar : w.var? Tryz.prog "strconv.ErrSyntax" = some #[.iface tp p]) :
    Calls Tryz.prog 120 #[.string s] w fun e w' => ∃ N, e = .returned (.tuple #[.int .i64 0, .iface 312 (.pointer (some ⟨N, 0, none⟩))]) ∧ w.heap.size ≤ N ∧ w'.heap[N]? = some (.cells #[.string ⟨#[65, 116, 111, 105]⟩, .string s, .iface tp p] 370 (0, 0)) ∧ Below w.heap.size w w' := Any.strconv_Atoi_syntax_var Tryz.laysC172 s hlim (h.trans rfl) tp p w hvar
def Tryz.lays189_ren : Go.Shelf.Ren := ⟨fun | 189 => 121 | 125 => 186 | 257 => 185 | 128 => 241 | 129 => 242 | 294 => 232 | 295 => 233 | 296 => 234 | 297 => 235 | 298 => 236 | 299 => 237 | 216 => 238 | 300 => 239 | 301 => 240 | 328 => 294 | 329 => 295 | 330 => 296 | 331 => 297 | 332 => 298 | 215 => 299 | 343 => 343 | n => n, fun | 28 => 40 | 3 => 3 | 46 => 271 | 0 => 0 | 51 => 35 | 53 => 281 | 4 => 4 | 183 => 317 | 182 => 316 | 131 => 140 | 5 => 5 | 9 => 9 | 218 => 372 | 222 => 376 | 228 => 413 | 229 => 414 | n => n, fun | n => n⟩
theorem Tryz.lays189 : Go.Proofs.Lays.n189 Tryz.prog Tryz.lays189_ren := {
  mixed := by kernel_rfl
  f125 := Tryz.func186.trans (congrArg some (by kernel_rfl))
  f128 := Tryz.func241.trans (congrArg some (by kernel_rfl))
  f129 := Tryz.func242.trans (congrArg some (by kernel_rfl))
  f189 := Tryz.func121.trans (congrArg some (by kernel_rfl))
  f215 := Tryz.func299.trans (congrArg some (by kernel_rfl))
  f216 := Tryz.func238.trans (congrArg some (by kernel_rfl))
  f257 := Tryz.func185.trans (congrArg some (by kernel_rfl))
  f294 := Tryz.func232.trans (congrArg some (by kernel_rfl))
  f295 := Tryz.func233.trans (congrArg some (by kernel_rfl))
  f296 := Tryz.func234.trans (congrArg some (by kernel_rfl))
  f297 := Tryz.func235.trans (congrArg some (by kernel_rfl))
  f298 := Tryz.func236.trans (congrArg some (by kernel_rfl))
  f299 := Tryz.func237.trans (congrArg some (by kernel_rfl))
  f300 := Tryz.func239.trans (congrArg some (by kernel_rfl))
  f301 := Tryz.func240.trans (congrArg some (by kernel_rfl))
  f328 := Tryz.func294.trans (congrArg some (by kernel_rfl))
  f329 := Tryz.func295.trans (congrArg some (by kernel_rfl))
  f330 := Tryz.func296.trans (congrArg some (by kernel_rfl))
  f331 := Tryz.func297.trans (congrArg some (by kernel_rfl))
  f332 := Tryz.func298.trans (congrArg some (by kernel_rfl))
  f343 := Tryz.func343.trans (congrArg some (by kernel_rfl))
  t0 := Tryz.underlying0
  a0 := Tryz.isAgg0
  z0 := Tryz.sizeOf0
  v0 := Tryz.zeroValue0
  t3 := Tryz.underlying3
  a3 := Tryz.isAgg3
  z3 := Tryz.sizeOf3
  v3 := Tryz.zeroValue3
  t4 := Tryz.underlying4
  a4 := Tryz.isAgg4
  z4 := Tryz.sizeOf4
  v4 := Tryz.zeroValue4
  t5 := Tryz.underlying5
  a5 := Tryz.isAgg5
  z5 := Tryz.sizeOf5
  v5 := Tryz.zeroValue5
  t9 := Tryz.underlying9
  a9 := Tryz.isAgg9
  z9 := Tryz.sizeOf9
  v9 := Tryz.zeroValue9
  t28 := Tryz.underlying40
  a28 := Tryz.isAgg40
  z28 := Tryz.sizeOf40
  v28 := Tryz.zeroValue40
  t46 := Tryz.underlying271
  a46 := Tryz.isAgg271
  z46 := Tryz.sizeOf271
  v46 := Tryz.zeroValue271
  t51 := Tryz.underlying35
  a51 := Tryz.isAgg35
  z51 := Tryz.sizeOf35
  v51 := Tryz.zeroValue35
  t53 := Tryz.underlying281
  a53 := Tryz.isAgg281
  z53 := Tryz.sizeOf281
  v53 := Tryz.zeroValue281
  t131 := Tryz.underlying140
  a131 := Tryz.isAgg140
  z131 := Tryz.sizeOf140
  v131 := Tryz.zeroValue140
  t182 := Tryz.underlying316
  a182 := Tryz.isAgg316
  z182 := Tryz.sizeOf316
  v182 := Tryz.zeroValue316
  t183 := Tryz.underlying317
  a183 := Tryz.isAgg317
  z183 := Tryz.sizeOf317
  v183 := Tryz.zeroValue317
  t218 := Tryz.underlying372
  a218 := Tryz.isAgg372
  z218 := Tryz.sizeOf372
  v218 := Tryz.zeroValue372
  t222 := Tryz.underlying376
  a222 := Tryz.isAgg376
  z222 := Tryz.sizeOf376
  v222 := Tryz.zeroValue376
  t228 := Tryz.underlying413
  a228 := Tryz.isAgg413
  z228 := Tryz.sizeOf413
  v228 := Tryz.zeroValue413
  t229 := Tryz.underlying414
  a229 := Tryz.isAgg414
  z229 := Tryz.sizeOf414
  v229 := Tryz.zeroValue414 }
open Go.Sort Go.RowKit in
theorem Tryz.slices_Sort_int (blk off cap : Nat) (zs : List Int) (w : World) (hH : Holds (Value.int .i64) w blk off zs.toArray) (hblk : blk < w.heap.size) (hsz : zs.length < 4611686018427387904) :
    Calls Tryz.prog 121 #[.slice (some ⟨blk, off, none⟩) zs.length cap] w fun e w' =>
      e = .returned (.tuple #[]) ∧ ∃ n os, w' = grow (putRow (Value.int .i64) (Sort.ahead w n) blk off (zs.mergeSort fun x y => decide (x ≤ y)).toArray) os := Any.slices_Sort_int Tryz.lays189 blk off cap zs w hH hblk hsz
def Tryz.lays146_ren : Go.Shelf.Ren := ⟨fun | 146 => 200 | 221 => 251 | 268 => 303 | 138 => 304 | 143 => 305 | 195 => 345 | 197 => 308 | 218 => 346 | 219 => 347 | 260 => 350 | 217 => 380 | 225 => 381 | 224 => 264 | 267 => 382 | 266 => 421 | 314 => 422 | n => n, fun | 9 => 9 | 31 => 106 | 3 => 3 | 4 => 4 | 0 => 0 | 105 => 384 | 21 => 21 | 5 => 5 | 46 => 271 | 119 => 439 | 139 => 442 | 138 => 441 | 146 => 392 | 51 => 35 | n => n, fun | 1 => 0 | 3 => 5 | 4 => 6 | n => n⟩
theorem Tryz.lays146 : Go.Proofs.Lays.n146 Tryz.prog Tryz.lays146_ren := {
  mixed := by kernel_rfl
  f138 := Tryz.func304.trans (congrArg some (by kernel_rfl))
  f143 := Tryz.func305.trans (congrArg some (by kernel_rfl))
  f146 := Tryz.func200.trans (congrArg some (by kernel_rfl))
  f195 := Tryz.func345.trans (congrArg some (by kernel_rfl))
  f197 := Tryz.func308.trans (congrArg some (by kernel_rfl))
  f217 := Tryz.func380.trans (congrArg some (by kernel_rfl))
  f218 := Tryz.func346.trans (congrArg some (by kernel_rfl))
  f219 := Tryz.func347.trans (congrArg some (by kernel_rfl))
  f221 := Tryz.func251.trans (congrArg some (by kernel_rfl))
  f224 := Tryz.func264.trans (congrArg some (by kernel_rfl))
  f225 := Tryz.func381.trans (congrArg some (by kernel_rfl))
  f260 := Tryz.func350.trans (congrArg some (by kernel_rfl))
  f266 := Tryz.func421.trans (congrArg some (by kernel_rfl))
  f267 := Tryz.func382.trans (congrArg some (by kernel_rfl))
  f268 := Tryz.func303.trans (congrArg some (by kernel_rfl))
  f314 := Tryz.func422.trans (congrArg some (by kernel_rfl))
  t0 := Tryz.underlying0
  a0 := Tryz.isAgg0
  z0 := Tryz.sizeOf0
  v0 := Tryz.zeroValue0
  t3 := Tryz.underlying3
  a3 := Tryz.isAgg3
  z3 := Tryz.sizeOf3
  v3 := Tryz.zeroValue3
  t4 := Tryz.underlying4
  a4 := Tryz.isAgg4
  z4 := Tryz.sizeOf4
  v4 := Tryz.zeroValue4
  t5 := Tryz.underlying5
  a5 := Tryz.isAgg5
  z5 := Tryz.sizeOf5
  v5 := Tryz.zeroValue5
  t9 := Tryz.underlying9
  a9 := Tryz.isAgg9
  z9 := Tryz.sizeOf9
  v9 := Tryz.zeroValue9
  t21 := Tryz.underlying21
  a21 := Tryz.isAgg21
  z21 := Tryz.sizeOf21
  v21 := Tryz.zeroValue21
  t31 := Tryz.underlying106
  a31 := Tryz.isAgg106
  z31 := Tryz.sizeOf106
  v31 := Tryz.zeroValue106
  t46 := Tryz.underlying271
  a46 := Tryz.isAgg271
  z46 := Tryz.sizeOf271
  v46 := Tryz.zeroValue271
  t51 := Tryz.underlying35
  a51 := Tryz.isAgg35
  z51 := Tryz.sizeOf35
  v51 := Tryz.zeroValue35
  t105 := Tryz.underlying384
  a105 := Tryz.isAgg384
  z105 := Tryz.sizeOf384
  v105 := Tryz.zeroValue384
  t119 := Tryz.underlying439
  a119 := Tryz.isAgg439
  z119 := Tryz.sizeOf439
  t138 := Tryz.underlying441
  a138 := Tryz.isAgg441
  z138 := Tryz.sizeOf441
  v138 := Tryz.zeroValue441
  t139 := Tryz.underlying442
  a139 := Tryz.isAgg442
  z139 := Tryz.sizeOf442
  v139 := Tryz.zeroValue442
  t146 := Tryz.underlying392
  a146 := Tryz.isAgg392
  z146 := Tryz.sizeOf392
  v146 := Tryz.zeroValue392
  g1 := by kernel_rfl
  g3 := by kernel_rfl
  g4 := by kernel_rfl }
open Go.RowKit Go.Lib in
/-- strings.Split. (LAID: no walk: one application.) -/
theorem Tryz.strings_Split (s sep : ByteArray) (m : Int) (w : World) (hs : s.size < 4294967281) (hm : w.cell? ⟨0, 0, none⟩ = some (.int .i64 m)) (h1 : 1 ≤ sep.size) :
    Calls Tryz.prog 200 #[.string s, .string sep] w fun e w' =>
      e = .returned (.slice (some ⟨w.heap.size, 0, none⟩) (Lib.countB s sep + 1) (Lib.countB s sep + 1)) ∧ w' = w.alloc (.cells ((Lib.splitB sep 0 (Lib.countB s sep) s).map Value.string).toArray 9) := Any.strings_Split Tryz.lays146 (by kernel_rfl) s sep m w hs hm h1
def Tryz.lays107_ren : Go.Shelf.Ren := ⟨fun | 107 => 63 | 108 => 122 | n => n, fun | 28 => 40 | 3 => 3 | 4 => 4 | 0 => 0 | n => n, fun | n => n⟩
theorem Tryz.lays107 : Go.Proofs.Lays.n107 Tryz.prog Tryz.lays107_ren := {
  mixed := by kernel_rfl
  f107 := Tryz.func63.trans (congrArg some (by kernel_rfl))
  f108 := Tryz.func122.trans (congrArg some (by kernel_rfl))
  t0 := Tryz.underlying0
  a0 := Tryz.isAgg0
  z0 := Tryz.sizeOf0
  v0 := Tryz.zeroValue0
  t3 := Tryz.underlying3
  a3 := Tryz.isAgg3
  z3 := Tryz.sizeOf3
  v3 := Tryz.zeroValue3
  t4 := Tryz.underlying4
  a4 := Tryz.isAgg4
  z4 := Tryz.sizeOf4
  v4 := Tryz.zeroValue4
  t28 := Tryz.underlying40
  a28 := Tryz.isAgg40
  z28 := Tryz.sizeOf40
  v28 := Tryz.zeroValue40 }
open Go.Lib in
/-- slices.Contains at []int: "Contains reports whether v is present in s.": IT RETURNS 'elements.contains v'; the world is as it was. ITS CALLEE slices.Index IS MET BY ITS OWN CONTRACT OFF THE SHELF (lay that first): no loop is walked here. (LAID: no walk: one application.) -/
theorem Tryz.slices_Contains_int (b off n c : Nat) (zs : List Int) (x : Int) (w : World) (hz : n ≤ zs.length) (hbig : n ≤ 9223372036854775807) (hc : ∀ j, j < zs.length → w.cell? ⟨b, off + j, none⟩ = some (.int .i64 (zs.getD j 0))) :
    Calls Tryz.prog 63 #[.slice (some ⟨b, off, none⟩) n c, .int .i64 x] w fun e w' => e = .returned (.bool ((zs.take n).contains x)) ∧ w' = w := Any.slices_Contains_int Tryz.lays107 b off n c zs x w hz hbig hc
open Go.Lib in
/-- The same at a slice of length 0, a nil one too. (LAID: no walk: one application.) -/
theorem Tryz.slices_Contains_int_empty (a : Option Addr) (c : Nat) (x : Int) (w : World) :
    Calls Tryz.prog 63 #[.slice a 0 c, .int .i64 x] w fun e w' => e = .returned (.bool false) ∧ w' = w := Any.slices_Contains_int_empty Tryz.lays107 a c x w
def Tryz.lays110_ren : Go.Shelf.Ren := ⟨fun | 110 => 78 | 109 => 138 | n => n, fun | 31 => 106 | 9 => 9 | 4 => 4 | 3 => 3 | 0 => 0 | n => n, fun | n => n⟩
theorem Tryz.lays110 : Go.Proofs.Lays.n110 Tryz.prog Tryz.lays110_ren := {
  mixed := by kernel_rfl
  f109 := Tryz.func138.trans (congrArg some (by kernel_rfl))
  f110 := Tryz.func78.trans (congrArg some (by kernel_rfl))
  t0 := Tryz.underlying0
  a0 := Tryz.isAgg0
  z0 := Tryz.sizeOf0
  v0 := Tryz.zeroValue0
  t3 := Tryz.underlying3
  a3 := Tryz.isAgg3
  z3 := Tryz.sizeOf3
  v3 := Tryz.zeroValue3
  t4 := Tryz.underlying4
  a4 := Tryz.isAgg4
  z4 := Tryz.sizeOf4
  v4 := Tryz.zeroValue4
  t9 := Tryz.underlying9
  a9 := Tryz.isAgg9
  z9 := Tryz.sizeOf9
  v9 := Tryz.zeroValue9
  t31 := Tryz.underlying106
  a31 := Tryz.isAgg106
  z31 := Tryz.sizeOf106
  v31 := Tryz.zeroValue106 }
open Go.Lib in
/-- slices.Contains at []string: "Contains reports whether v is present in s.": IT RETURNS 'Lib.containsS (the elements) v', which is true just where v is among them ('Lib.containsS_iff'); the world is as it was. ITS CALLEE slices.Index IS MET BY ITS OWN CONTRACT OFF THE SHELF (lay that first): no loop is walked here. (LAID: no walk: one application.) -/
theorem Tryz.slices_Contains_string (b off n c : Nat) (zs : List ByteArray) (x : ByteArray) (w : World) (hz : n ≤ zs.length) (hbig : n ≤ 9223372036854775807) (hc : ∀ j, j < zs.length → w.cell? ⟨b, off + j, none⟩ = some (.string (zs.getD j ByteArray.empty))) :
    Calls Tryz.prog 78 #[.slice (some ⟨b, off, none⟩) n c, .string x] w fun e w' => e = .returned (.bool (Lib.containsS (zs.take n) x)) ∧ w' = w := Any.slices_Contains_string Tryz.lays110 b off n c zs x w hz hbig hc
open Go.Lib in
/-- The same at a slice of length 0, a nil one too. (LAID: no walk: one application.) -/
theorem Tryz.slices_Contains_string_empty (a : Option Addr) (c : Nat) (x : ByteArray) (w : World) :
    Calls Tryz.prog 78 #[.slice a 0 c, .string x] w fun e w' => e = .returned (.bool false) ∧ w' = w := Any.slices_Contains_string_empty Tryz.lays110 a c x w
def Tryz.lays115_ren : Go.Shelf.Ren := ⟨fun | 115 => 82 | n => n, fun | 37 => 23 | 4 => 4 | 9 => 9 | 5 => 5 | n => n, fun | n => n⟩
theorem Tryz.lays115 : Go.Proofs.Lays.n115 Tryz.prog Tryz.lays115_ren := {
  mixed := by kernel_rfl
  f115 := Tryz.func82.trans (congrArg some (by kernel_rfl))
  t4 := Tryz.underlying4
  a4 := Tryz.isAgg4
  z4 := Tryz.sizeOf4
  v4 := Tryz.zeroValue4
  t9 := Tryz.underlying9
  a9 := Tryz.isAgg9
  z9 := Tryz.sizeOf9
  v9 := Tryz.zeroValue9
  t37 := Tryz.underlying23
  a37 := Tryz.isAgg23
  z37 := Tryz.sizeOf23
  v37 := Tryz.zeroValue23 }
def Tryz.laysSlM5_f121_ren : Go.Shelf.Ren := ⟨fun | 5 => 121 | 8 => 186 | 7 => 185 | 19 => 241 | 20 => 242 | 10 => 232 | 11 => 233 | 12 => 234 | 13 => 235 | 14 => 236 | 15 => 237 | 16 => 238 | 17 => 239 | 18 => 240 | 30 => 294 | 31 => 295 | 32 => 296 | 33 => 297 | 34 => 298 | 35 => 299 | 40 => 343 | n => n, fun | 23 => 40 | 25 => 3 | 3 => 3 | 32 => 271 | 22 => 40 | 0 => 0 | 44 => 35 | 46 => 281 | 4 => 4 | 36 => 317 | 35 => 316 | 41 => 140 | 5 => 5 | 9 => 9 | 53 => 372 | 57 => 376 | 63 => 413 | 64 => 414 | n => n, fun | n => n⟩
theorem Tryz.laysSlM5_f121 : Go.Proofs.SlLaysM.n5 Tryz.prog Tryz.laysSlM5_f121_ren := {
  mixed := by kernel_rfl
  f5 := ⟨Tryz.f121.name, by decide, Tryz.func121.trans (congrArg some (by kernel_rfl))⟩
  f7 := ⟨Tryz.f185.name, by decide, Tryz.func185.trans (congrArg some (by kernel_rfl))⟩
  f8 := Tryz.func186.trans (congrArg some (by kernel_rfl))
  f10 := ⟨Tryz.f232.name, by decide, Tryz.func232.trans (congrArg some (by kernel_rfl))⟩
  f11 := ⟨Tryz.f233.name, by decide, Tryz.func233.trans (congrArg some (by kernel_rfl))⟩
  f12 := ⟨Tryz.f234.name, by decide, Tryz.func234.trans (congrArg some (by kernel_rfl))⟩
  f13 := ⟨Tryz.f235.name, by decide, Tryz.func235.trans (congrArg some (by kernel_rfl))⟩
  f14 := ⟨Tryz.f236.name, by decide, Tryz.func236.trans (congrArg some (by kernel_rfl))⟩
  f15 := ⟨Tryz.f237.name, by decide, Tryz.func237.trans (congrArg some (by kernel_rfl))⟩
  f16 := ⟨Tryz.f238.name, by decide, Tryz.func238.trans (congrArg some (by kernel_rfl))⟩
  f17 := ⟨Tryz.f239.name, by decide, Tryz.func239.trans (congrArg some (by kernel_rfl))⟩
  f18 := ⟨Tryz.f240.name, by decide, Tryz.func240.trans (congrArg some (by kernel_rfl))⟩
  f19 := Tryz.func241.trans (congrArg some (by kernel_rfl))
  f20 := Tryz.func242.trans (congrArg some (by kernel_rfl))
  f30 := ⟨Tryz.f294.name, by decide, Tryz.func294.trans (congrArg some (by kernel_rfl))⟩
  f31 := Tryz.func295.trans (congrArg some (by kernel_rfl))
  f32 := Tryz.func296.trans (congrArg some (by kernel_rfl))
  f33 := ⟨Tryz.f297.name, by decide, Tryz.func297.trans (congrArg some (by kernel_rfl))⟩
  f34 := ⟨Tryz.f298.name, by decide, Tryz.func298.trans (congrArg some (by kernel_rfl))⟩
  f35 := ⟨Tryz.f299.name, by decide, Tryz.func299.trans (congrArg some (by kernel_rfl))⟩
  f40 := ⟨Tryz.f343.name, by decide, Tryz.func343.trans (congrArg some (by kernel_rfl))⟩
  t0 := Tryz.underlying0
  a0 := Tryz.isAgg0
  z0 := Tryz.sizeOf0
  v0 := Tryz.zeroValue0
  t3 := Tryz.underlying3
  a3 := Tryz.isAgg3
  z3 := Tryz.sizeOf3
  v3 := Tryz.zeroValue3
  t4 := Tryz.underlying4
  a4 := Tryz.isAgg4
  z4 := Tryz.sizeOf4
  v4 := Tryz.zeroValue4
  t5 := Tryz.underlying5
  a5 := Tryz.isAgg5
  z5 := Tryz.sizeOf5
  v5 := Tryz.zeroValue5
  t9 := Tryz.underlying9
  a9 := Tryz.isAgg9
  z9 := Tryz.sizeOf9
  v9 := Tryz.zeroValue9
  t22 := Tryz.underlying40
  a22 := Tryz.isAgg40
  z22 := Tryz.sizeOf40
  v22 := Tryz.zeroValue40
  t23 := Tryz.underlying40
  a23 := Tryz.isAgg40
  z23 := Tryz.sizeOf40
  v23 := Tryz.zeroValue40
  t25 := Tryz.underlying3
  a25 := Tryz.isAgg3
  z25 := Tryz.sizeOf3
  v25 := Tryz.zeroValue3
  t32 := Tryz.underlying271
  a32 := Tryz.isAgg271
  z32 := Tryz.sizeOf271
  v32 := Tryz.zeroValue271
  t35 := Tryz.underlying316
  a35 := Tryz.isAgg316
  z35 := Tryz.sizeOf316
  v35 := Tryz.zeroValue316
  t36 := Tryz.underlying317
  a36 := Tryz.isAgg317
  z36 := Tryz.sizeOf317
  v36 := Tryz.zeroValue317
  t41 := Tryz.underlying140
  a41 := Tryz.isAgg140
  z41 := Tryz.sizeOf140
  v41 := Tryz.zeroValue140
  t44 := Tryz.underlying35
  a44 := Tryz.isAgg35
  z44 := Tryz.sizeOf35
  v44 := Tryz.zeroValue35
  t46 := Tryz.underlying281
  a46 := Tryz.isAgg281
  z46 := Tryz.sizeOf281
  v46 := Tryz.zeroValue281
  t53 := Tryz.underlying372
  a53 := Tryz.isAgg372
  z53 := Tryz.sizeOf372
  v53 := Tryz.zeroValue372
  t57 := Tryz.underlying376
  a57 := Tryz.isAgg376
  z57 := Tryz.sizeOf376
  v57 := Tryz.zeroValue376
  t63 := Tryz.underlying413
  a63 := Tryz.isAgg413
  z63 := Tryz.sizeOf413
  v63 := Tryz.zeroValue413
  t64 := Tryz.underlying414
  a64 := Tryz.isAgg414
  z64 := Tryz.sizeOf414
  v64 := Tryz.zeroValue414 }
open Go.RowKit Go.Sort in
/-- .. and plain. (LAID AT THE INSTANCE 'slices.Sort[[]int,int]': no walk: one application.) -/
theorem Tryz.slices_Sort_int_none (p : Option Addr) (cap : Nat) (w : World) :
    Calls Tryz.prog 121 #[.slice p 0 cap] w fun e w' => e = .returned (.tuple #[]) ∧ w' = w := AnyM.slices_Sort_int_none Tryz.laysSlM5_f121 p cap w
/-- bytes.Equal: "Equal reports whether a and b are the same length and contain the same bytes. A nil argument is equivalent to an empty slice.": IT RETURNS 'the bytes of the one == the bytes of the other'; the world is as it was. THE TWO ARGUMENTS COME AS WHATEVER VALUES, each with the one fact that the walk wants of it: what 'string(..)' of it gives: for a slice whose cells you know: 'run_convert_bytes_arg' (Derived/Laws/BytesArg.lean) hands that fact; for a nil one: 'run_convert_bytes_nil' (with xs := []). (LAID: no walk: one application.) -/
theorem Tryz.bytes_Equal (v1 v2 : Value) (xs ys : List Int) (w : World) (h1 : (convert 23 9 v1).run Tryz.prog w = .ok (.string (strOfNums xs)) w) (h2 : (convert 23 9 v2).run Tryz.prog w = .ok (.string (strOfNums ys)) w) :
    Calls Tryz.prog 82 #[v1, v2] w fun e w' => e = .returned (.bool (Lib.bytesOf xs == Lib.bytesOf ys)) ∧ w' = w := Any.bytes_Equal Tryz.lays115 v1 v2 xs ys w h1 h2
end Go.Proofs
