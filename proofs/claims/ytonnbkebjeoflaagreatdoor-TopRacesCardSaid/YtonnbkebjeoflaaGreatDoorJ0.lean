/-
  Contracts and plain laws of ShelfF.
  Conditions: each law states its own.
-/
import Derived.Shelf.Strings.Builder1
import Derived.Shelf.Strings.Builder2
import Derived.Shelf.Small.Bits
import Derived.Shelf.Small.Wraps
import Derived.Shelf.Strings.BuilderF
import Derived.Shelf.Strings.BuilderK
import Derived.Shelf.Utf8.RuneCount
import Derived.Shelf.Strings.Builder2Cap
import Derived.Shelf.Strconv.Itoa0
import Derived.Shelf.Strconv.Itoa1
import Derived.Shelf.LaysM
import Derived.Shelf.Strconv.Itoa2
import Derived.Shelf.Strconv.Itoa3
import Derived.Shelf.Strings.Search1
import Derived.Shelf.Strings.Search2
import Derived.Shelf.Strings.Search3
import Derived.Shelf.Strings.Cut
import Derived.Shelf.Strings.Count
import Derived.Shelf.Strings.Shaped
import Derived.Shelf.Sort.Plain
import Derived.Shelf.Strings.LastIndex
import Derived.Shelf.GgClosure.StringsIndexFunc
import Derived.Ground.GgwProg
import Derived.Shelf.GgClosure.StringsIndexFuncTop
import Derived.Shelf.GgClosure.StringsRunes
import Derived.Shelf.Strings.Prefix
import Derived.Shelf.Strings.Split
import Derived.Shelf.Strings.SplitShaped
import Derived.Shelf.Unicode.Decode
import Derived.Shelf.Strings.RuneCount
import Derived.Shelf.Strings.Explode
import Derived.Shelf.Bits.Mul64
import Derived.Shelf.Strings.Repeat
import Derived.Shelf.Unicode.DecodeSlow
import Derived.Shelf.Unicode.DecodeAny
import Derived.Shelf.Strings.FuncGrows
import Derived.Shelf.Strings.BuilderCap
import Derived.Shelf.Slices.Turned
import Derived.Ground.Names2Prog
import Derived.Shelf.Slices.Clone
import Derived.Shelf.Slices.CompactI
import Derived.Shelf.Slices.Cells
import Derived.Shelf.Slices.In.SortNone
import Derived.Test.YtonnbkebjeoflaaGreatDoorProg
set_option linter.unusedSectionVars false
set_option linter.unusedSimpArgs false
set_option linter.unusedVariables false
namespace Go.Proofs
open Go.Shelf
open Go.RowKit in
open Go.RowKit in
open Go.RowKit in
open Go.RowKit in
open Go.RowKit in
open Go.RowKit in
open Go.RowKit in
open Go.RowKit in
open Go.RowKit in
open Go.RowKit in
open Go.RowKit in
open Go.RowKit in
open Go.RowKit in
open Go.RowKit in
open Go.RowKit in
open Go.RowKit in
open Go.RowKit in
open Go.Lib in
open Go.Lib in
open Go.Lib in
open Go.Lib in
open Go.RowKit Go.Sort Go.Lib in
def Tryz.laysM246_ren : Go.Shelf.Ren := ⟨fun | 246 => 295 | 283 => 142 | 284 => 143 | 285 => 144 | 286 => 145 | 129 => 218 | 317 => 217 | 318 => 219 | 319 => 220 | 320 => 221 | 337 => 259 | 338 => 260 | n => n, fun | 2 => 2 | 3 => 3 | 9 => 9 | 4 => 4 | 171 => 240 | 0 => 0 | 53 => 92 | 37 => 93 | 5 => 5 | 173 => 243 | 212 => 294 | 51 => 245 | 20 => 20 | 213 => 295 | 46 => 155 | 232 => 346 | 233 => 268 | n => n, fun | 17 => 0 | 18 => 2 | 19 => 3 | n => n⟩
open Go.RowKit Go.Sort Go.Lib in
open Go.RowKit Go.Sort Go.Lib in
def Tryz.laysM243_ren : Go.Shelf.Ren := ⟨fun | 243 => 276 | 246 => 295 | 283 => 142 | 284 => 143 | 285 => 144 | 286 => 145 | 129 => 218 | 317 => 217 | 318 => 219 | 319 => 220 | 320 => 221 | 337 => 259 | 338 => 260 | n => n, fun | 3 => 3 | 9 => 9 | 2 => 2 | 4 => 4 | 171 => 240 | 0 => 0 | 53 => 92 | 37 => 93 | 5 => 5 | 173 => 243 | 212 => 294 | 51 => 245 | 20 => 20 | 213 => 295 | 46 => 155 | 232 => 346 | 233 => 268 | n => n, fun | 17 => 0 | 18 => 2 | 19 => 3 | n => n⟩
open Go.RowKit Go.Sort Go.Lib in
open Go.RowKit Go.Sort Go.Lib in
def Tryz.laysM171_ren : Go.Shelf.Ren := ⟨fun | 171 => 254 | 243 => 276 | 246 => 295 | 283 => 142 | 284 => 143 | 285 => 144 | 286 => 145 | 129 => 218 | 317 => 217 | 318 => 219 | 319 => 220 | 320 => 221 | 337 => 259 | 338 => 260 | n => n, fun | 3 => 3 | 9 => 9 | 2 => 2 | 4 => 4 | 171 => 240 | 0 => 0 | 53 => 92 | 37 => 93 | 5 => 5 | 173 => 243 | 212 => 294 | 51 => 245 | 20 => 20 | 213 => 295 | 46 => 155 | 232 => 346 | 233 => 268 | n => n, fun | 17 => 0 | 18 => 2 | 19 => 3 | n => n⟩
theorem Tryz.laysM171 : Go.Proofs.LaysM.n171 Tryz.prog Tryz.laysM171_ren := {
 mixed := by kernel_rfl
 f129 := Tryz.func218.trans (congrArg some (by kernel_rfl))
 f171 := Tryz.func254.trans (congrArg some (by kernel_rfl))
 f243 := Tryz.func276.trans (congrArg some (by kernel_rfl))
 f246 := Tryz.func295.trans (congrArg some (by kernel_rfl))
 f283 := Tryz.func142.trans (congrArg some (by kernel_rfl))
 f284 := Tryz.func143.trans (congrArg some (by kernel_rfl))
 f285 := Tryz.func144.trans (congrArg some (by kernel_rfl))
 f286 := Tryz.func145.trans (congrArg some (by kernel_rfl))
 f317 := Tryz.func217.trans (congrArg some (by kernel_rfl))
 f318 := Tryz.func219.trans (congrArg some (by kernel_rfl))
 f319 := Tryz.func220.trans (congrArg some (by kernel_rfl))
 f320 := Tryz.func221.trans (congrArg some (by kernel_rfl))
 f337 := Tryz.func259.trans (congrArg some (by kernel_rfl))
 f338 := Tryz.func260.trans (congrArg some (by kernel_rfl))
 t0 := Tryz.underlying0
 a0 := Tryz.isAgg0
 z0 := Tryz.sizeOf0
 v0 := Tryz.zeroValue0
 t2 := Tryz.underlying2
 a2 := Tryz.isAgg2
 z2 := Tryz.sizeOf2
 v2 := Tryz.zeroValue2
 t3 := Tryz.underlying3
 a3 := Tryz.isAgg3
 z3 := Tryz.sizeOf3
 v3 := Tryz.zeroValue3
 t4 := Tryz.underlying4
 a4 := Tryz.isAgg4
 z4 := Tryz.sizeOf4
 v4 := Tryz.zeroValue4
 t5 := Tryz.underlying5
 a5 := Tryz.isAgg5
 z5 := Tryz.sizeOf5
 v5 := Tryz.zeroValue5
 t9 := Tryz.underlying9
 a9 := Tryz.isAgg9
 z9 := Tryz.sizeOf9
 v9 := Tryz.zeroValue9
 t20 := Tryz.underlying20
 a20 := Tryz.isAgg20
 z20 := Tryz.sizeOf20
 v20 := Tryz.zeroValue20
 t37 := Tryz.underlying93
 a37 := Tryz.isAgg93
 z37 := Tryz.sizeOf93
 v37 := Tryz.zeroValue93
 t46 := Tryz.underlying155
 a46 := Tryz.isAgg155
 z46 := Tryz.sizeOf155
 v46 := Tryz.zeroValue155
 t51 := Tryz.underlying245
 a51 := Tryz.isAgg245
 z51 := Tryz.sizeOf245
 v51 := Tryz.zeroValue245
 t53 := Tryz.underlying92
 a53 := Tryz.isAgg92
 z53 := Tryz.sizeOf92
 v53 := Tryz.zeroValue92
 t171 := Tryz.underlying240
 a171 := Tryz.isAgg240
 z171 := Tryz.sizeOf240
 v171 := Tryz.zeroValue240
 t173 := Tryz.underlying243
 a173 := Tryz.isAgg243
 z173 := Tryz.sizeOf243
 v173 := Tryz.zeroValue243
 t212 := Tryz.underlying294
 a212 := Tryz.isAgg294
 z212 := Tryz.sizeOf294
 v212 := Tryz.zeroValue294
 t213 := Tryz.underlying295
 a213 := Tryz.isAgg295
 z213 := Tryz.sizeOf295
 t232 := Tryz.underlying346
 a232 := Tryz.isAgg346
 z232 := Tryz.sizeOf346
 v232 := Tryz.zeroValue346
 t233 := Tryz.underlying268
 a233 := Tryz.isAgg268
 z233 := Tryz.sizeOf268
 v233 := Tryz.zeroValue268
 g17 := by kernel_rfl
 g18 := by kernel_rfl
 g19 := by kernel_rfl
 i0 := by kernel_rfl
 i2 := by kernel_rfl
 i3 := by kernel_rfl
 i4 := by kernel_rfl
 i5 := by kernel_rfl
 i9 := by kernel_rfl
 i20 := by kernel_rfl
 i37 := by kernel_rfl
 i46 := by kernel_rfl
 i51 := by kernel_rfl
 i53 := by kernel_rfl
 i171 := by kernel_rfl
 i173 := by kernel_rfl
 i212 := by kernel_rfl
 i232 := by kernel_rfl
 i233 := by kernel_rfl
 m17 := by kernel_rfl
 m18 := by kernel_rfl
 m19 := by kernel_rfl }
open Go.RowKit Go.Sort Go.Lib in
theorem Tryz.strconv_Itoa (n : Int) (h0 : -9223372036854775808 ≤ n) (h1 : n ≤ 9223372036854775807) (w : World) (htab : Lib.TabIs Tryz.prog w "internal/strconv.uint64pow10" .u64 Lib.pow10Tab) :
 Calls Tryz.prog 254 #[.int .i64 n] w fun e w' => e = .returned (.string ⟨(Lib.itoa n).toArray⟩) ∧ ∃ k os, w' = grow (w.drewN k) os := Any.strconv_Itoa Tryz.laysM171 n h0 h1 w htab
open Go.RowKit Go.Sort Go.Lib in
open Go.RowKit Go.Lib in
open Go.RowKit Go.Lib in
open Go.RowKit Go.Lib in
open Go.RowKit Go.Lib in
def Tryz.lays219_ren : Go.Shelf.Ren := ⟨fun | 219 => 300 | 217 => 307 | 225 => 308 | 224 => 309 | 267 => 310 | 266 => 312 | 314 => 313 | n => n, fun | 9 => 9 | 3 => 3 | 4 => 4 | 5 => 5 | 46 => 155 | 146 => 246 | 51 => 245 | n => n, fun | 1 => 1 | n => n⟩
theorem Tryz.lays219 : Go.Proofs.Lays.n219 Tryz.prog Tryz.lays219_ren := {
 mixed := by kernel_rfl
 f217 := Tryz.func307.trans (congrArg some (by kernel_rfl))
 f219 := Tryz.func300.trans (congrArg some (by kernel_rfl))
 f224 := Tryz.func309.trans (congrArg some (by kernel_rfl))
 f225 := Tryz.func308.trans (congrArg some (by kernel_rfl))
 f266 := Tryz.func312.trans (congrArg some (by kernel_rfl))
 f267 := Tryz.func310.trans (congrArg some (by kernel_rfl))
 f314 := Tryz.func313.trans (congrArg some (by kernel_rfl))
 t3 := Tryz.underlying3
 a3 := Tryz.isAgg3
 z3 := Tryz.sizeOf3
 v3 := Tryz.zeroValue3
 t4 := Tryz.underlying4
 a4 := Tryz.isAgg4
 z4 := Tryz.sizeOf4
 v4 := Tryz.zeroValue4
 t5 := Tryz.underlying5
 a5 := Tryz.isAgg5
 z5 := Tryz.sizeOf5
 v5 := Tryz.zeroValue5
 t9 := Tryz.underlying9
 a9 := Tryz.isAgg9
 z9 := Tryz.sizeOf9
 v9 := Tryz.zeroValue9
 t46 := Tryz.underlying155
 a46 := Tryz.isAgg155
 z46 := Tryz.sizeOf155
 v46 := Tryz.zeroValue155
 t51 := Tryz.underlying245
 a51 := Tryz.isAgg245
 z51 := Tryz.sizeOf245
 v51 := Tryz.zeroValue245
 t146 := Tryz.underlying246
 a146 := Tryz.isAgg246
 z146 := Tryz.sizeOf246
 v146 := Tryz.zeroValue246
 g1 := by kernel_rfl }
open Go.RowKit Go.Lib in
theorem Tryz.stringslite_Index_one (s : ByteArray) (c : UInt8) (w : World) :
 Calls Tryz.prog 300 #[.string s, .string ⟨#[c]⟩] w fun e w' => e = .returned (.int .i64 (Lib.indexByte s.data.toList c)) ∧ w' = w := Any.stringslite_Index_one Tryz.lays219 s c w
open Go.RowKit Go.Lib in
open Go.RowKit Go.Lib in
open Go.RowKit Go.Lib in
open Go.RowKit Go.Lib in
open Go.RowKit Go.Lib in
open Go.RowKit Go.Lib in
open Go.RowKit Go.Lib in
open Go.RowKit Go.Lib in
open Go.RowKit Go.Lib in
open Go.RowKit Go.Lib in
open Go.RowKit Go.Lib in
open Go.RowKit Go.Lib in
def Tryz.lays189_ren : Go.Shelf.Ren := ⟨fun | 189 => 110 | 125 => 181 | 257 => 180 | 128 => 251 | 129 => 218 | 294 => 242 | 295 => 243 | 296 => 244 | 297 => 245 | 298 => 246 | 299 => 247 | 216 => 248 | 300 => 249 | 301 => 250 | 328 => 270 | 329 => 271 | 330 => 272 | 331 => 273 | 332 => 274 | 215 => 275 | 343 => 294 | n => n, fun | 28 => 23 | 3 => 3 | 46 => 155 | 0 => 0 | 51 => 245 | 53 => 92 | 4 => 4 | 183 => 318 | 182 => 317 | 131 => 323 | 5 => 5 | 9 => 9 | 218 => 336 | 222 => 254 | 228 => 353 | 229 => 354 | n => n, fun | n => n⟩
theorem Tryz.lays189 : Go.Proofs.Lays.n189 Tryz.prog Tryz.lays189_ren := {
 mixed := by kernel_rfl
 f125 := Tryz.func181.trans (congrArg some (by kernel_rfl))
 f128 := Tryz.func251.trans (congrArg some (by kernel_rfl))
 f129 := Tryz.func218.trans (congrArg some (by kernel_rfl))
 f189 := Tryz.func110.trans (congrArg some (by kernel_rfl))
 f215 := Tryz.func275.trans (congrArg some (by kernel_rfl))
 f216 := Tryz.func248.trans (congrArg some (by kernel_rfl))
 f257 := Tryz.func180.trans (congrArg some (by kernel_rfl))
 f294 := Tryz.func242.trans (congrArg some (by kernel_rfl))
 f295 := Tryz.func243.trans (congrArg some (by kernel_rfl))
 f296 := Tryz.func244.trans (congrArg some (by kernel_rfl))
 f297 := Tryz.func245.trans (congrArg some (by kernel_rfl))
 f298 := Tryz.func246.trans (congrArg some (by kernel_rfl))
 f299 := Tryz.func247.trans (congrArg some (by kernel_rfl))
 f300 := Tryz.func249.trans (congrArg some (by kernel_rfl))
 f301 := Tryz.func250.trans (congrArg some (by kernel_rfl))
 f328 := Tryz.func270.trans (congrArg some (by kernel_rfl))
 f329 := Tryz.func271.trans (congrArg some (by kernel_rfl))
 f330 := Tryz.func272.trans (congrArg some (by kernel_rfl))
 f331 := Tryz.func273.trans (congrArg some (by kernel_rfl))
 f332 := Tryz.func274.trans (congrArg some (by kernel_rfl))
 f343 := Tryz.func294.trans (congrArg some (by kernel_rfl))
 t0 := Tryz.underlying0
 a0 := Tryz.isAgg0
 z0 := Tryz.sizeOf0
 v0 := Tryz.zeroValue0
 t3 := Tryz.underlying3
 a3 := Tryz.isAgg3
 z3 := Tryz.sizeOf3
 v3 := Tryz.zeroValue3
 t4 := Tryz.underlying4
 a4 := Tryz.isAgg4
 z4 := Tryz.sizeOf4
 v4 := Tryz.zeroValue4
 t5 := Tryz.underlying5
 a5 := Tryz.isAgg5
 z5 := Tryz.sizeOf5
 v5 := Tryz.zeroValue5
 t9 := Tryz.underlying9
 a9 := Tryz.isAgg9
 z9 := Tryz.sizeOf9
 v9 := Tryz.zeroValue9
 t28 := Tryz.underlying23
 a28 := Tryz.isAgg23
 z28 := Tryz.sizeOf23
 v28 := Tryz.zeroValue23
 t46 := Tryz.underlying155
 a46 := Tryz.isAgg155
 z46 := Tryz.sizeOf155
 v46 := Tryz.zeroValue155
 t51 := Tryz.underlying245
 a51 := Tryz.isAgg245
 z51 := Tryz.sizeOf245
 v51 := Tryz.zeroValue245
 t53 := Tryz.underlying92
 a53 := Tryz.isAgg92
 z53 := Tryz.sizeOf92
 v53 := Tryz.zeroValue92
 t131 := Tryz.underlying323
 a131 := Tryz.isAgg323
 z131 := Tryz.sizeOf323
 v131 := Tryz.zeroValue323
 t182 := Tryz.underlying317
 a182 := Tryz.isAgg317
 z182 := Tryz.sizeOf317
 v182 := Tryz.zeroValue317
 t183 := Tryz.underlying318
 a183 := Tryz.isAgg318
 z183 := Tryz.sizeOf318
 v183 := Tryz.zeroValue318
 t218 := Tryz.underlying336
 a218 := Tryz.isAgg336
 z218 := Tryz.sizeOf336
 v218 := Tryz.zeroValue336
 t222 := Tryz.underlying254
 a222 := Tryz.isAgg254
 z222 := Tryz.sizeOf254
 v222 := Tryz.zeroValue254
 t228 := Tryz.underlying353
 a228 := Tryz.isAgg353
 z228 := Tryz.sizeOf353
 v228 := Tryz.zeroValue353
 t229 := Tryz.underlying354
 a229 := Tryz.isAgg354
 z229 := Tryz.sizeOf354
 v229 := Tryz.zeroValue354 }
open Go.Sort Go.RowKit in
theorem Tryz.slices_Sort_int (blk off cap : Nat) (zs : List Int) (w : World) (hH : Holds (Value.int .i64) w blk off zs.toArray) (hblk : blk < w.heap.size) (hsz : zs.length < 4611686018427387904) :
 Calls Tryz.prog 110 #[.slice (some ⟨blk, off, none⟩) zs.length cap] w fun e w' =>
  e = .returned (.tuple #[]) ∧ ∃ n os, w' = grow (putRow (Value.int .i64) (Sort.ahead w n) blk off (zs.mergeSort fun x y => decide (x ≤ y)).toArray) os := Any.slices_Sort_int Tryz.lays189 blk off cap zs w hH hblk hsz
open Go.Sort Go.RowKit in
def Tryz.lays222_ren : Go.Shelf.Ren := ⟨fun | 222 => 253 | n => n, fun | 9 => 9 | 5 => 5 | 3 => 3 | 4 => 4 | n => n, fun | n => n⟩
open Go.RowKit Go.Lib in
def Tryz.lays149_ren : Go.Shelf.Ren := ⟨fun | 149 => 184 | 222 => 253 | n => n, fun | 9 => 9 | 5 => 5 | 3 => 3 | 4 => 4 | n => n, fun | n => n⟩
theorem Tryz.lays149 : Go.Proofs.Lays.n149 Tryz.prog Tryz.lays149_ren := {
 mixed := by kernel_rfl
 f149 := Tryz.func184.trans (congrArg some (by kernel_rfl))
 f222 := Tryz.func253.trans (congrArg some (by kernel_rfl))
 t3 := Tryz.underlying3
 a3 := Tryz.isAgg3
 z3 := Tryz.sizeOf3
 v3 := Tryz.zeroValue3
 t4 := Tryz.underlying4
 a4 := Tryz.isAgg4
 z4 := Tryz.sizeOf4
 v4 := Tryz.zeroValue4
 t5 := Tryz.underlying5
 a5 := Tryz.isAgg5
 z5 := Tryz.sizeOf5
 v5 := Tryz.zeroValue5
 t9 := Tryz.underlying9
 a9 := Tryz.isAgg9
 z9 := Tryz.sizeOf9
 v9 := Tryz.zeroValue9 }
open Go.RowKit Go.Lib in
theorem Tryz.strings_LastIndexByte (s : ByteArray) (c : Int) (hs : s.size < 4611686018427387904) (w : World) :
 Calls Tryz.prog 184 #[.string s, .int .u8 c] w fun e w' => e = .returned (.int .i64 (Lib.lastIndexByte s c)) ∧ w' = w := Any.strings_LastIndexByte Tryz.lays149 s c hs w
open Go.RowKit Go.Lib in
open Go.RowKit Go.Lib in
open Go.RowKit Go.Lib in
open Go.RowKit Go.Lib in
def Tryz.lays206_ren : Go.Shelf.Ren := ⟨fun | 206 => 148 | n => n, fun | 9 => 9 | 4 => 4 | 3 => 3 | n => n, fun | n => n⟩
open Go.RowKit Go.Lib in
def Tryz.lays99_ren : Go.Shelf.Ren := ⟨fun | 99 => 73 | 206 => 148 | n => n, fun | 9 => 9 | 4 => 4 | 3 => 3 | n => n, fun | n => n⟩
theorem Tryz.lays99 : Go.Proofs.Lays.n99 Tryz.prog Tryz.lays99_ren := {
 mixed := by kernel_rfl
 f99 := Tryz.func73.trans (congrArg some (by kernel_rfl))
 f206 := Tryz.func148.trans (congrArg some (by kernel_rfl))
 t3 := Tryz.underlying3
 a3 := Tryz.isAgg3
 z3 := Tryz.sizeOf3
 v3 := Tryz.zeroValue3
 t4 := Tryz.underlying4
 a4 := Tryz.isAgg4
 z4 := Tryz.sizeOf4
 v4 := Tryz.zeroValue4
 t9 := Tryz.underlying9
 a9 := Tryz.isAgg9
 z9 := Tryz.sizeOf9
 v9 := Tryz.zeroValue9 }
open Go.RowKit Go.Lib in
theorem Tryz.strings_HasPrefix (s p : ByteArray) (w : World) :
 Calls Tryz.prog 73 #[.string s, .string p] w fun e w' => e = .returned (.bool (Lib.hasPrefix s.data.toList p.data.toList)) ∧ w' = w := Any.strings_HasPrefix Tryz.lays99 s p w
open Go.RowKit Go.Lib in
open Go.RowKit Go.Lib in
def Tryz.lays102_ren : Go.Shelf.Ren := ⟨fun | 102 => 266 | 209 => 284 | 207 => 301 | n => n, fun | 9 => 9 | 4 => 4 | 3 => 3 | n => n, fun | n => n⟩
theorem Tryz.lays102 : Go.Proofs.Lays.n102 Tryz.prog Tryz.lays102_ren := {
 mixed := by kernel_rfl
 f102 := Tryz.func266.trans (congrArg some (by kernel_rfl))
 f207 := Tryz.func301.trans (congrArg some (by kernel_rfl))
 f209 := Tryz.func284.trans (congrArg some (by kernel_rfl))
 t3 := Tryz.underlying3
 a3 := Tryz.isAgg3
 z3 := Tryz.sizeOf3
 v3 := Tryz.zeroValue3
 t4 := Tryz.underlying4
 a4 := Tryz.isAgg4
 z4 := Tryz.sizeOf4
 v4 := Tryz.zeroValue4
 t9 := Tryz.underlying9
 a9 := Tryz.isAgg9
 z9 := Tryz.sizeOf9
 v9 := Tryz.zeroValue9 }
open Go.RowKit Go.Lib in
theorem Tryz.strings_TrimSuffix (s p : ByteArray) (w : World) (hs : s.size ≤ 9223372036854775807) :
 Calls Tryz.prog 266 #[.string s, .string p] w fun e w' => e = .returned (.string ⟨(Lib.trimSuffix s.data.toList p.data.toList).toArray⟩) ∧ w' = w := Any.strings_TrimSuffix Tryz.lays102 s p w hs
open Go.RowKit Go.Lib in
def Tryz.lays221_ren : Go.Shelf.Ren := ⟨fun | 221 => 258 | 268 => 280 | 138 => 281 | 143 => 282 | 195 => 297 | 197 => 298 | 218 => 299 | 219 => 300 | 260 => 306 | 217 => 307 | 225 => 308 | 224 => 309 | 267 => 310 | 266 => 312 | 314 => 313 | n => n, fun | 9 => 9 | 3 => 3 | 31 => 22 | 4 => 4 | 0 => 0 | 105 => 358 | 21 => 21 | 5 => 5 | 46 => 155 | 119 => 363 | 139 => 366 | 138 => 365 | 146 => 246 | 51 => 245 | n => n, fun | 1 => 1 | 3 => 4 | 4 => 5 | n => n⟩
open Go.RowKit Go.Lib in
def Tryz.lays146_ren : Go.Shelf.Ren := ⟨fun | 146 => 211 | 221 => 258 | 268 => 280 | 138 => 281 | 143 => 282 | 195 => 297 | 197 => 298 | 218 => 299 | 219 => 300 | 260 => 306 | 217 => 307 | 225 => 308 | 224 => 309 | 267 => 310 | 266 => 312 | 314 => 313 | n => n, fun | 9 => 9 | 31 => 22 | 3 => 3 | 4 => 4 | 0 => 0 | 105 => 358 | 21 => 21 | 5 => 5 | 46 => 155 | 119 => 363 | 139 => 366 | 138 => 365 | 146 => 246 | 51 => 245 | n => n, fun | 1 => 1 | 3 => 4 | 4 => 5 | n => n⟩
theorem Tryz.lays146 : Go.Proofs.Lays.n146 Tryz.prog Tryz.lays146_ren := {
 mixed := by kernel_rfl
 f138 := Tryz.func281.trans (congrArg some (by kernel_rfl))
 f143 := Tryz.func282.trans (congrArg some (by kernel_rfl))
 f146 := Tryz.func211.trans (congrArg some (by kernel_rfl))
 f195 := Tryz.func297.trans (congrArg some (by kernel_rfl))
 f197 := Tryz.func298.trans (congrArg some (by kernel_rfl))
 f217 := Tryz.func307.trans (congrArg some (by kernel_rfl))
 f218 := Tryz.func299.trans (congrArg some (by kernel_rfl))
 f219 := Tryz.func300.trans (congrArg some (by kernel_rfl))
 f221 := Tryz.func258.trans (congrArg some (by kernel_rfl))
 f224 := Tryz.func309.trans (congrArg some (by kernel_rfl))
 f225 := Tryz.func308.trans (congrArg some (by kernel_rfl))
 f260 := Tryz.func306.trans (congrArg some (by kernel_rfl))
 f266 := Tryz.func312.trans (congrArg some (by kernel_rfl))
 f267 := Tryz.func310.trans (congrArg some (by kernel_rfl))
 f268 := Tryz.func280.trans (congrArg some (by kernel_rfl))
 f314 := Tryz.func313.trans (congrArg some (by kernel_rfl))
 t0 := Tryz.underlying0
 a0 := Tryz.isAgg0
 z0 := Tryz.sizeOf0
 v0 := Tryz.zeroValue0
 t3 := Tryz.underlying3
 a3 := Tryz.isAgg3
 z3 := Tryz.sizeOf3
 v3 := Tryz.zeroValue3
 t4 := Tryz.underlying4
 a4 := Tryz.isAgg4
 z4 := Tryz.sizeOf4
 v4 := Tryz.zeroValue4
 t5 := Tryz.underlying5
 a5 := Tryz.isAgg5
 z5 := Tryz.sizeOf5
 v5 := Tryz.zeroValue5
 t9 := Tryz.underlying9
 a9 := Tryz.isAgg9
 z9 := Tryz.sizeOf9
 v9 := Tryz.zeroValue9
 t21 := Tryz.underlying21
 a21 := Tryz.isAgg21
 z21 := Tryz.sizeOf21
 v21 := Tryz.zeroValue21
 t31 := Tryz.underlying22
 a31 := Tryz.isAgg22
 z31 := Tryz.sizeOf22
 v31 := Tryz.zeroValue22
 t46 := Tryz.underlying155
 a46 := Tryz.isAgg155
 z46 := Tryz.sizeOf155
 v46 := Tryz.zeroValue155
 t51 := Tryz.underlying245
 a51 := Tryz.isAgg245
 z51 := Tryz.sizeOf245
 v51 := Tryz.zeroValue245
 t105 := Tryz.underlying358
 a105 := Tryz.isAgg358
 z105 := Tryz.sizeOf358
 v105 := Tryz.zeroValue358
 t119 := Tryz.underlying363
 a119 := Tryz.isAgg363
 z119 := Tryz.sizeOf363
 t138 := Tryz.underlying365
 a138 := Tryz.isAgg365
 z138 := Tryz.sizeOf365
 v138 := Tryz.zeroValue365
 t139 := Tryz.underlying366
 a139 := Tryz.isAgg366
 z139 := Tryz.sizeOf366
 v139 := Tryz.zeroValue366
 t146 := Tryz.underlying246
 a146 := Tryz.isAgg246
 z146 := Tryz.sizeOf246
 v146 := Tryz.zeroValue246
 g1 := by kernel_rfl
 g3 := by kernel_rfl
 g4 := by kernel_rfl }
open Go.RowKit Go.Lib in
theorem Tryz.strings_Split (s sep : ByteArray) (m : Int) (w : World) (hs : s.size < 4294967281) (hm : w.cell? ⟨1, 0, none⟩ = some (.int .i64 m)) (h1 : 1 ≤ sep.size) :
 Calls Tryz.prog 211 #[.string s, .string sep] w fun e w' =>
  e = .returned (.slice (some ⟨w.heap.size, 0, none⟩) (Lib.countB s sep + 1) (Lib.countB s sep + 1)) ∧ w' = w.alloc (.cells ((Lib.splitB sep 0 (Lib.countB s sep) s).map Value.string).toArray 9) := Any.strings_Split Tryz.lays146 (by kernel_rfl) s sep m w hs hm h1
def Tryz.laysM146_ren : Go.Shelf.Ren := ⟨fun | 146 => 211 | 221 => 258 | 268 => 280 | 138 => 281 | 143 => 282 | 195 => 297 | 197 => 298 | 218 => 299 | 219 => 300 | 260 => 306 | 217 => 307 | 225 => 308 | 224 => 309 | 267 => 310 | 266 => 312 | 314 => 313 | n => n, fun | 9 => 9 | 31 => 22 | 3 => 3 | 4 => 4 | 0 => 0 | 105 => 358 | 21 => 21 | 5 => 5 | 46 => 155 | 119 => 363 | 139 => 366 | 138 => 365 | 146 => 246 | 51 => 245 | n => n, fun | 1 => 1 | 3 => 4 | 4 => 5 | n => n⟩
theorem Tryz.laysM146 : Go.Proofs.LaysM.n146 Tryz.prog Tryz.laysM146_ren := {
 mixed := by kernel_rfl
 f138 := Tryz.func281.trans (congrArg some (by kernel_rfl))
 f143 := Tryz.func282.trans (congrArg some (by kernel_rfl))
 f146 := Tryz.func211.trans (congrArg some (by kernel_rfl))
 f195 := Tryz.func297.trans (congrArg some (by kernel_rfl))
 f197 := Tryz.func298.trans (congrArg some (by kernel_rfl))
 f217 := Tryz.func307.trans (congrArg some (by kernel_rfl))
 f218 := Tryz.func299.trans (congrArg some (by kernel_rfl))
 f219 := Tryz.func300.trans (congrArg some (by kernel_rfl))
 f221 := Tryz.func258.trans (congrArg some (by kernel_rfl))
 f224 := Tryz.func309.trans (congrArg some (by kernel_rfl))
 f225 := Tryz.func308.trans (congrArg some (by kernel_rfl))
 f260 := Tryz.func306.trans (congrArg some (by kernel_rfl))
 f266 := Tryz.func312.trans (congrArg some (by kernel_rfl))
 f267 := Tryz.func310.trans (congrArg some (by kernel_rfl))
 f268 := Tryz.func280.trans (congrArg some (by kernel_rfl))
 f314 := Tryz.func313.trans (congrArg some (by kernel_rfl))
 t0 := Tryz.underlying0
 a0 := Tryz.isAgg0
 z0 := Tryz.sizeOf0
 v0 := Tryz.zeroValue0
 t3 := Tryz.underlying3
 a3 := Tryz.isAgg3
 z3 := Tryz.sizeOf3
 v3 := Tryz.zeroValue3
 t4 := Tryz.underlying4
 a4 := Tryz.isAgg4
 z4 := Tryz.sizeOf4
 v4 := Tryz.zeroValue4
 t5 := Tryz.underlying5
 a5 := Tryz.isAgg5
 z5 := Tryz.sizeOf5
 v5 := Tryz.zeroValue5
 t9 := Tryz.underlying9
 a9 := Tryz.isAgg9
 z9 := Tryz.sizeOf9
 v9 := Tryz.zeroValue9
 t21 := Tryz.underlying21
 a21 := Tryz.isAgg21
 z21 := Tryz.sizeOf21
 v21 := Tryz.zeroValue21
 t31 := Tryz.underlying22
 a31 := Tryz.isAgg22
 z31 := Tryz.sizeOf22
 v31 := Tryz.zeroValue22
 t46 := Tryz.underlying155
 a46 := Tryz.isAgg155
 z46 := Tryz.sizeOf155
 v46 := Tryz.zeroValue155
 t51 := Tryz.underlying245
 a51 := Tryz.isAgg245
 z51 := Tryz.sizeOf245
 v51 := Tryz.zeroValue245
 t105 := Tryz.underlying358
 a105 := Tryz.isAgg358
 z105 := Tryz.sizeOf358
 v105 := Tryz.zeroValue358
 t119 := Tryz.underlying363
 a119 := Tryz.isAgg363
 z119 := Tryz.sizeOf363
 t138 := Tryz.underlying365
 a138 := Tryz.isAgg365
 z138 := Tryz.sizeOf365
 v138 := Tryz.zeroValue365
 t139 := Tryz.underlying366
 a139 := Tryz.isAgg366
 z139 := Tryz.sizeOf366
 v139 := Tryz.zeroValue366
 t146 := Tryz.underlying246
 a146 := Tryz.isAgg246
 z146 := Tryz.sizeOf246
 v146 := Tryz.zeroValue246
 g1 := by kernel_rfl
 g3 := by kernel_rfl
 g4 := by kernel_rfl
 i0 := by kernel_rfl
 i3 := by kernel_rfl
 i4 := by kernel_rfl
 i5 := by kernel_rfl
 i9 := by kernel_rfl
 i21 := by kernel_rfl
 i31 := by kernel_rfl
 i46 := by kernel_rfl
 i51 := by kernel_rfl
 i105 := by kernel_rfl
 i138 := by kernel_rfl
 i139 := by kernel_rfl
 i146 := by kernel_rfl
 m1 := by kernel_rfl
 s1_3 := fun w h => Go.Proofs.cell_of_shapedOpen_int (zero := #[.int .i64 0]) (t := 3) h (of_decide_eq_true (by kernel_rfl)) (by kernel_rfl) rfl (by kernel_rfl) (by kernel_rfl) Tryz.underlying3
 m3 := by kernel_rfl
 m4 := by kernel_rfl }
open Go.RowKit Go.Lib in
open Go.RowKit Go.Lib in
open Go.RowKit Go.Lib in
open Go.RowKit Go.Lib in
open Go.RowKit Go.Lib in
open Go.RowKit Go.Lib in
open Go.RowKit Go.Lib in
def Tryz.lays212_ren : Go.Shelf.Ren := ⟨fun | 212 => 72 | 263 => 146 | 264 => 147 | n => n, fun | 46 => 155 | 51 => 245 | 146 => 246 | 53 => 92 | 148 => 248 | n => n, fun | n => n⟩
theorem Tryz.lays212 : Go.Proofs.Lays.n212 Tryz.prog Tryz.lays212_ren := {
 mixed := by kernel_rfl
 f212 := Tryz.func72.trans (congrArg some (by kernel_rfl))
 f263 := Tryz.func146.trans (congrArg some (by kernel_rfl))
 f264 := Tryz.func147.trans (congrArg some (by kernel_rfl))
 t46 := Tryz.underlying155
 a46 := Tryz.isAgg155
 z46 := Tryz.sizeOf155
 v46 := Tryz.zeroValue155
 t51 := Tryz.underlying245
 a51 := Tryz.isAgg245
 z51 := Tryz.sizeOf245
 v51 := Tryz.zeroValue245
 t53 := Tryz.underlying92
 a53 := Tryz.isAgg92
 z53 := Tryz.sizeOf92
 v53 := Tryz.zeroValue92
 t146 := Tryz.underlying246
 a146 := Tryz.isAgg246
 z146 := Tryz.sizeOf246
 v146 := Tryz.zeroValue246
 t148 := Tryz.underlying248
 a148 := Tryz.isAgg248
 z148 := Tryz.sizeOf248
 v148 := Tryz.zeroValue248 }
open Go.RowKit Go.Lib in
theorem Tryz.bits_Mul (x y : Nat) (hx : x < 18446744073709551616) (hy : y < 18446744073709551616) (w : World) :
 Calls Tryz.prog 72 #[.int .u64 x, .int .u64 y] w fun e w' => e = .returned (.tuple #[.int .u64 ((x * y / 18446744073709551616 : Nat) : Int), .int .u64 ((x * y % 18446744073709551616 : Nat) : Int)]) ∧ w' = w := Any.bits_Mul Tryz.lays212 x y hx hy w
def Tryz.lays105_ren : Go.Shelf.Ren := ⟨fun | 105 => 35 | 212 => 72 | 99 => 73 | 165 => 74 | 166 => 75 | 170 => 76 | 169 => 77 | 263 => 146 | 264 => 147 | 206 => 148 | 240 => 149 | 241 => 150 | 276 => 222 | 277 => 223 | n => n, fun | 9 => 9 | 3 => 3 | 4 => 4 | 20 => 20 | 0 => 0 | 46 => 155 | 109 => 156 | 5 => 5 | 72 => 161 | 76 => 164 | 51 => 245 | 146 => 246 | 53 => 92 | 148 => 248 | 70 => 159 | 37 => 93 | 75 => 163 | 127 => 250 | 164 => 296 | 80 => 166 | n => n, fun | n => n⟩
theorem Tryz.lays105 : Go.Proofs.Lays.n105 Tryz.prog Tryz.lays105_ren := {
 mixed := by kernel_rfl
 f99 := Tryz.func73.trans (congrArg some (by kernel_rfl))
 f105 := Tryz.func35.trans (congrArg some (by kernel_rfl))
 f165 := Tryz.func74.trans (congrArg some (by kernel_rfl))
 f166 := Tryz.func75.trans (congrArg some (by kernel_rfl))
 f169 := Tryz.func77.trans (congrArg some (by kernel_rfl))
 f170 := Tryz.func76.trans (congrArg some (by kernel_rfl))
 f206 := Tryz.func148.trans (congrArg some (by kernel_rfl))
 f212 := Tryz.func72.trans (congrArg some (by kernel_rfl))
 f240 := Tryz.func149.trans (congrArg some (by kernel_rfl))
 f241 := Tryz.func150.trans (congrArg some (by kernel_rfl))
 f263 := Tryz.func146.trans (congrArg some (by kernel_rfl))
 f264 := Tryz.func147.trans (congrArg some (by kernel_rfl))
 f276 := Tryz.func222.trans (congrArg some (by kernel_rfl))
 f277 := Tryz.func223.trans (congrArg some (by kernel_rfl))
 t0 := Tryz.underlying0
 a0 := Tryz.isAgg0
 z0 := Tryz.sizeOf0
 v0 := Tryz.zeroValue0
 t3 := Tryz.underlying3
 a3 := Tryz.isAgg3
 z3 := Tryz.sizeOf3
 v3 := Tryz.zeroValue3
 t4 := Tryz.underlying4
 a4 := Tryz.isAgg4
 z4 := Tryz.sizeOf4
 v4 := Tryz.zeroValue4
 t5 := Tryz.underlying5
 a5 := Tryz.isAgg5
 z5 := Tryz.sizeOf5
 v5 := Tryz.zeroValue5
 t9 := Tryz.underlying9
 a9 := Tryz.isAgg9
 z9 := Tryz.sizeOf9
 v9 := Tryz.zeroValue9
 t20 := Tryz.underlying20
 a20 := Tryz.isAgg20
 z20 := Tryz.sizeOf20
 v20 := Tryz.zeroValue20
 t37 := Tryz.underlying93
 a37 := Tryz.isAgg93
 z37 := Tryz.sizeOf93
 v37 := Tryz.zeroValue93
 t46 := Tryz.underlying155
 a46 := Tryz.isAgg155
 z46 := Tryz.sizeOf155
 v46 := Tryz.zeroValue155
 t51 := Tryz.underlying245
 a51 := Tryz.isAgg245
 z51 := Tryz.sizeOf245
 v51 := Tryz.zeroValue245
 t53 := Tryz.underlying92
 a53 := Tryz.isAgg92
 z53 := Tryz.sizeOf92
 v53 := Tryz.zeroValue92
 t70 := Tryz.underlying159
 a70 := Tryz.isAgg159
 z70 := Tryz.sizeOf159
 v70 := Tryz.zeroValue159
 t72 := Tryz.underlying161
 a72 := Tryz.isAgg161
 z72 := Tryz.sizeOf161
 v72 := Tryz.zeroValue161
 t75 := Tryz.underlying163
 a75 := Tryz.isAgg163
 z75 := Tryz.sizeOf163
 v75 := Tryz.zeroValue163
 t76 := Tryz.underlying164
 a76 := Tryz.isAgg164
 z76 := Tryz.sizeOf164
 v76 := Tryz.zeroValue164
 t109 := Tryz.underlying156
 a109 := Tryz.isAgg156
 z109 := Tryz.sizeOf156
 v109 := Tryz.zeroValue156
 t127 := Tryz.underlying250
 a127 := Tryz.isAgg250
 z127 := Tryz.sizeOf250
 v127 := Tryz.zeroValue250
 t146 := Tryz.underlying246
 a146 := Tryz.isAgg246
 z146 := Tryz.sizeOf246
 v146 := Tryz.zeroValue246
 t148 := Tryz.underlying248
 a148 := Tryz.isAgg248
 z148 := Tryz.sizeOf248
 v148 := Tryz.zeroValue248
 t164 := Tryz.underlying296
 a164 := Tryz.isAgg296
 z164 := Tryz.sizeOf296
 v164 := Tryz.zeroValue296 }
theorem Tryz.Builder_Extra_105 : Builder.Extra Tryz.prog Tryz.lays105_ren := {
 sizeBuilder := by kernel_rfl
 liesBuilder := by kernel_rfl
 t5 := Tryz.underlying5
 a5 := Tryz.isAgg5
 z5 := Tryz.sizeOf5
 v5 := Tryz.zeroValue5
 infoByte := by kernel_rfl
 cellsByte := by kernel_rfl
 sizeByte := by kernel_rfl
 neB5 := by decide }
open Go.RowKit Go.Lib in
open Go.RowKit Go.Lib in
open Go.RowKit Go.Lib in
open Go.RowKit Go.Lib in
open Go.RowKit Go.Lib in
open Go.RowKit Go.Lib in
open Go.RowKit Go.Lib in
theorem Tryz.strings_Repeat (s : ByteArray) (c : Nat) (w : World) (hc : c ≤ 9223372036854775807) (hlen : s.size * c ≤ 140737488355328) :
 Calls Tryz.prog 35 #[.string s, .int .i64 c] w fun e w' => e = .returned (.string ⟨(Lib.repeatL s.data.toList c).toArray⟩) ∧ Below w.heap.size w w' := Any.strings_Repeat Tryz.lays105 Tryz.Builder_Extra_105 s c w hc hlen
open Go.RowKit Go.Lib in
open Go.RowKit Go.Lib in
open Go.RowKit Go.Lib in
open Go.RowKit Go.Lib in
open Go.Lib in
open Go.Lib in
open Go.Lib in
open Go.Lib in
open Go.RowKit Go.Lib in
open Go.RowKit Go.Lib in
open Go.RowKit Go.Lib in
def Tryz.laysNm220_ren : Go.Shelf.Ren := ⟨fun | 20 => 111 | n => n, fun | 22 => 23 | 3 => 3 | 4 => 4 | 0 => 0 | n => n, fun | n => n⟩
theorem Tryz.laysNm220 : Go.Proofs.Lays2.n20 Tryz.prog Tryz.laysNm220_ren := {
 mixed := by kernel_rfl
 f20 := Tryz.func111.trans (congrArg some (by kernel_rfl))
 t0 := Tryz.underlying0
 a0 := Tryz.isAgg0
 z0 := Tryz.sizeOf0
 v0 := Tryz.zeroValue0
 t3 := Tryz.underlying3
 a3 := Tryz.isAgg3
 z3 := Tryz.sizeOf3
 v3 := Tryz.zeroValue3
 t4 := Tryz.underlying4
 a4 := Tryz.isAgg4
 z4 := Tryz.sizeOf4
 v4 := Tryz.zeroValue4
 t22 := Tryz.underlying23
 a22 := Tryz.isAgg23
 z22 := Tryz.sizeOf23
 v22 := Tryz.zeroValue23
 i3 := by kernel_rfl }
open Go.RowKit Go.Lib Go.Sort in
open Go.RowKit Go.Lib Go.Sort in
theorem Tryz.slices_Compact_int (blk off cap : Nat) (zs : List Int) (w : World) (hH : Holds (Value.int .i64) w blk off zs.toArray) (hsz : zs.length ≤ 9223372036854775807) (hcap : zs.length ≤ cap) :
 Calls Tryz.prog 111 #[.slice (some ⟨blk, off, none⟩) zs.length cap] w fun e w' => e = .returned (.slice (some ⟨blk, off, none⟩) (Lib.compact zs).length cap) ∧ ∃ q, w' = putRow (Value.int .i64) (Sort.ahead w q) blk off (Lib.compact zs ++ List.replicate (zs.length - (Lib.compact zs).length) 0).toArray := Any.slices_Compact_int Tryz.laysNm220 blk off cap zs w hH hsz hcap
open Go.RowKit Go.Lib Go.Sort in
theorem Tryz.slices_Compact_int_empty (a : Option Addr) (cap : Nat) (w : World) :
 Calls Tryz.prog 111 #[.slice a 0 cap] w fun e w' => e = .returned (.slice a 0 cap) ∧ w' = w := Any.slices_Compact_int_empty Tryz.laysNm220 a cap w
open Go.RowKit Go.Lib Go.Sort in
open Go.RowKit Go.Sort in
open Go.RowKit Go.Sort in
theorem Tryz.slices_Sort_int_none (p : Option Addr) (cap : Nat) (w : World) :
 Calls Tryz.prog 110 #[.slice p 0 cap] w fun e w' => e = .returned (.tuple #[]) ∧ w' = w := Any.slices_Sort_int_none Tryz.lays189 p cap w
end Go.Proofs
