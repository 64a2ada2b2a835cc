/-
  Contracts and plain laws of IterI.
  Conditions: each law states its own.
-/
import Derived.Shelf.SlIter.Nil
import Derived.Shelf.SortM.Plain
import Derived.Shelf.SortM.SortNone
import Derived.Ground.GgzProg
import Derived.Ground.SlgmProg
import Derived.Test.YtonnbkebjeoflaaGreatDoorProg
import Derived.Shelf.SlIterI.Nil
set_option linter.unusedSectionVars false
set_option linter.unusedSimpArgs false
set_option linter.unusedVariables false
namespace Go.Proofs
open Go.Shelf
def Tryz.keys235_ren : Go.Shelf.Ren := ⟨fun | 7 => 235 | 10 => 265 | n => n, fun | 23 => 102 | 26 => 9 | 3 => 167 | 28 => 310 | 0 => 0 | 27 => 309 | 33 => 91 | 4 => 4 | n => n, fun | n => n⟩
theorem Tryz.keys235 : Go.Proofs.SlLaysZ.n7 Tryz.prog Tryz.keys235_ren := {
 mixed := by kernel_rfl
 f7 := ⟨Tryz.f235.name, by decide, Tryz.func235.trans (congrArg some (by kernel_rfl))⟩
 f10 := ⟨Tryz.f265.name, by decide, Tryz.func265.trans (congrArg some (by kernel_rfl))⟩
 t0 := Tryz.underlying0
 a0 := Tryz.isAgg0
 z0 := Tryz.sizeOf0
 v0 := Tryz.zeroValue0
 t4 := Tryz.underlying4
 a4 := Tryz.isAgg4
 z4 := Tryz.sizeOf4
 v4 := Tryz.zeroValue4
 t23 := Tryz.underlying102
 a23 := Tryz.isAgg102
 z23 := Tryz.sizeOf102
 v23 := Tryz.zeroValue102
 t26 := Tryz.underlying9
 a26 := Tryz.isAgg9
 z26 := Tryz.sizeOf9
 v26 := Tryz.zeroValue9
 t27 := Tryz.underlying309
 a27 := Tryz.isAgg309
 z27 := Tryz.sizeOf309
 v27 := Tryz.zeroValue309
 t28 := Tryz.underlying310
 a28 := Tryz.isAgg310
 z28 := Tryz.sizeOf310
 v28 := Tryz.zeroValue310
 t33 := Tryz.underlying91
 a33 := Tryz.isAgg91
 z33 := Tryz.sizeOf91
 v33 := Tryz.zeroValue91 }
def Tryz.sorted234_ren : Go.Shelf.Ren := ⟨fun | 6 => 234 | 8 => 264 | 9 => 239 | 11 => 283 | 13 => 181 | 12 => 269 | 23 => 251 | 24 => 218 | 14 => 285 | 15 => 286 | 16 => 287 | 17 => 288 | 18 => 289 | 19 => 290 | 20 => 291 | 21 => 292 | 22 => 293 | 25 => 302 | 26 => 271 | 27 => 272 | 28 => 303 | 29 => 304 | 30 => 305 | 31 => 311 | n => n, fun | 26 => 9 | 28 => 310 | 24 => 22 | 0 => 0 | 3 => 3 | 37 => 155 | 48 => 245 | 50 => 92 | 4 => 4 | 40 => 318 | 39 => 317 | 45 => 323 | 5 => 5 | 9 => 9 | 51 => 336 | 55 => 254 | 57 => 353 | 58 => 354 | 33 => 91 | n => n, fun | n => n⟩
theorem Tryz.sorted234 : Go.Proofs.SlLaysZ.n6 Tryz.prog Tryz.sorted234_ren := {
 mixed := by kernel_rfl
 f6 := ⟨Tryz.f234.name, by decide, Tryz.func234.trans (congrArg some (by kernel_rfl))⟩
 f8 := ⟨Tryz.f264.name, by decide, Tryz.func264.trans (congrArg some (by kernel_rfl))⟩
 f11 := ⟨Tryz.f283.name, by decide, Tryz.func283.trans (congrArg some (by kernel_rfl))⟩
 t0 := Tryz.underlying0
 a0 := Tryz.isAgg0
 z0 := Tryz.sizeOf0
 v0 := Tryz.zeroValue0
 t24 := Tryz.underlying22
 a24 := Tryz.isAgg22
 z24 := Tryz.sizeOf22
 v24 := Tryz.zeroValue22
 t26 := Tryz.underlying9
 a26 := Tryz.isAgg9
 z26 := Tryz.sizeOf9
 v26 := Tryz.zeroValue9
 t28 := Tryz.underlying310
 a28 := Tryz.isAgg310
 z28 := Tryz.sizeOf310
 v28 := Tryz.zeroValue310
 i26 := by kernel_rfl }
def Tryz.sort239_ren : Go.Shelf.Ren := ⟨fun | 6 => 239 | 8 => 181 | 9 => 269 | 19 => 251 | 20 => 218 | 21 => 285 | 22 => 286 | 23 => 287 | 24 => 288 | 25 => 289 | 26 => 290 | 27 => 291 | 28 => 292 | 29 => 293 | 36 => 302 | 31 => 271 | 32 => 272 | 37 => 303 | 38 => 304 | 39 => 305 | 41 => 311 | n => n, fun | 27 => 22 | 29 => 9 | 3 => 3 | 32 => 155 | 26 => 22 | 0 => 0 | 44 => 245 | 46 => 92 | 4 => 4 | 36 => 318 | 35 => 317 | 41 => 323 | 5 => 5 | 9 => 9 | 53 => 336 | 57 => 254 | 63 => 353 | 64 => 354 | n => n, fun | n => n⟩
theorem Tryz.sort239 : Go.Proofs.SlLaysM.n6 Tryz.prog Tryz.sort239_ren := {
 mixed := by kernel_rfl
 f6 := ⟨Tryz.f239.name, by decide, Tryz.func239.trans (congrArg some (by kernel_rfl))⟩
 f8 := Tryz.func181.trans (congrArg some (by kernel_rfl))
 f9 := ⟨Tryz.f269.name, by decide, Tryz.func269.trans (congrArg some (by kernel_rfl))⟩
 f19 := Tryz.func251.trans (congrArg some (by kernel_rfl))
 f20 := Tryz.func218.trans (congrArg some (by kernel_rfl))
 f21 := ⟨Tryz.f285.name, by decide, Tryz.func285.trans (congrArg some (by kernel_rfl))⟩
 f22 := ⟨Tryz.f286.name, by decide, Tryz.func286.trans (congrArg some (by kernel_rfl))⟩
 f23 := ⟨Tryz.f287.name, by decide, Tryz.func287.trans (congrArg some (by kernel_rfl))⟩
 f24 := ⟨Tryz.f288.name, by decide, Tryz.func288.trans (congrArg some (by kernel_rfl))⟩
 f25 := ⟨Tryz.f289.name, by decide, Tryz.func289.trans (congrArg some (by kernel_rfl))⟩
 f26 := ⟨Tryz.f290.name, by decide, Tryz.func290.trans (congrArg some (by kernel_rfl))⟩
 f27 := ⟨Tryz.f291.name, by decide, Tryz.func291.trans (congrArg some (by kernel_rfl))⟩
 f28 := ⟨Tryz.f292.name, by decide, Tryz.func292.trans (congrArg some (by kernel_rfl))⟩
 f29 := ⟨Tryz.f293.name, by decide, Tryz.func293.trans (congrArg some (by kernel_rfl))⟩
 f31 := Tryz.func271.trans (congrArg some (by kernel_rfl))
 f32 := Tryz.func272.trans (congrArg some (by kernel_rfl))
 f36 := ⟨Tryz.f302.name, by decide, Tryz.func302.trans (congrArg some (by kernel_rfl))⟩
 f37 := ⟨Tryz.f303.name, by decide, Tryz.func303.trans (congrArg some (by kernel_rfl))⟩
 f38 := ⟨Tryz.f304.name, by decide, Tryz.func304.trans (congrArg some (by kernel_rfl))⟩
 f39 := ⟨Tryz.f305.name, by decide, Tryz.func305.trans (congrArg some (by kernel_rfl))⟩
 f41 := ⟨Tryz.f311.name, by decide, Tryz.func311.trans (congrArg some (by kernel_rfl))⟩
 t0 := Tryz.underlying0
 a0 := Tryz.isAgg0
 z0 := Tryz.sizeOf0
 v0 := Tryz.zeroValue0
 t3 := Tryz.underlying3
 a3 := Tryz.isAgg3
 z3 := Tryz.sizeOf3
 v3 := Tryz.zeroValue3
 t4 := Tryz.underlying4
 a4 := Tryz.isAgg4
 z4 := Tryz.sizeOf4
 v4 := Tryz.zeroValue4
 t5 := Tryz.underlying5
 a5 := Tryz.isAgg5
 z5 := Tryz.sizeOf5
 v5 := Tryz.zeroValue5
 t9 := Tryz.underlying9
 a9 := Tryz.isAgg9
 z9 := Tryz.sizeOf9
 v9 := Tryz.zeroValue9
 t26 := Tryz.underlying22
 a26 := Tryz.isAgg22
 z26 := Tryz.sizeOf22
 v26 := Tryz.zeroValue22
 t27 := Tryz.underlying22
 a27 := Tryz.isAgg22
 z27 := Tryz.sizeOf22
 v27 := Tryz.zeroValue22
 t29 := Tryz.underlying9
 a29 := Tryz.isAgg9
 z29 := Tryz.sizeOf9
 v29 := Tryz.zeroValue9
 t32 := Tryz.underlying155
 a32 := Tryz.isAgg155
 z32 := Tryz.sizeOf155
 v32 := Tryz.zeroValue155
 t35 := Tryz.underlying317
 a35 := Tryz.isAgg317
 z35 := Tryz.sizeOf317
 v35 := Tryz.zeroValue317
 t36 := Tryz.underlying318
 a36 := Tryz.isAgg318
 z36 := Tryz.sizeOf318
 v36 := Tryz.zeroValue318
 t41 := Tryz.underlying323
 a41 := Tryz.isAgg323
 z41 := Tryz.sizeOf323
 v41 := Tryz.zeroValue323
 t44 := Tryz.underlying245
 a44 := Tryz.isAgg245
 z44 := Tryz.sizeOf245
 v44 := Tryz.zeroValue245
 t46 := Tryz.underlying92
 a46 := Tryz.isAgg92
 z46 := Tryz.sizeOf92
 v46 := Tryz.zeroValue92
 t53 := Tryz.underlying336
 a53 := Tryz.isAgg336
 z53 := Tryz.sizeOf336
 v53 := Tryz.zeroValue336
 t57 := Tryz.underlying254
 a57 := Tryz.isAgg254
 z57 := Tryz.sizeOf254
 v57 := Tryz.zeroValue254
 t63 := Tryz.underlying353
 a63 := Tryz.isAgg353
 z63 := Tryz.sizeOf353
 v63 := Tryz.zeroValue353
 t64 := Tryz.underlying354
 a64 := Tryz.isAgg354
 z64 := Tryz.sizeOf354
 v64 := Tryz.zeroValue354 }
def Tryz.keysI_ren : Go.Shelf.Ren := ⟨fun | 7 => 104 | 10 => 177 | n => n, fun | 23 => 103 | 26 => 3 | 3 => 107 | 28 => 198 | 0 => 0 | 27 => 197 | 33 => 64 | 4 => 4 | n => n, fun | n => n⟩
theorem Tryz.keysI : Go.Proofs.SlLaysZI.n7 Tryz.prog Tryz.keysI_ren := {
 mixed := by kernel_rfl
 f7 := ⟨Tryz.f104.name, by decide, Tryz.func104.trans (congrArg some (by kernel_rfl))⟩
 f10 := ⟨Tryz.f177.name, by decide, Tryz.func177.trans (congrArg some (by kernel_rfl))⟩
 t0 := Tryz.underlying0
 a0 := Tryz.isAgg0
 z0 := Tryz.sizeOf0
 v0 := Tryz.zeroValue0
 t4 := Tryz.underlying4
 a4 := Tryz.isAgg4
 z4 := Tryz.sizeOf4
 v4 := Tryz.zeroValue4
 t23 := Tryz.underlying103
 a23 := Tryz.isAgg103
 z23 := Tryz.sizeOf103
 v23 := Tryz.zeroValue103
 t26 := Tryz.underlying3
 a26 := Tryz.isAgg3
 z26 := Tryz.sizeOf3
 v26 := Tryz.zeroValue3
 t27 := Tryz.underlying197
 a27 := Tryz.isAgg197
 z27 := Tryz.sizeOf197
 v27 := Tryz.zeroValue197
 t28 := Tryz.underlying198
 a28 := Tryz.isAgg198
 z28 := Tryz.sizeOf198
 v28 := Tryz.zeroValue198
 t33 := Tryz.underlying64
 a33 := Tryz.isAgg64
 z33 := Tryz.sizeOf64
 v33 := Tryz.zeroValue64 }
def Tryz.sortedI_ren : Go.Shelf.Ren := ⟨fun | 6 => 103 | 8 => 176 | 9 => 110 | 11 => 241 | 13 => 181 | 12 => 180 | 23 => 251 | 24 => 218 | 14 => 242 | 15 => 243 | 16 => 244 | 17 => 245 | 18 => 246 | 19 => 247 | 20 => 248 | 21 => 249 | 22 => 250 | 25 => 270 | 26 => 271 | 27 => 272 | 28 => 273 | 29 => 274 | 30 => 275 | 31 => 294 | n => n, fun | 26 => 3 | 28 => 198 | 24 => 23 | 0 => 0 | 3 => 3 | 37 => 155 | 48 => 245 | 50 => 92 | 4 => 4 | 40 => 318 | 39 => 317 | 45 => 323 | 5 => 5 | 9 => 9 | 51 => 336 | 55 => 254 | 57 => 353 | 58 => 354 | 33 => 64 | n => n, fun | n => n⟩
theorem Tryz.sortedI : Go.Proofs.SlLaysZI.n6 Tryz.prog Tryz.sortedI_ren := {
 mixed := by kernel_rfl
 f6 := ⟨Tryz.f103.name, by decide, Tryz.func103.trans (congrArg some (by kernel_rfl))⟩
 f8 := ⟨Tryz.f176.name, by decide, Tryz.func176.trans (congrArg some (by kernel_rfl))⟩
 f11 := ⟨Tryz.f241.name, by decide, Tryz.func241.trans (congrArg some (by kernel_rfl))⟩
 t0 := Tryz.underlying0
 a0 := Tryz.isAgg0
 z0 := Tryz.sizeOf0
 v0 := Tryz.zeroValue0
 t24 := Tryz.underlying23
 a24 := Tryz.isAgg23
 z24 := Tryz.sizeOf23
 v24 := Tryz.zeroValue23
 t26 := Tryz.underlying3
 a26 := Tryz.isAgg3
 z26 := Tryz.sizeOf3
 v26 := Tryz.zeroValue3
 t28 := Tryz.underlying198
 a28 := Tryz.isAgg198
 z28 := Tryz.sizeOf198
 v28 := Tryz.zeroValue198
 i26 := by kernel_rfl }
def Tryz.sortI_ren : Go.Shelf.Ren := ⟨fun | 5 => 110 | 8 => 181 | 7 => 180 | 19 => 251 | 20 => 218 | 10 => 242 | 11 => 243 | 12 => 244 | 13 => 245 | 14 => 246 | 15 => 247 | 16 => 248 | 17 => 249 | 18 => 250 | 30 => 270 | 31 => 271 | 32 => 272 | 33 => 273 | 34 => 274 | 35 => 275 | 40 => 294 | n => n, fun | 23 => 23 | 25 => 3 | 3 => 3 | 32 => 155 | 22 => 23 | 0 => 0 | 44 => 245 | 46 => 92 | 4 => 4 | 36 => 318 | 35 => 317 | 41 => 323 | 5 => 5 | 9 => 9 | 53 => 336 | 57 => 254 | 63 => 353 | 64 => 354 | n => n, fun | n => n⟩
theorem Tryz.sortI : Go.Proofs.SlLaysM.n5 Tryz.prog Tryz.sortI_ren := {
 mixed := by kernel_rfl
 f5 := ⟨Tryz.f110.name, by decide, Tryz.func110.trans (congrArg some (by kernel_rfl))⟩
 f7 := ⟨Tryz.f180.name, by decide, Tryz.func180.trans (congrArg some (by kernel_rfl))⟩
 f8 := Tryz.func181.trans (congrArg some (by kernel_rfl))
 f10 := ⟨Tryz.f242.name, by decide, Tryz.func242.trans (congrArg some (by kernel_rfl))⟩
 f11 := ⟨Tryz.f243.name, by decide, Tryz.func243.trans (congrArg some (by kernel_rfl))⟩
 f12 := ⟨Tryz.f244.name, by decide, Tryz.func244.trans (congrArg some (by kernel_rfl))⟩
 f13 := ⟨Tryz.f245.name, by decide, Tryz.func245.trans (congrArg some (by kernel_rfl))⟩
 f14 := ⟨Tryz.f246.name, by decide, Tryz.func246.trans (congrArg some (by kernel_rfl))⟩
 f15 := ⟨Tryz.f247.name, by decide, Tryz.func247.trans (congrArg some (by kernel_rfl))⟩
 f16 := ⟨Tryz.f248.name, by decide, Tryz.func248.trans (congrArg some (by kernel_rfl))⟩
 f17 := ⟨Tryz.f249.name, by decide, Tryz.func249.trans (congrArg some (by kernel_rfl))⟩
 f18 := ⟨Tryz.f250.name, by decide, Tryz.func250.trans (congrArg some (by kernel_rfl))⟩
 f19 := Tryz.func251.trans (congrArg some (by kernel_rfl))
 f20 := Tryz.func218.trans (congrArg some (by kernel_rfl))
 f30 := ⟨Tryz.f270.name, by decide, Tryz.func270.trans (congrArg some (by kernel_rfl))⟩
 f31 := Tryz.func271.trans (congrArg some (by kernel_rfl))
 f32 := Tryz.func272.trans (congrArg some (by kernel_rfl))
 f33 := ⟨Tryz.f273.name, by decide, Tryz.func273.trans (congrArg some (by kernel_rfl))⟩
 f34 := ⟨Tryz.f274.name, by decide, Tryz.func274.trans (congrArg some (by kernel_rfl))⟩
 f35 := ⟨Tryz.f275.name, by decide, Tryz.func275.trans (congrArg some (by kernel_rfl))⟩
 f40 := ⟨Tryz.f294.name, by decide, Tryz.func294.trans (congrArg some (by kernel_rfl))⟩
 t0 := Tryz.underlying0
 a0 := Tryz.isAgg0
 z0 := Tryz.sizeOf0
 v0 := Tryz.zeroValue0
 t3 := Tryz.underlying3
 a3 := Tryz.isAgg3
 z3 := Tryz.sizeOf3
 v3 := Tryz.zeroValue3
 t4 := Tryz.underlying4
 a4 := Tryz.isAgg4
 z4 := Tryz.sizeOf4
 v4 := Tryz.zeroValue4
 t5 := Tryz.underlying5
 a5 := Tryz.isAgg5
 z5 := Tryz.sizeOf5
 v5 := Tryz.zeroValue5
 t9 := Tryz.underlying9
 a9 := Tryz.isAgg9
 z9 := Tryz.sizeOf9
 v9 := Tryz.zeroValue9
 t22 := Tryz.underlying23
 a22 := Tryz.isAgg23
 z22 := Tryz.sizeOf23
 v22 := Tryz.zeroValue23
 t23 := Tryz.underlying23
 a23 := Tryz.isAgg23
 z23 := Tryz.sizeOf23
 v23 := Tryz.zeroValue23
 t25 := Tryz.underlying3
 a25 := Tryz.isAgg3
 z25 := Tryz.sizeOf3
 v25 := Tryz.zeroValue3
 t32 := Tryz.underlying155
 a32 := Tryz.isAgg155
 z32 := Tryz.sizeOf155
 v32 := Tryz.zeroValue155
 t35 := Tryz.underlying317
 a35 := Tryz.isAgg317
 z35 := Tryz.sizeOf317
 v35 := Tryz.zeroValue317
 t36 := Tryz.underlying318
 a36 := Tryz.isAgg318
 z36 := Tryz.sizeOf318
 v36 := Tryz.zeroValue318
 t41 := Tryz.underlying323
 a41 := Tryz.isAgg323
 z41 := Tryz.sizeOf323
 v41 := Tryz.zeroValue323
 t44 := Tryz.underlying245
 a44 := Tryz.isAgg245
 z44 := Tryz.sizeOf245
 v44 := Tryz.zeroValue245
 t46 := Tryz.underlying92
 a46 := Tryz.isAgg92
 z46 := Tryz.sizeOf92
 v46 := Tryz.zeroValue92
 t53 := Tryz.underlying336
 a53 := Tryz.isAgg336
 z53 := Tryz.sizeOf336
 v53 := Tryz.zeroValue336
 t57 := Tryz.underlying254
 a57 := Tryz.isAgg254
 z57 := Tryz.sizeOf254
 v57 := Tryz.zeroValue254
 t63 := Tryz.underlying353
 a63 := Tryz.isAgg353
 z63 := Tryz.sizeOf353
 v63 := Tryz.zeroValue353
 t64 := Tryz.underlying354
 a64 := Tryz.isAgg354
 z64 := Tryz.sizeOf354
 v64 := Tryz.zeroValue354 }
end Go.Proofs
namespace Go.Proofs
open Go.RowKit Go.Maps Go.Sort Go.Shelf
theorem Tryz.sorts234 (m : Nat) : AnyZ.SortsIn Tryz.prog Tryz.sorted234_ren Fence.wide m :=
 ⟨fun blk off cap ss W hH hblk hsz => callsIn_wide.2 (AnyM.slices_Sort_string Tryz.sort239 blk off cap ss W hH hblk hsz),
  fun p cap W => callsIn_wide.2 (AnyM.slices_Sort_string_none Tryz.sort239 p cap W)⟩
theorem Tryz.maps_Keys_235 (mb : Option Nat) (W : World) : CallsIn Fence.wide 5 Tryz.prog 235 #[.map mb] W fun e w' => e = .returned (.func (.func 265) #[] #[.pointer (some ⟨W.heap.size, 0, none⟩)]) ∧ w' = W.alloc (.cells #[.map mb] 102) :=
 AnyZ.keys_in Tryz.keys235 Fence.wide 5 trivial rfl mb W
set_option maxHeartbeats 1000000 in
theorem Tryz.slices_Sorted_keys_234_235 {H : Type} (b nn : Nat) (D0 : DataW H) (R : Value → Option (DataW H × List MemPlace)) (w : World) (hown : w.ownsMap Tryz.prog 9 R b nn D0) (hmax : Maps.size D0 ≤ maxLen) (hbytes : Maps.size D0 * 16 ≤ 140737488355328) :
 CallsIn Fence.wide 5 Tryz.prog 234 #[.func (.func 265) #[] #[.pointer (some ⟨w.heap.size, 0, none⟩)]] (w.alloc (.cells #[.map (some b)] 102)) fun e w' => ∃ (v : Value) (ss : List (List UInt8)), e = .returned v ∧ ss.Perm (strKeys D0) ∧
  w'.ownsRow (w.alloc (.cells #[.map (some b)] 102)).heap.size 9 1 v ss.length ((ss.mergeSort (fun x y => decide (x ≤ y))).map encStr) ∧ (v = .slice none 0 0 ↔ ss = []) ∧ Below (w.alloc (.cells #[.map (some b)] 102)).heap.size (w.alloc (.cells #[.map (some b)] 102)) w' := by
 have hbl := hown.lt
 have hseq : SeqGives Fence.wide 2 Tryz.prog 265 #[.pointer (some ⟨w.heap.size, 0, none⟩)] encStr (fun ss => ss.Perm (strKeys D0)) (Maps.size D0) (w.alloc (.cells #[.map (some b)] 102)) :=
  AnyZ.keys_gives (ρ := Tryz.keys235_ren) { Tryz.keys235 with } Fence.wide _ trivial rfl (by omega) w.heap.size b nn D0 _ (by simp) (by simp) (by
   obtain ⟨es, clock, hb, Ft, hs, hD⟩ := hown
   exact ⟨es, clock, (Below.heap_alloc _ _ b hbl).trans hb, Ft, hs, hD⟩)
 exact AnyZ.sorted_in Tryz.sorted234 Fence.wide 5 trivial trivial trivial trivial rfl (by omega) (Tryz.sorts234 _) (enters_of Tryz.func239 (by kernel_rfl) rfl) 265 #[.pointer (some ⟨w.heap.size, 0, none⟩)] trivial (enters_of Tryz.func265 (by kernel_rfl) rfl) _ _ hmax hbytes _ hseq
set_option maxHeartbeats 1000000 in
theorem Tryz.slices_Sorted_keys_nil_234_235 (w : World) :
 CallsIn Fence.wide 5 Tryz.prog 234 #[.func (.func 265) #[] #[.pointer (some ⟨w.heap.size, 0, none⟩)]] (w.alloc (.cells #[.map none] 102)) fun e w' => ∃ (v : Value) (ss : List (List UInt8)), e = .returned v ∧ ss = [] ∧
  w'.ownsRow (w.alloc (.cells #[.map none] 102)).heap.size 9 1 v ss.length ((ss.mergeSort (fun x y => decide (x ≤ y))).map encStr) ∧ (v = .slice none 0 0 ↔ ss = []) ∧ Below (w.alloc (.cells #[.map none] 102)).heap.size (w.alloc (.cells #[.map none] 102)) w' := by
 have hseq : SeqGives Fence.wide 2 Tryz.prog 265 #[.pointer (some ⟨w.heap.size, 0, none⟩)] encStr (fun ss : List (List UInt8) => ss = []) 0 (w.alloc (.cells #[.map none] 102)) :=
  AnyZ.keys_gives_nil (ρ := Tryz.keys235_ren) { Tryz.keys235 with } Fence.wide _ trivial rfl w.heap.size _ (by simp) (by simp)
 exact AnyZ.sorted_in Tryz.sorted234 Fence.wide 5 trivial trivial trivial trivial rfl (by omega) (Tryz.sorts234 _) (enters_of Tryz.func239 (by kernel_rfl) rfl) 265 #[.pointer (some ⟨w.heap.size, 0, none⟩)] trivial (enters_of Tryz.func265 (by kernel_rfl) rfl) _ 0 (Nat.zero_le _) (by omega) _ hseq
end Go.Proofs
namespace Go.Proofs
open Go.RowKit Go.Maps Go.Sort Go.Shelf
end Go.Proofs
