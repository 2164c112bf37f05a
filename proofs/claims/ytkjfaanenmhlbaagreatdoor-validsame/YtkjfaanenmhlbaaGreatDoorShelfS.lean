/-
  THE LIBRARY'S FUNCTIONS at this dump (the layings out of the shelf's own tool, in its plain mode): slices.Grow.
-/
import Derived.Shelf.Spec.SlicesGrow
import Derived.Shelf.SlIter.Nil
import Derived.Shelf.LaysM
import Derived.Shelf.Strconv.Itoa3
import Derived.Shelf.Slices.Clone
import Derived.Shelf.Slices.CompactS
import Derived.Test.YtkjfaanenmhlbaaGreatDoorProg
namespace Go.Proofs
open Go.Shelf Go.RowKit Go.Sort
def Tryz.grow229_ren : Go.Shelf.Ren := ⟨fun | 4 => 311 | n => n, fun | 22 => 307 | 25 => 63 | 20 => 20 | 9 => 9 | 4 => 4 | 3 => 3 | 0 => 0 | n => n, fun | n => n⟩
theorem Tryz.grow229 : Go.Proofs.Lays8.n4 Tryz.prog Tryz.grow229_ren := {
  mixed := by kernel_rfl
  f4 := ⟨Tryz.f311.name, by decide, Tryz.func311.trans (congrArg some (by kernel_rfl))⟩
  t0 := Tryz.underlying0
  a0 := Tryz.isAgg0
  z0 := Tryz.sizeOf0
  v0 := Tryz.zeroValue0
  t3 := Tryz.underlying3
  a3 := Tryz.isAgg3
  z3 := Tryz.sizeOf3
  v3 := Tryz.zeroValue3
  t4 := Tryz.underlying4
  a4 := Tryz.isAgg4
  z4 := Tryz.sizeOf4
  v4 := Tryz.zeroValue4
  t9 := Tryz.underlying9
  a9 := Tryz.isAgg9
  z9 := Tryz.sizeOf9
  v9 := Tryz.zeroValue9
  t20 := Tryz.underlying20
  a20 := Tryz.isAgg20
  z20 := Tryz.sizeOf20
  v20 := Tryz.zeroValue20
  t22 := Tryz.underlying307
  a22 := Tryz.isAgg307
  z22 := Tryz.sizeOf307
  v22 := Tryz.zeroValue307 }
def Tryz.grow142_ren : Go.Shelf.Ren := ⟨fun | 4 => 237 | n => n, fun | 22 => 23 | 25 => 9 | 20 => 20 | 9 => 9 | 4 => 4 | 3 => 3 | 0 => 0 | n => n, fun | n => n⟩
theorem Tryz.grow142 : Go.Proofs.Lays8.n4 Tryz.prog Tryz.grow142_ren := {
  mixed := by kernel_rfl
  f4 := ⟨Tryz.f237.name, by decide, Tryz.func237.trans (congrArg some (by kernel_rfl))⟩
  t0 := Tryz.underlying0
  a0 := Tryz.isAgg0
  z0 := Tryz.sizeOf0
  v0 := Tryz.zeroValue0
  t3 := Tryz.underlying3
  a3 := Tryz.isAgg3
  z3 := Tryz.sizeOf3
  v3 := Tryz.zeroValue3
  t4 := Tryz.underlying4
  a4 := Tryz.isAgg4
  z4 := Tryz.sizeOf4
  v4 := Tryz.zeroValue4
  t9 := Tryz.underlying9
  a9 := Tryz.isAgg9
  z9 := Tryz.sizeOf9
  v9 := Tryz.zeroValue9
  t20 := Tryz.underlying20
  a20 := Tryz.isAgg20
  z20 := Tryz.sizeOf20
  v20 := Tryz.zeroValue20
  t22 := Tryz.underlying23
  a22 := Tryz.isAgg23
  z22 := Tryz.sizeOf23
  v22 := Tryz.zeroValue23 }
def Tryz.keys171_ren : Go.Shelf.Ren := ⟨fun | 7 => 267 | 10 => 288 | n => n, fun | 23 => 309 | 26 => 9 | 3 => 307 | 28 => 248 | 0 => 0 | 27 => 247 | 33 => 124 | 4 => 4 | n => n, fun | n => n⟩
theorem Tryz.keys171 : Go.Proofs.SlLaysZ.n7 Tryz.prog Tryz.keys171_ren := {
  mixed := by kernel_rfl
  f7 := ⟨Tryz.f267.name, by decide, Tryz.func267.trans (congrArg some (by kernel_rfl))⟩
  f10 := ⟨Tryz.f288.name, by decide, Tryz.func288.trans (congrArg some (by kernel_rfl))⟩
  t0 := Tryz.underlying0
  a0 := Tryz.isAgg0
  z0 := Tryz.sizeOf0
  v0 := Tryz.zeroValue0
  t4 := Tryz.underlying4
  a4 := Tryz.isAgg4
  z4 := Tryz.sizeOf4
  v4 := Tryz.zeroValue4
  t23 := Tryz.underlying309
  a23 := Tryz.isAgg309
  z23 := Tryz.sizeOf309
  v23 := Tryz.zeroValue309
  t26 := Tryz.underlying9
  a26 := Tryz.isAgg9
  z26 := Tryz.sizeOf9
  v26 := Tryz.zeroValue9
  t27 := Tryz.underlying247
  a27 := Tryz.isAgg247
  z27 := Tryz.sizeOf247
  v27 := Tryz.zeroValue247
  t28 := Tryz.underlying248
  a28 := Tryz.isAgg248
  z28 := Tryz.sizeOf248
  v28 := Tryz.zeroValue248
  t33 := Tryz.underlying124
  a33 := Tryz.isAgg124
  z33 := Tryz.sizeOf124
  v33 := Tryz.zeroValue124 }
def Tryz.laysM171_ren : Go.Shelf.Ren := ⟨fun | 171 => 229 | 243 => 266 | 246 => 287 | 283 => 307 | 284 => 308 | 285 => 309 | 286 => 310 | 129 => 210 | 317 => 320 | 318 => 321 | 319 => 322 | 320 => 323 | 337 => 324 | 338 => 325 | n => n, fun | 3 => 3 | 9 => 9 | 2 => 2 | 4 => 4 | 171 => 364 | 0 => 0 | 53 => 292 | 37 => 147 | 5 => 5 | 173 => 366 | 212 => 375 | 51 => 188 | 20 => 20 | 213 => 376 | 46 => 230 | 232 => 377 | 233 => 378 | n => n, fun | 17 => 3 | 18 => 4 | 19 => 5 | n => n⟩
theorem Tryz.laysM171 : Go.Proofs.LaysM.n171 Tryz.prog Tryz.laysM171_ren := {
  mixed := by kernel_rfl
  f129 := Tryz.func210.trans (congrArg some (by kernel_rfl))
  f171 := Tryz.func229.trans (congrArg some (by kernel_rfl))
  f243 := Tryz.func266.trans (congrArg some (by kernel_rfl))
  f246 := Tryz.func287.trans (congrArg some (by kernel_rfl))
  f283 := Tryz.func307.trans (congrArg some (by kernel_rfl))
  f284 := Tryz.func308.trans (congrArg some (by kernel_rfl))
  f285 := Tryz.func309.trans (congrArg some (by kernel_rfl))
  f286 := Tryz.func310.trans (congrArg some (by kernel_rfl))
  f317 := Tryz.func320.trans (congrArg some (by kernel_rfl))
  f318 := Tryz.func321.trans (congrArg some (by kernel_rfl))
  f319 := Tryz.func322.trans (congrArg some (by kernel_rfl))
  f320 := Tryz.func323.trans (congrArg some (by kernel_rfl))
  f337 := Tryz.func324.trans (congrArg some (by kernel_rfl))
  f338 := Tryz.func325.trans (congrArg some (by kernel_rfl))
  t0 := Tryz.underlying0
  a0 := Tryz.isAgg0
  z0 := Tryz.sizeOf0
  v0 := Tryz.zeroValue0
  t2 := Tryz.underlying2
  a2 := Tryz.isAgg2
  z2 := Tryz.sizeOf2
  v2 := Tryz.zeroValue2
  t3 := Tryz.underlying3
  a3 := Tryz.isAgg3
  z3 := Tryz.sizeOf3
  v3 := Tryz.zeroValue3
  t4 := Tryz.underlying4
  a4 := Tryz.isAgg4
  z4 := Tryz.sizeOf4
  v4 := Tryz.zeroValue4
  t5 := Tryz.underlying5
  a5 := Tryz.isAgg5
  z5 := Tryz.sizeOf5
  v5 := Tryz.zeroValue5
  t9 := Tryz.underlying9
  a9 := Tryz.isAgg9
  z9 := Tryz.sizeOf9
  v9 := Tryz.zeroValue9
  t20 := Tryz.underlying20
  a20 := Tryz.isAgg20
  z20 := Tryz.sizeOf20
  v20 := Tryz.zeroValue20
  t37 := Tryz.underlying147
  a37 := Tryz.isAgg147
  z37 := Tryz.sizeOf147
  v37 := Tryz.zeroValue147
  t46 := Tryz.underlying230
  a46 := Tryz.isAgg230
  z46 := Tryz.sizeOf230
  v46 := Tryz.zeroValue230
  t51 := Tryz.underlying188
  a51 := Tryz.isAgg188
  z51 := Tryz.sizeOf188
  v51 := Tryz.zeroValue188
  t53 := Tryz.underlying292
  a53 := Tryz.isAgg292
  z53 := Tryz.sizeOf292
  v53 := Tryz.zeroValue292
  t171 := Tryz.underlying364
  a171 := Tryz.isAgg364
  z171 := Tryz.sizeOf364
  v171 := Tryz.zeroValue364
  t173 := Tryz.underlying366
  a173 := Tryz.isAgg366
  z173 := Tryz.sizeOf366
  v173 := Tryz.zeroValue366
  t212 := Tryz.underlying375
  a212 := Tryz.isAgg375
  z212 := Tryz.sizeOf375
  v212 := Tryz.zeroValue375
  t213 := Tryz.underlying376
  a213 := Tryz.isAgg376
  z213 := Tryz.sizeOf376
  t232 := Tryz.underlying377
  a232 := Tryz.isAgg377
  z232 := Tryz.sizeOf377
  v232 := Tryz.zeroValue377
  t233 := Tryz.underlying378
  a233 := Tryz.isAgg378
  z233 := Tryz.sizeOf378
  v233 := Tryz.zeroValue378
  g17 := by kernel_rfl
  g18 := by kernel_rfl
  g19 := by kernel_rfl
  i0 := by kernel_rfl
  i2 := by kernel_rfl
  i3 := by kernel_rfl
  i4 := by kernel_rfl
  i5 := by kernel_rfl
  i9 := by kernel_rfl
  i20 := by kernel_rfl
  i37 := by kernel_rfl
  i46 := by kernel_rfl
  i51 := by kernel_rfl
  i53 := by kernel_rfl
  i171 := by kernel_rfl
  i173 := by kernel_rfl
  i212 := by kernel_rfl
  i232 := by kernel_rfl
  i233 := by kernel_rfl
  m17 := by kernel_rfl
  m18 := by kernel_rfl
  m19 := by kernel_rfl }
theorem Tryz.strconv_Itoa (n : Int) (h0 : -9223372036854775808 ≤ n) (h1 : n ≤ 9223372036854775807) (w : World) (htab : Lib.TabIs Tryz.prog w "internal/strconv.uint64pow10" .u64 Lib.pow10Tab) :
    Calls Tryz.prog 229 #[.int .i64 n] w fun e w' => e = .returned (.string ⟨(Lib.itoa n).toArray⟩) ∧ ∃ k os, w' = grow (w.drewN k) os := Any.strconv_Itoa Tryz.laysM171 n h0 h1 w htab
def Tryz.lays194_ren : Go.Shelf.Ren := ⟨fun | 194 => 182 | n => n, fun | 31 => 23 | 9 => 9 | 3 => 3 | 4 => 4 | 0 => 0 | n => n, fun | n => n⟩
theorem Tryz.lays194 : Go.Proofs.Lays.n194 Tryz.prog Tryz.lays194_ren := {
  mixed := by kernel_rfl
  f194 := Tryz.func182.trans (congrArg some (by kernel_rfl))
  t0 := Tryz.underlying0
  a0 := Tryz.isAgg0
  z0 := Tryz.sizeOf0
  v0 := Tryz.zeroValue0
  t3 := Tryz.underlying3
  a3 := Tryz.isAgg3
  z3 := Tryz.sizeOf3
  v3 := Tryz.zeroValue3
  t4 := Tryz.underlying4
  a4 := Tryz.isAgg4
  z4 := Tryz.sizeOf4
  v4 := Tryz.zeroValue4
  t9 := Tryz.underlying9
  a9 := Tryz.isAgg9
  z9 := Tryz.sizeOf9
  v9 := Tryz.zeroValue9
  t31 := Tryz.underlying23
  a31 := Tryz.isAgg23
  z31 := Tryz.sizeOf23
  v31 := Tryz.zeroValue23 }
theorem Tryz.slices_Compact_string (blk off cap : Nat) (zs : List (List UInt8)) (w : World) (hH : Holds encStr w blk off zs.toArray) (hsz : zs.length ≤ 9223372036854775807) (hcap : zs.length ≤ cap) :
    Calls Tryz.prog 182 #[.slice (some ⟨blk, off, none⟩) zs.length cap] w fun e w' => e = .returned (.slice (some ⟨blk, off, none⟩) (Lib.compact zs).length cap) ∧ ∃ q, w' = putRow encStr (Sort.ahead w q) blk off (Lib.compact zs ++ List.replicate (zs.length - (Lib.compact zs).length) []).toArray := Any.slices_Compact_string Tryz.lays194 blk off cap zs w hH hsz hcap
theorem Tryz.slices_Compact_string_empty (a : Option Addr) (cap : Nat) (w : World) :
    Calls Tryz.prog 182 #[.slice a 0 cap] w fun e w' => e = .returned (.slice a 0 cap) ∧ w' = w := Any.slices_Compact_string_empty Tryz.lays194 a cap w
end Go.Proofs
