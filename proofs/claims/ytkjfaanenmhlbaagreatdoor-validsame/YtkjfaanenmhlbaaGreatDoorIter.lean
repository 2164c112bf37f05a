/-
  THE LIBRARY'S slices.Sorted(maps.Keys(m)) at this dump (the layings out of the shelf's own tool, in its plain mode).
-/
import Derived.Shelf.SlIter.Nil
import Derived.Shelf.SortM.Plain
import Derived.Shelf.SortM.SortNone
import Derived.Ground.GgzProg
import Derived.Ground.SlgmProg
import Derived.Test.YtkjfaanenmhlbaaGreatDoorProg
namespace Go.Proofs
open Go.Shelf
def Tryz.keys49_ren : Go.Shelf.Ren := ⟨fun | 7 => 173 | 10 => 225 | n => n, fun | 23 => 244 | 26 => 9 | 3 => 3 | 28 => 248 | 0 => 0 | 27 => 247 | 33 => 124 | 4 => 4 | n => n, fun | n => n⟩
theorem Tryz.keys49 : Go.Proofs.SlLaysZ.n7 Tryz.prog Tryz.keys49_ren := {
  mixed := by kernel_rfl
  f7 := ⟨Tryz.f173.name, by decide, Tryz.func173.trans (congrArg some (by kernel_rfl))⟩
  f10 := ⟨Tryz.f225.name, by decide, Tryz.func225.trans (congrArg some (by kernel_rfl))⟩
  t0 := Tryz.underlying0
  a0 := Tryz.isAgg0
  z0 := Tryz.sizeOf0
  v0 := Tryz.zeroValue0
  t4 := Tryz.underlying4
  a4 := Tryz.isAgg4
  z4 := Tryz.sizeOf4
  v4 := Tryz.zeroValue4
  t23 := Tryz.underlying244
  a23 := Tryz.isAgg244
  z23 := Tryz.sizeOf244
  v23 := Tryz.zeroValue244
  t26 := Tryz.underlying9
  a26 := Tryz.isAgg9
  z26 := Tryz.sizeOf9
  v26 := Tryz.zeroValue9
  t27 := Tryz.underlying247
  a27 := Tryz.isAgg247
  z27 := Tryz.sizeOf247
  v27 := Tryz.zeroValue247
  t28 := Tryz.underlying248
  a28 := Tryz.isAgg248
  z28 := Tryz.sizeOf248
  v28 := Tryz.zeroValue248
  t33 := Tryz.underlying124
  a33 := Tryz.isAgg124
  z33 := Tryz.sizeOf124
  v33 := Tryz.zeroValue124 }
def Tryz.sorted48_ren : Go.Shelf.Ren := ⟨fun | 6 => 172 | 8 => 224 | 9 => 139 | 11 => 261 | 13 => 148 | 12 => 198 | 23 => 209 | 24 => 210 | 14 => 244 | 15 => 245 | 16 => 246 | 17 => 247 | 18 => 248 | 19 => 249 | 20 => 250 | 21 => 251 | 22 => 252 | 25 => 277 | 26 => 254 | 27 => 255 | 28 => 278 | 29 => 279 | 30 => 149 | 31 => 296 | n => n, fun | 26 => 9 | 28 => 248 | 24 => 23 | 0 => 0 | 3 => 3 | 37 => 230 | 48 => 188 | 50 => 292 | 4 => 4 | 40 => 284 | 39 => 283 | 45 => 288 | 5 => 5 | 9 => 9 | 51 => 324 | 55 => 328 | 57 => 343 | 58 => 344 | 33 => 124 | n => n, fun | n => n⟩
theorem Tryz.sorted48 : Go.Proofs.SlLaysZ.n6 Tryz.prog Tryz.sorted48_ren := {
  mixed := by kernel_rfl
  f6 := ⟨Tryz.f172.name, by decide, Tryz.func172.trans (congrArg some (by kernel_rfl))⟩
  f8 := ⟨Tryz.f224.name, by decide, Tryz.func224.trans (congrArg some (by kernel_rfl))⟩
  f11 := ⟨Tryz.f261.name, by decide, Tryz.func261.trans (congrArg some (by kernel_rfl))⟩
  t0 := Tryz.underlying0
  a0 := Tryz.isAgg0
  z0 := Tryz.sizeOf0
  v0 := Tryz.zeroValue0
  t24 := Tryz.underlying23
  a24 := Tryz.isAgg23
  z24 := Tryz.sizeOf23
  v24 := Tryz.zeroValue23
  t26 := Tryz.underlying9
  a26 := Tryz.isAgg9
  z26 := Tryz.sizeOf9
  v26 := Tryz.zeroValue9
  t28 := Tryz.underlying248
  a28 := Tryz.isAgg248
  z28 := Tryz.sizeOf248
  v28 := Tryz.zeroValue248
  i26 := by kernel_rfl }
def Tryz.sort73_ren : Go.Shelf.Ren := ⟨fun | 6 => 139 | 8 => 148 | 9 => 198 | 19 => 209 | 20 => 210 | 21 => 244 | 22 => 245 | 23 => 246 | 24 => 247 | 25 => 248 | 26 => 249 | 27 => 250 | 28 => 251 | 29 => 252 | 36 => 277 | 31 => 254 | 32 => 255 | 37 => 278 | 38 => 279 | 39 => 149 | 41 => 296 | n => n, fun | 27 => 23 | 29 => 9 | 3 => 3 | 32 => 230 | 26 => 23 | 0 => 0 | 44 => 188 | 46 => 292 | 4 => 4 | 36 => 284 | 35 => 283 | 41 => 288 | 5 => 5 | 9 => 9 | 53 => 324 | 57 => 328 | 63 => 343 | 64 => 344 | n => n, fun | n => n⟩
theorem Tryz.sort73 : Go.Proofs.SlLaysM.n6 Tryz.prog Tryz.sort73_ren := {
  mixed := by kernel_rfl
  f6 := ⟨Tryz.f139.name, by decide, Tryz.func139.trans (congrArg some (by kernel_rfl))⟩
  f8 := Tryz.func148.trans (congrArg some (by kernel_rfl))
  f9 := ⟨Tryz.f198.name, by decide, Tryz.func198.trans (congrArg some (by kernel_rfl))⟩
  f19 := Tryz.func209.trans (congrArg some (by kernel_rfl))
  f20 := Tryz.func210.trans (congrArg some (by kernel_rfl))
  f21 := ⟨Tryz.f244.name, by decide, Tryz.func244.trans (congrArg some (by kernel_rfl))⟩
  f22 := ⟨Tryz.f245.name, by decide, Tryz.func245.trans (congrArg some (by kernel_rfl))⟩
  f23 := ⟨Tryz.f246.name, by decide, Tryz.func246.trans (congrArg some (by kernel_rfl))⟩
  f24 := ⟨Tryz.f247.name, by decide, Tryz.func247.trans (congrArg some (by kernel_rfl))⟩
  f25 := ⟨Tryz.f248.name, by decide, Tryz.func248.trans (congrArg some (by kernel_rfl))⟩
  f26 := ⟨Tryz.f249.name, by decide, Tryz.func249.trans (congrArg some (by kernel_rfl))⟩
  f27 := ⟨Tryz.f250.name, by decide, Tryz.func250.trans (congrArg some (by kernel_rfl))⟩
  f28 := ⟨Tryz.f251.name, by decide, Tryz.func251.trans (congrArg some (by kernel_rfl))⟩
  f29 := ⟨Tryz.f252.name, by decide, Tryz.func252.trans (congrArg some (by kernel_rfl))⟩
  f31 := Tryz.func254.trans (congrArg some (by kernel_rfl))
  f32 := Tryz.func255.trans (congrArg some (by kernel_rfl))
  f36 := ⟨Tryz.f277.name, by decide, Tryz.func277.trans (congrArg some (by kernel_rfl))⟩
  f37 := ⟨Tryz.f278.name, by decide, Tryz.func278.trans (congrArg some (by kernel_rfl))⟩
  f38 := ⟨Tryz.f279.name, by decide, Tryz.func279.trans (congrArg some (by kernel_rfl))⟩
  f39 := ⟨Tryz.f149.name, by decide, Tryz.func149.trans (congrArg some (by kernel_rfl))⟩
  f41 := ⟨Tryz.f296.name, by decide, Tryz.func296.trans (congrArg some (by kernel_rfl))⟩
  t0 := Tryz.underlying0
  a0 := Tryz.isAgg0
  z0 := Tryz.sizeOf0
  v0 := Tryz.zeroValue0
  t3 := Tryz.underlying3
  a3 := Tryz.isAgg3
  z3 := Tryz.sizeOf3
  v3 := Tryz.zeroValue3
  t4 := Tryz.underlying4
  a4 := Tryz.isAgg4
  z4 := Tryz.sizeOf4
  v4 := Tryz.zeroValue4
  t5 := Tryz.underlying5
  a5 := Tryz.isAgg5
  z5 := Tryz.sizeOf5
  v5 := Tryz.zeroValue5
  t9 := Tryz.underlying9
  a9 := Tryz.isAgg9
  z9 := Tryz.sizeOf9
  v9 := Tryz.zeroValue9
  t26 := Tryz.underlying23
  a26 := Tryz.isAgg23
  z26 := Tryz.sizeOf23
  v26 := Tryz.zeroValue23
  t27 := Tryz.underlying23
  a27 := Tryz.isAgg23
  z27 := Tryz.sizeOf23
  v27 := Tryz.zeroValue23
  t29 := Tryz.underlying9
  a29 := Tryz.isAgg9
  z29 := Tryz.sizeOf9
  v29 := Tryz.zeroValue9
  t32 := Tryz.underlying230
  a32 := Tryz.isAgg230
  z32 := Tryz.sizeOf230
  v32 := Tryz.zeroValue230
  t35 := Tryz.underlying283
  a35 := Tryz.isAgg283
  z35 := Tryz.sizeOf283
  v35 := Tryz.zeroValue283
  t36 := Tryz.underlying284
  a36 := Tryz.isAgg284
  z36 := Tryz.sizeOf284
  v36 := Tryz.zeroValue284
  t41 := Tryz.underlying288
  a41 := Tryz.isAgg288
  z41 := Tryz.sizeOf288
  v41 := Tryz.zeroValue288
  t44 := Tryz.underlying188
  a44 := Tryz.isAgg188
  z44 := Tryz.sizeOf188
  v44 := Tryz.zeroValue188
  t46 := Tryz.underlying292
  a46 := Tryz.isAgg292
  z46 := Tryz.sizeOf292
  v46 := Tryz.zeroValue292
  t53 := Tryz.underlying324
  a53 := Tryz.isAgg324
  z53 := Tryz.sizeOf324
  v53 := Tryz.zeroValue324
  t57 := Tryz.underlying328
  a57 := Tryz.isAgg328
  z57 := Tryz.sizeOf328
  v57 := Tryz.zeroValue328
  t63 := Tryz.underlying343
  a63 := Tryz.isAgg343
  z63 := Tryz.sizeOf343
  v63 := Tryz.zeroValue343
  t64 := Tryz.underlying344
  a64 := Tryz.isAgg344
  z64 := Tryz.sizeOf344
  v64 := Tryz.zeroValue344 }
open Go.RowKit Go.Maps Go.Sort in
theorem Tryz.sorts48 (m : Nat) : AnyZ.SortsIn Tryz.prog Tryz.sorted48_ren Fence.wide m :=
  ⟨fun blk off cap ss W hH hblk hsz => callsIn_wide.2 (AnyM.slices_Sort_string Tryz.sort73 blk off cap ss W hH hblk hsz), fun p cap W => callsIn_wide.2 (AnyM.slices_Sort_string_none Tryz.sort73 p cap W)⟩
open Go.RowKit Go.Maps Go.Sort in
theorem Tryz.maps_Keys_49 (mb : Option Nat) (W : World) : CallsIn Fence.wide 5 Tryz.prog 173 #[.map mb] W fun e w' => e = .returned (.func (.func 225) #[] #[.pointer (some ⟨W.heap.size, 0, none⟩)]) ∧ w' = W.alloc (.cells #[.map mb] 244) :=
  AnyZ.keys_in Tryz.keys49 Fence.wide 5 trivial rfl mb W
end Go.Proofs
