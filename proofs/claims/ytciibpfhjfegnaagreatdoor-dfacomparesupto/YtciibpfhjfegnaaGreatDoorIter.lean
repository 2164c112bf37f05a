/-
  THE LIBRARY'S slices.Sorted(maps.Keys(m)) at this dump (the layings out of the shelf's own tool, in its plain mode).
-/
import Derived.Shelf.SlIter.Nil
import Derived.Shelf.SortM.Plain
import Derived.Shelf.SortM.SortNone
import Derived.Ground.GgzProg
import Derived.Ground.SlgmProg
import Derived.Test.YtciibpfhjfegnaaGreatDoorProg
namespace Go.Proofs
open Go.Shelf
def Tryz.keys49_ren : Go.Shelf.Ren := ⟨fun | 7 => 49 | 10 => 96 | n => n, fun | 23 => 104 | 26 => 9 | 3 => 3 | 28 => 108 | 0 => 0 | 27 => 107 | 33 => 159 | 4 => 4 | n => n, fun | n => n⟩
theorem Tryz.keys49 : Go.Proofs.SlLaysZ.n7 Tryz.prog Tryz.keys49_ren := {
  mixed := by kernel_rfl
  f7 := ⟨Tryz.f49.name, by decide, Tryz.func49.trans (congrArg some (by kernel_rfl))⟩
  f10 := ⟨Tryz.f96.name, by decide, Tryz.func96.trans (congrArg some (by kernel_rfl))⟩
  t0 := Tryz.underlying0
  a0 := Tryz.isAgg0
  z0 := Tryz.sizeOf0
  v0 := Tryz.zeroValue0
  t4 := Tryz.underlying4
  a4 := Tryz.isAgg4
  z4 := Tryz.sizeOf4
  v4 := Tryz.zeroValue4
  t23 := Tryz.underlying104
  a23 := Tryz.isAgg104
  z23 := Tryz.sizeOf104
  v23 := Tryz.zeroValue104
  t26 := Tryz.underlying9
  a26 := Tryz.isAgg9
  z26 := Tryz.sizeOf9
  v26 := Tryz.zeroValue9
  t27 := Tryz.underlying107
  a27 := Tryz.isAgg107
  z27 := Tryz.sizeOf107
  v27 := Tryz.zeroValue107
  t28 := Tryz.underlying108
  a28 := Tryz.isAgg108
  z28 := Tryz.sizeOf108
  v28 := Tryz.zeroValue108
  t33 := Tryz.underlying159
  a33 := Tryz.isAgg159
  z33 := Tryz.sizeOf159
  v33 := Tryz.zeroValue159 }
def Tryz.sorted48_ren : Go.Shelf.Ren := ⟨fun | 6 => 48 | 8 => 94 | 9 => 95 | 11 => 138 | 13 => 140 | 12 => 139 | 23 => 183 | 24 => 184 | 14 => 174 | 15 => 175 | 16 => 176 | 17 => 177 | 18 => 178 | 19 => 179 | 20 => 180 | 21 => 181 | 22 => 182 | 25 => 204 | 26 => 205 | 27 => 206 | 28 => 207 | 29 => 208 | 30 => 209 | 31 => 231 | n => n, fun | 26 => 9 | 28 => 108 | 24 => 25 | 0 => 0 | 3 => 3 | 37 => 211 | 48 => 91 | 50 => 248 | 4 => 4 | 40 => 241 | 39 => 240 | 45 => 201 | 5 => 5 | 9 => 9 | 51 => 262 | 55 => 266 | 57 => 282 | 58 => 283 | 33 => 159 | n => n, fun | n => n⟩
theorem Tryz.sorted48 : Go.Proofs.SlLaysZ.n6 Tryz.prog Tryz.sorted48_ren := {
  mixed := by kernel_rfl
  f6 := ⟨Tryz.f48.name, by decide, Tryz.func48.trans (congrArg some (by kernel_rfl))⟩
  f8 := ⟨Tryz.f94.name, by decide, Tryz.func94.trans (congrArg some (by kernel_rfl))⟩
  f11 := ⟨Tryz.f138.name, by decide, Tryz.func138.trans (congrArg some (by kernel_rfl))⟩
  t0 := Tryz.underlying0
  a0 := Tryz.isAgg0
  z0 := Tryz.sizeOf0
  v0 := Tryz.zeroValue0
  t24 := Tryz.underlying25
  a24 := Tryz.isAgg25
  z24 := Tryz.sizeOf25
  v24 := Tryz.zeroValue25
  t26 := Tryz.underlying9
  a26 := Tryz.isAgg9
  z26 := Tryz.sizeOf9
  v26 := Tryz.zeroValue9
  t28 := Tryz.underlying108
  a28 := Tryz.isAgg108
  z28 := Tryz.sizeOf108
  v28 := Tryz.zeroValue108
  i26 := by kernel_rfl }
def Tryz.sort73_ren : Go.Shelf.Ren := ⟨fun | 6 => 95 | 8 => 140 | 9 => 139 | 19 => 183 | 20 => 184 | 21 => 174 | 22 => 175 | 23 => 176 | 24 => 177 | 25 => 178 | 26 => 179 | 27 => 180 | 28 => 181 | 29 => 182 | 36 => 204 | 31 => 205 | 32 => 206 | 37 => 207 | 38 => 208 | 39 => 209 | 41 => 231 | n => n, fun | 27 => 25 | 29 => 9 | 3 => 3 | 32 => 211 | 26 => 25 | 0 => 0 | 44 => 91 | 46 => 248 | 4 => 4 | 36 => 241 | 35 => 240 | 41 => 201 | 5 => 5 | 9 => 9 | 53 => 262 | 57 => 266 | 63 => 282 | 64 => 283 | n => n, fun | n => n⟩
theorem Tryz.sort73 : Go.Proofs.SlLaysM.n6 Tryz.prog Tryz.sort73_ren := {
  mixed := by kernel_rfl
  f6 := ⟨Tryz.f95.name, by decide, Tryz.func95.trans (congrArg some (by kernel_rfl))⟩
  f8 := Tryz.func140.trans (congrArg some (by kernel_rfl))
  f9 := ⟨Tryz.f139.name, by decide, Tryz.func139.trans (congrArg some (by kernel_rfl))⟩
  f19 := Tryz.func183.trans (congrArg some (by kernel_rfl))
  f20 := Tryz.func184.trans (congrArg some (by kernel_rfl))
  f21 := ⟨Tryz.f174.name, by decide, Tryz.func174.trans (congrArg some (by kernel_rfl))⟩
  f22 := ⟨Tryz.f175.name, by decide, Tryz.func175.trans (congrArg some (by kernel_rfl))⟩
  f23 := ⟨Tryz.f176.name, by decide, Tryz.func176.trans (congrArg some (by kernel_rfl))⟩
  f24 := ⟨Tryz.f177.name, by decide, Tryz.func177.trans (congrArg some (by kernel_rfl))⟩
  f25 := ⟨Tryz.f178.name, by decide, Tryz.func178.trans (congrArg some (by kernel_rfl))⟩
  f26 := ⟨Tryz.f179.name, by decide, Tryz.func179.trans (congrArg some (by kernel_rfl))⟩
  f27 := ⟨Tryz.f180.name, by decide, Tryz.func180.trans (congrArg some (by kernel_rfl))⟩
  f28 := ⟨Tryz.f181.name, by decide, Tryz.func181.trans (congrArg some (by kernel_rfl))⟩
  f29 := ⟨Tryz.f182.name, by decide, Tryz.func182.trans (congrArg some (by kernel_rfl))⟩
  f31 := Tryz.func205.trans (congrArg some (by kernel_rfl))
  f32 := Tryz.func206.trans (congrArg some (by kernel_rfl))
  f36 := ⟨Tryz.f204.name, by decide, Tryz.func204.trans (congrArg some (by kernel_rfl))⟩
  f37 := ⟨Tryz.f207.name, by decide, Tryz.func207.trans (congrArg some (by kernel_rfl))⟩
  f38 := ⟨Tryz.f208.name, by decide, Tryz.func208.trans (congrArg some (by kernel_rfl))⟩
  f39 := ⟨Tryz.f209.name, by decide, Tryz.func209.trans (congrArg some (by kernel_rfl))⟩
  f41 := ⟨Tryz.f231.name, by decide, Tryz.func231.trans (congrArg some (by kernel_rfl))⟩
  t0 := Tryz.underlying0
  a0 := Tryz.isAgg0
  z0 := Tryz.sizeOf0
  v0 := Tryz.zeroValue0
  t3 := Tryz.underlying3
  a3 := Tryz.isAgg3
  z3 := Tryz.sizeOf3
  v3 := Tryz.zeroValue3
  t4 := Tryz.underlying4
  a4 := Tryz.isAgg4
  z4 := Tryz.sizeOf4
  v4 := Tryz.zeroValue4
  t5 := Tryz.underlying5
  a5 := Tryz.isAgg5
  z5 := Tryz.sizeOf5
  v5 := Tryz.zeroValue5
  t9 := Tryz.underlying9
  a9 := Tryz.isAgg9
  z9 := Tryz.sizeOf9
  v9 := Tryz.zeroValue9
  t26 := Tryz.underlying25
  a26 := Tryz.isAgg25
  z26 := Tryz.sizeOf25
  v26 := Tryz.zeroValue25
  t27 := Tryz.underlying25
  a27 := Tryz.isAgg25
  z27 := Tryz.sizeOf25
  v27 := Tryz.zeroValue25
  t29 := Tryz.underlying9
  a29 := Tryz.isAgg9
  z29 := Tryz.sizeOf9
  v29 := Tryz.zeroValue9
  t32 := Tryz.underlying211
  a32 := Tryz.isAgg211
  z32 := Tryz.sizeOf211
  v32 := Tryz.zeroValue211
  t35 := Tryz.underlying240
  a35 := Tryz.isAgg240
  z35 := Tryz.sizeOf240
  v35 := Tryz.zeroValue240
  t36 := Tryz.underlying241
  a36 := Tryz.isAgg241
  z36 := Tryz.sizeOf241
  v36 := Tryz.zeroValue241
  t41 := Tryz.underlying201
  a41 := Tryz.isAgg201
  z41 := Tryz.sizeOf201
  v41 := Tryz.zeroValue201
  t44 := Tryz.underlying91
  a44 := Tryz.isAgg91
  z44 := Tryz.sizeOf91
  v44 := Tryz.zeroValue91
  t46 := Tryz.underlying248
  a46 := Tryz.isAgg248
  z46 := Tryz.sizeOf248
  v46 := Tryz.zeroValue248
  t53 := Tryz.underlying262
  a53 := Tryz.isAgg262
  z53 := Tryz.sizeOf262
  v53 := Tryz.zeroValue262
  t57 := Tryz.underlying266
  a57 := Tryz.isAgg266
  z57 := Tryz.sizeOf266
  v57 := Tryz.zeroValue266
  t63 := Tryz.underlying282
  a63 := Tryz.isAgg282
  z63 := Tryz.sizeOf282
  v63 := Tryz.zeroValue282
  t64 := Tryz.underlying283
  a64 := Tryz.isAgg283
  z64 := Tryz.sizeOf283
  v64 := Tryz.zeroValue283 }
open Go.RowKit Go.Maps Go.Sort in
theorem Tryz.sorts48 (m : Nat) : AnyZ.SortsIn Tryz.prog Tryz.sorted48_ren Fence.wide m :=
  ⟨fun blk off cap ss W hH hblk hsz => callsIn_wide.2 (AnyM.slices_Sort_string Tryz.sort73 blk off cap ss W hH hblk hsz), fun p cap W => callsIn_wide.2 (AnyM.slices_Sort_string_none Tryz.sort73 p cap W)⟩
open Go.RowKit Go.Maps Go.Sort in
theorem Tryz.maps_Keys_49 (mb : Option Nat) (W : World) : CallsIn Fence.wide 5 Tryz.prog 49 #[.map mb] W fun e w' => e = .returned (.func (.func 96) #[] #[.pointer (some ⟨W.heap.size, 0, none⟩)]) ∧ w' = W.alloc (.cells #[.map mb] 104) :=
  AnyZ.keys_in Tryz.keys49 Fence.wide 5 trivial rfl mb W
end Go.Proofs
