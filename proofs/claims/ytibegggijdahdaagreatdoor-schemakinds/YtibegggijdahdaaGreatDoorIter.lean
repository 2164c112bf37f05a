/-
  THE LIBRARY'S slices.Sorted(maps.Keys(m)) at this dump (the layings out of the shelf's own tool, in its plain mode).
-/
import Derived.Shelf.SlIter.Nil
import Derived.Shelf.SortM.Plain
import Derived.Shelf.SortM.SortNone
import Derived.Ground.GgzProg
import Derived.Ground.SlgmProg
import Derived.Test.YtibegggijdahdaaGreatDoorProg
namespace Go.Proofs
open Go.Shelf
def Tryz.keys49_ren : Go.Shelf.Ren := ⟨fun | 7 => 102 | 10 => 139 | n => n, fun | 23 => 175 | 26 => 9 | 3 => 3 | 28 => 144 | 0 => 0 | 27 => 143 | 33 => 95 | 4 => 4 | n => n, fun | n => n⟩
theorem Tryz.keys49 : Go.Proofs.SlLaysZ.n7 Tryz.prog Tryz.keys49_ren := {
  mixed := by kernel_rfl
  f7 := ⟨Tryz.f102.name, by decide, Tryz.func102.trans (congrArg some (by kernel_rfl))⟩
  f10 := ⟨Tryz.f139.name, by decide, Tryz.func139.trans (congrArg some (by kernel_rfl))⟩
  t0 := Tryz.underlying0
  a0 := Tryz.isAgg0
  z0 := Tryz.sizeOf0
  v0 := Tryz.zeroValue0
  t4 := Tryz.underlying4
  a4 := Tryz.isAgg4
  z4 := Tryz.sizeOf4
  v4 := Tryz.zeroValue4
  t23 := Tryz.underlying175
  a23 := Tryz.isAgg175
  z23 := Tryz.sizeOf175
  v23 := Tryz.zeroValue175
  t26 := Tryz.underlying9
  a26 := Tryz.isAgg9
  z26 := Tryz.sizeOf9
  v26 := Tryz.zeroValue9
  t27 := Tryz.underlying143
  a27 := Tryz.isAgg143
  z27 := Tryz.sizeOf143
  v27 := Tryz.zeroValue143
  t28 := Tryz.underlying144
  a28 := Tryz.isAgg144
  z28 := Tryz.sizeOf144
  v28 := Tryz.zeroValue144
  t33 := Tryz.underlying95
  a33 := Tryz.isAgg95
  z33 := Tryz.sizeOf95
  v33 := Tryz.zeroValue95 }
def Tryz.sorted48_ren : Go.Shelf.Ren := ⟨fun | 6 => 79 | 8 => 124 | 9 => 125 | 11 => 156 | 13 => 158 | 12 => 157 | 23 => 189 | 24 => 190 | 14 => 180 | 15 => 181 | 16 => 182 | 17 => 183 | 18 => 184 | 19 => 185 | 20 => 186 | 21 => 187 | 22 => 188 | 25 => 211 | 26 => 212 | 27 => 213 | 28 => 214 | 29 => 215 | 30 => 216 | 31 => 232 | n => n, fun | 26 => 9 | 28 => 144 | 24 => 23 | 0 => 0 | 3 => 3 | 37 => 191 | 48 => 102 | 50 => 219 | 4 => 4 | 40 => 245 | 39 => 244 | 45 => 196 | 5 => 5 | 9 => 9 | 51 => 269 | 55 => 273 | 57 => 285 | 58 => 286 | 33 => 95 | n => n, fun | n => n⟩
theorem Tryz.sorted48 : Go.Proofs.SlLaysZ.n6 Tryz.prog Tryz.sorted48_ren := {
  mixed := by kernel_rfl
  f6 := ⟨Tryz.f79.name, by decide, Tryz.func79.trans (congrArg some (by kernel_rfl))⟩
  f8 := ⟨Tryz.f124.name, by decide, Tryz.func124.trans (congrArg some (by kernel_rfl))⟩
  f11 := ⟨Tryz.f156.name, by decide, Tryz.func156.trans (congrArg some (by kernel_rfl))⟩
  t0 := Tryz.underlying0
  a0 := Tryz.isAgg0
  z0 := Tryz.sizeOf0
  v0 := Tryz.zeroValue0
  t24 := Tryz.underlying23
  a24 := Tryz.isAgg23
  z24 := Tryz.sizeOf23
  v24 := Tryz.zeroValue23
  t26 := Tryz.underlying9
  a26 := Tryz.isAgg9
  z26 := Tryz.sizeOf9
  v26 := Tryz.zeroValue9
  t28 := Tryz.underlying144
  a28 := Tryz.isAgg144
  z28 := Tryz.sizeOf144
  v28 := Tryz.zeroValue144
  i26 := by kernel_rfl }
def Tryz.sort73_ren : Go.Shelf.Ren := ⟨fun | 6 => 125 | 8 => 158 | 9 => 157 | 19 => 189 | 20 => 190 | 21 => 180 | 22 => 181 | 23 => 182 | 24 => 183 | 25 => 184 | 26 => 185 | 27 => 186 | 28 => 187 | 29 => 188 | 36 => 211 | 31 => 212 | 32 => 213 | 37 => 214 | 38 => 215 | 39 => 216 | 41 => 232 | n => n, fun | 27 => 23 | 29 => 9 | 3 => 3 | 32 => 191 | 26 => 23 | 0 => 0 | 44 => 102 | 46 => 219 | 4 => 4 | 36 => 245 | 35 => 244 | 41 => 196 | 5 => 5 | 9 => 9 | 53 => 269 | 57 => 273 | 63 => 285 | 64 => 286 | n => n, fun | n => n⟩
theorem Tryz.sort73 : Go.Proofs.SlLaysM.n6 Tryz.prog Tryz.sort73_ren := {
  mixed := by kernel_rfl
  f6 := ⟨Tryz.f125.name, by decide, Tryz.func125.trans (congrArg some (by kernel_rfl))⟩
  f8 := Tryz.func158.trans (congrArg some (by kernel_rfl))
  f9 := ⟨Tryz.f157.name, by decide, Tryz.func157.trans (congrArg some (by kernel_rfl))⟩
  f19 := Tryz.func189.trans (congrArg some (by kernel_rfl))
  f20 := Tryz.func190.trans (congrArg some (by kernel_rfl))
  f21 := ⟨Tryz.f180.name, by decide, Tryz.func180.trans (congrArg some (by kernel_rfl))⟩
  f22 := ⟨Tryz.f181.name, by decide, Tryz.func181.trans (congrArg some (by kernel_rfl))⟩
  f23 := ⟨Tryz.f182.name, by decide, Tryz.func182.trans (congrArg some (by kernel_rfl))⟩
  f24 := ⟨Tryz.f183.name, by decide, Tryz.func183.trans (congrArg some (by kernel_rfl))⟩
  f25 := ⟨Tryz.f184.name, by decide, Tryz.func184.trans (congrArg some (by kernel_rfl))⟩
  f26 := ⟨Tryz.f185.name, by decide, Tryz.func185.trans (congrArg some (by kernel_rfl))⟩
  f27 := ⟨Tryz.f186.name, by decide, Tryz.func186.trans (congrArg some (by kernel_rfl))⟩
  f28 := ⟨Tryz.f187.name, by decide, Tryz.func187.trans (congrArg some (by kernel_rfl))⟩
  f29 := ⟨Tryz.f188.name, by decide, Tryz.func188.trans (congrArg some (by kernel_rfl))⟩
  f31 := Tryz.func212.trans (congrArg some (by kernel_rfl))
  f32 := Tryz.func213.trans (congrArg some (by kernel_rfl))
  f36 := ⟨Tryz.f211.name, by decide, Tryz.func211.trans (congrArg some (by kernel_rfl))⟩
  f37 := ⟨Tryz.f214.name, by decide, Tryz.func214.trans (congrArg some (by kernel_rfl))⟩
  f38 := ⟨Tryz.f215.name, by decide, Tryz.func215.trans (congrArg some (by kernel_rfl))⟩
  f39 := ⟨Tryz.f216.name, by decide, Tryz.func216.trans (congrArg some (by kernel_rfl))⟩
  f41 := ⟨Tryz.f232.name, by decide, Tryz.func232.trans (congrArg some (by kernel_rfl))⟩
  t0 := Tryz.underlying0
  a0 := Tryz.isAgg0
  z0 := Tryz.sizeOf0
  v0 := Tryz.zeroValue0
  t3 := Tryz.underlying3
  a3 := Tryz.isAgg3
  z3 := Tryz.sizeOf3
  v3 := Tryz.zeroValue3
  t4 := Tryz.underlying4
  a4 := Tryz.isAgg4
  z4 := Tryz.sizeOf4
  v4 := Tryz.zeroValue4
  t5 := Tryz.underlying5
  a5 := Tryz.isAgg5
  z5 := Tryz.sizeOf5
  v5 := Tryz.zeroValue5
  t9 := Tryz.underlying9
  a9 := Tryz.isAgg9
  z9 := Tryz.sizeOf9
  v9 := Tryz.zeroValue9
  t26 := Tryz.underlying23
  a26 := Tryz.isAgg23
  z26 := Tryz.sizeOf23
  v26 := Tryz.zeroValue23
  t27 := Tryz.underlying23
  a27 := Tryz.isAgg23
  z27 := Tryz.sizeOf23
  v27 := Tryz.zeroValue23
  t29 := Tryz.underlying9
  a29 := Tryz.isAgg9
  z29 := Tryz.sizeOf9
  v29 := Tryz.zeroValue9
  t32 := Tryz.underlying191
  a32 := Tryz.isAgg191
  z32 := Tryz.sizeOf191
  v32 := Tryz.zeroValue191
  t35 := Tryz.underlying244
  a35 := Tryz.isAgg244
  z35 := Tryz.sizeOf244
  v35 := Tryz.zeroValue244
  t36 := Tryz.underlying245
  a36 := Tryz.isAgg245
  z36 := Tryz.sizeOf245
  v36 := Tryz.zeroValue245
  t41 := Tryz.underlying196
  a41 := Tryz.isAgg196
  z41 := Tryz.sizeOf196
  v41 := Tryz.zeroValue196
  t44 := Tryz.underlying102
  a44 := Tryz.isAgg102
  z44 := Tryz.sizeOf102
  v44 := Tryz.zeroValue102
  t46 := Tryz.underlying219
  a46 := Tryz.isAgg219
  z46 := Tryz.sizeOf219
  v46 := Tryz.zeroValue219
  t53 := Tryz.underlying269
  a53 := Tryz.isAgg269
  z53 := Tryz.sizeOf269
  v53 := Tryz.zeroValue269
  t57 := Tryz.underlying273
  a57 := Tryz.isAgg273
  z57 := Tryz.sizeOf273
  v57 := Tryz.zeroValue273
  t63 := Tryz.underlying285
  a63 := Tryz.isAgg285
  z63 := Tryz.sizeOf285
  v63 := Tryz.zeroValue285
  t64 := Tryz.underlying286
  a64 := Tryz.isAgg286
  z64 := Tryz.sizeOf286
  v64 := Tryz.zeroValue286 }
open Go.RowKit Go.Maps Go.Sort in
theorem Tryz.sorts48 (m : Nat) : AnyZ.SortsIn Tryz.prog Tryz.sorted48_ren Fence.wide m :=
  ⟨fun blk off cap ss W hH hblk hsz => callsIn_wide.2 (AnyM.slices_Sort_string Tryz.sort73 blk off cap ss W hH hblk hsz), fun p cap W => callsIn_wide.2 (AnyM.slices_Sort_string_none Tryz.sort73 p cap W)⟩
open Go.RowKit Go.Maps Go.Sort in
theorem Tryz.maps_Keys_49 (mb : Option Nat) (W : World) : CallsIn Fence.wide 5 Tryz.prog 102 #[.map mb] W fun e w' => e = .returned (.func (.func 139) #[] #[.pointer (some ⟨W.heap.size, 0, none⟩)]) ∧ w' = W.alloc (.cells #[.map mb] 175) :=
  AnyZ.keys_in Tryz.keys49 Fence.wide 5 trivial rfl mb W
end Go.Proofs
