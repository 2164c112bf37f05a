/-
  THE LIBRARY'S slices.Sorted(maps.Keys(m)) at this dump (the layings out of the shelf's own tool, in its plain mode).
-/
import Derived.Shelf.SlIter.Nil
import Derived.Shelf.SortM.Plain
import Derived.Shelf.SortM.SortNone
import Derived.Ground.GgzProg
import Derived.Ground.SlgmProg
import Derived.Test.YtonomogpephfkaaDoorProg
namespace Go.Proofs
open Go.Shelf
def Tryd.keys49_ren : Go.Shelf.Ren := ⟨fun | 7 => 49 | 10 => 74 | n => n, fun | 23 => 98 | 26 => 9 | 3 => 3 | 28 => 102 | 0 => 0 | 27 => 101 | 33 => 35 | 4 => 4 | n => n, fun | n => n⟩
theorem Tryd.keys49 : Go.Proofs.SlLaysZ.n7 Tryd.prog Tryd.keys49_ren := {
  mixed := by kernel_rfl
  f7 := ⟨Tryd.f49.name, by decide, Tryd.func49.trans (congrArg some (by kernel_rfl))⟩
  f10 := ⟨Tryd.f74.name, by decide, Tryd.func74.trans (congrArg some (by kernel_rfl))⟩
  t0 := Tryd.underlying0
  a0 := Tryd.isAgg0
  z0 := Tryd.sizeOf0
  v0 := Tryd.zeroValue0
  t4 := Tryd.underlying4
  a4 := Tryd.isAgg4
  z4 := Tryd.sizeOf4
  v4 := Tryd.zeroValue4
  t23 := Tryd.underlying98
  a23 := Tryd.isAgg98
  z23 := Tryd.sizeOf98
  v23 := Tryd.zeroValue98
  t26 := Tryd.underlying9
  a26 := Tryd.isAgg9
  z26 := Tryd.sizeOf9
  v26 := Tryd.zeroValue9
  t27 := Tryd.underlying101
  a27 := Tryd.isAgg101
  z27 := Tryd.sizeOf101
  v27 := Tryd.zeroValue101
  t28 := Tryd.underlying102
  a28 := Tryd.isAgg102
  z28 := Tryd.sizeOf102
  v28 := Tryd.zeroValue102
  t33 := Tryd.underlying35
  a33 := Tryd.isAgg35
  z33 := Tryd.sizeOf35
  v33 := Tryd.zeroValue35 }
def Tryd.sorted48_ren : Go.Shelf.Ren := ⟨fun | 6 => 48 | 8 => 72 | 9 => 73 | 11 => 93 | 13 => 95 | 12 => 94 | 23 => 122 | 24 => 123 | 14 => 113 | 15 => 114 | 16 => 115 | 17 => 116 | 18 => 117 | 19 => 118 | 20 => 119 | 21 => 120 | 22 => 121 | 25 => 135 | 26 => 136 | 27 => 137 | 28 => 138 | 29 => 139 | 30 => 140 | 31 => 156 | n => n, fun | 26 => 9 | 28 => 102 | 24 => 42 | 0 => 0 | 3 => 3 | 37 => 137 | 48 => 166 | 50 => 168 | 4 => 4 | 40 => 159 | 39 => 158 | 45 => 163 | 5 => 5 | 9 => 9 | 51 => 181 | 55 => 185 | 57 => 192 | 58 => 193 | 33 => 35 | n => n, fun | n => n⟩
theorem Tryd.sorted48 : Go.Proofs.SlLaysZ.n6 Tryd.prog Tryd.sorted48_ren := {
  mixed := by kernel_rfl
  f6 := ⟨Tryd.f48.name, by decide, Tryd.func48.trans (congrArg some (by kernel_rfl))⟩
  f8 := ⟨Tryd.f72.name, by decide, Tryd.func72.trans (congrArg some (by kernel_rfl))⟩
  f11 := ⟨Tryd.f93.name, by decide, Tryd.func93.trans (congrArg some (by kernel_rfl))⟩
  t0 := Tryd.underlying0
  a0 := Tryd.isAgg0
  z0 := Tryd.sizeOf0
  v0 := Tryd.zeroValue0
  t24 := Tryd.underlying42
  a24 := Tryd.isAgg42
  z24 := Tryd.sizeOf42
  v24 := Tryd.zeroValue42
  t26 := Tryd.underlying9
  a26 := Tryd.isAgg9
  z26 := Tryd.sizeOf9
  v26 := Tryd.zeroValue9
  t28 := Tryd.underlying102
  a28 := Tryd.isAgg102
  z28 := Tryd.sizeOf102
  v28 := Tryd.zeroValue102
  i26 := by kernel_rfl }
def Tryd.sort73_ren : Go.Shelf.Ren := ⟨fun | 6 => 73 | 8 => 95 | 9 => 94 | 19 => 122 | 20 => 123 | 21 => 113 | 22 => 114 | 23 => 115 | 24 => 116 | 25 => 117 | 26 => 118 | 27 => 119 | 28 => 120 | 29 => 121 | 36 => 135 | 31 => 136 | 32 => 137 | 37 => 138 | 38 => 139 | 39 => 140 | 41 => 156 | n => n, fun | 27 => 42 | 29 => 9 | 3 => 3 | 32 => 137 | 26 => 42 | 0 => 0 | 44 => 166 | 46 => 168 | 4 => 4 | 36 => 159 | 35 => 158 | 41 => 163 | 5 => 5 | 9 => 9 | 53 => 181 | 57 => 185 | 63 => 192 | 64 => 193 | n => n, fun | n => n⟩
theorem Tryd.sort73 : Go.Proofs.SlLaysM.n6 Tryd.prog Tryd.sort73_ren := {
  mixed := by kernel_rfl
  f6 := ⟨Tryd.f73.name, by decide, Tryd.func73.trans (congrArg some (by kernel_rfl))⟩
  f8 := Tryd.func95.trans (congrArg some (by kernel_rfl))
  f9 := ⟨Tryd.f94.name, by decide, Tryd.func94.trans (congrArg some (by kernel_rfl))⟩
  f19 := Tryd.func122.trans (congrArg some (by kernel_rfl))
  f20 := Tryd.func123.trans (congrArg some (by kernel_rfl))
  f21 := ⟨Tryd.f113.name, by decide, Tryd.func113.trans (congrArg some (by kernel_rfl))⟩
  f22 := ⟨Tryd.f114.name, by decide, Tryd.func114.trans (congrArg some (by kernel_rfl))⟩
  f23 := ⟨Tryd.f115.name, by decide, Tryd.func115.trans (congrArg some (by kernel_rfl))⟩
  f24 := ⟨Tryd.f116.name, by decide, Tryd.func116.trans (congrArg some (by kernel_rfl))⟩
  f25 := ⟨Tryd.f117.name, by decide, Tryd.func117.trans (congrArg some (by kernel_rfl))⟩
  f26 := ⟨Tryd.f118.name, by decide, Tryd.func118.trans (congrArg some (by kernel_rfl))⟩
  f27 := ⟨Tryd.f119.name, by decide, Tryd.func119.trans (congrArg some (by kernel_rfl))⟩
  f28 := ⟨Tryd.f120.name, by decide, Tryd.func120.trans (congrArg some (by kernel_rfl))⟩
  f29 := ⟨Tryd.f121.name, by decide, Tryd.func121.trans (congrArg some (by kernel_rfl))⟩
  f31 := Tryd.func136.trans (congrArg some (by kernel_rfl))
  f32 := Tryd.func137.trans (congrArg some (by kernel_rfl))
  f36 := ⟨Tryd.f135.name, by decide, Tryd.func135.trans (congrArg some (by kernel_rfl))⟩
  f37 := ⟨Tryd.f138.name, by decide, Tryd.func138.trans (congrArg some (by kernel_rfl))⟩
  f38 := ⟨Tryd.f139.name, by decide, Tryd.func139.trans (congrArg some (by kernel_rfl))⟩
  f39 := ⟨Tryd.f140.name, by decide, Tryd.func140.trans (congrArg some (by kernel_rfl))⟩
  f41 := ⟨Tryd.f156.name, by decide, Tryd.func156.trans (congrArg some (by kernel_rfl))⟩
  t0 := Tryd.underlying0
  a0 := Tryd.isAgg0
  z0 := Tryd.sizeOf0
  v0 := Tryd.zeroValue0
  t3 := Tryd.underlying3
  a3 := Tryd.isAgg3
  z3 := Tryd.sizeOf3
  v3 := Tryd.zeroValue3
  t4 := Tryd.underlying4
  a4 := Tryd.isAgg4
  z4 := Tryd.sizeOf4
  v4 := Tryd.zeroValue4
  t5 := Tryd.underlying5
  a5 := Tryd.isAgg5
  z5 := Tryd.sizeOf5
  v5 := Tryd.zeroValue5
  t9 := Tryd.underlying9
  a9 := Tryd.isAgg9
  z9 := Tryd.sizeOf9
  v9 := Tryd.zeroValue9
  t26 := Tryd.underlying42
  a26 := Tryd.isAgg42
  z26 := Tryd.sizeOf42
  v26 := Tryd.zeroValue42
  t27 := Tryd.underlying42
  a27 := Tryd.isAgg42
  z27 := Tryd.sizeOf42
  v27 := Tryd.zeroValue42
  t29 := Tryd.underlying9
  a29 := Tryd.isAgg9
  z29 := Tryd.sizeOf9
  v29 := Tryd.zeroValue9
  t32 := Tryd.underlying137
  a32 := Tryd.isAgg137
  z32 := Tryd.sizeOf137
  v32 := Tryd.zeroValue137
  t35 := Tryd.underlying158
  a35 := Tryd.isAgg158
  z35 := Tryd.sizeOf158
  v35 := Tryd.zeroValue158
  t36 := Tryd.underlying159
  a36 := Tryd.isAgg159
  z36 := Tryd.sizeOf159
  v36 := Tryd.zeroValue159
  t41 := Tryd.underlying163
  a41 := Tryd.isAgg163
  z41 := Tryd.sizeOf163
  v41 := Tryd.zeroValue163
  t44 := Tryd.underlying166
  a44 := Tryd.isAgg166
  z44 := Tryd.sizeOf166
  v44 := Tryd.zeroValue166
  t46 := Tryd.underlying168
  a46 := Tryd.isAgg168
  z46 := Tryd.sizeOf168
  v46 := Tryd.zeroValue168
  t53 := Tryd.underlying181
  a53 := Tryd.isAgg181
  z53 := Tryd.sizeOf181
  v53 := Tryd.zeroValue181
  t57 := Tryd.underlying185
  a57 := Tryd.isAgg185
  z57 := Tryd.sizeOf185
  v57 := Tryd.zeroValue185
  t63 := Tryd.underlying192
  a63 := Tryd.isAgg192
  z63 := Tryd.sizeOf192
  v63 := Tryd.zeroValue192
  t64 := Tryd.underlying193
  a64 := Tryd.isAgg193
  z64 := Tryd.sizeOf193
  v64 := Tryd.zeroValue193 }
open Go.RowKit Go.Maps Go.Sort in
theorem Tryd.sorts48 (m : Nat) : AnyZ.SortsIn Tryd.prog Tryd.sorted48_ren Fence.wide m :=
  ⟨fun blk off cap ss W hH hblk hsz => callsIn_wide.2 (AnyM.slices_Sort_string Tryd.sort73 blk off cap ss W hH hblk hsz), fun p cap W => callsIn_wide.2 (AnyM.slices_Sort_string_none Tryd.sort73 p cap W)⟩
open Go.RowKit Go.Maps Go.Sort in
theorem Tryd.maps_Keys_49 (mb : Option Nat) (W : World) : CallsIn Fence.wide 5 Tryd.prog 49 #[.map mb] W fun e w' => e = .returned (.func (.func 74) #[] #[.pointer (some ⟨W.heap.size, 0, none⟩)]) ∧ w' = W.alloc (.cells #[.map mb] 98) :=
  AnyZ.keys_in Tryd.keys49 Fence.wide 5 trivial rfl mb W
end Go.Proofs
