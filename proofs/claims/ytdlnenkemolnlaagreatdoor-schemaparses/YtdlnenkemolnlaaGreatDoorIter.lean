/-
  THE LIBRARY'S slices.Sorted(maps.Keys(m)) at this dump (the layings out of the shelf's own tool, in its plain mode).
-/
import Derived.Shelf.SlIter.Nil
import Derived.Shelf.SortM.Plain
import Derived.Shelf.SortM.SortNone
import Derived.Ground.GgzProg
import Derived.Ground.SlgmProg
import Derived.Test.YtdlnenkemolnlaaGreatDoorProg
namespace Go.Proofs
open Go.Shelf
def Tryz.keys49_ren : Go.Shelf.Ren := ⟨fun | 7 => 137 | 10 => 166 | n => n, fun | 23 => 185 | 26 => 9 | 3 => 3 | 28 => 189 | 0 => 0 | 27 => 188 | 33 => 73 | 4 => 4 | n => n, fun | n => n⟩
theorem Tryz.keys49 : Go.Proofs.SlLaysZ.n7 Tryz.prog Tryz.keys49_ren := {
  mixed := by kernel_rfl
  f7 := ⟨Tryz.f137.name, by decide, Tryz.func137.trans (congrArg some (by kernel_rfl))⟩
  f10 := ⟨Tryz.f166.name, by decide, Tryz.func166.trans (congrArg some (by kernel_rfl))⟩
  t0 := Tryz.underlying0
  a0 := Tryz.isAgg0
  z0 := Tryz.sizeOf0
  v0 := Tryz.zeroValue0
  t4 := Tryz.underlying4
  a4 := Tryz.isAgg4
  z4 := Tryz.sizeOf4
  v4 := Tryz.zeroValue4
  t23 := Tryz.underlying185
  a23 := Tryz.isAgg185
  z23 := Tryz.sizeOf185
  v23 := Tryz.zeroValue185
  t26 := Tryz.underlying9
  a26 := Tryz.isAgg9
  z26 := Tryz.sizeOf9
  v26 := Tryz.zeroValue9
  t27 := Tryz.underlying188
  a27 := Tryz.isAgg188
  z27 := Tryz.sizeOf188
  v27 := Tryz.zeroValue188
  t28 := Tryz.underlying189
  a28 := Tryz.isAgg189
  z28 := Tryz.sizeOf189
  v28 := Tryz.zeroValue189
  t33 := Tryz.underlying73
  a33 := Tryz.isAgg73
  z33 := Tryz.sizeOf73
  v33 := Tryz.zeroValue73 }
def Tryz.sorted48_ren : Go.Shelf.Ren := ⟨fun | 6 => 136 | 8 => 164 | 9 => 165 | 11 => 188 | 13 => 190 | 12 => 189 | 23 => 219 | 24 => 220 | 14 => 210 | 15 => 211 | 16 => 212 | 17 => 213 | 18 => 214 | 19 => 215 | 20 => 216 | 21 => 217 | 22 => 218 | 25 => 225 | 26 => 226 | 27 => 227 | 28 => 228 | 29 => 229 | 30 => 230 | 31 => 231 | n => n, fun | 26 => 9 | 28 => 189 | 24 => 40 | 0 => 0 | 3 => 3 | 37 => 197 | 48 => 249 | 50 => 224 | 4 => 4 | 40 => 242 | 39 => 241 | 45 => 246 | 5 => 5 | 9 => 9 | 51 => 254 | 55 => 258 | 57 => 260 | 58 => 261 | 33 => 73 | n => n, fun | n => n⟩
theorem Tryz.sorted48 : Go.Proofs.SlLaysZ.n6 Tryz.prog Tryz.sorted48_ren := {
  mixed := by kernel_rfl
  f6 := ⟨Tryz.f136.name, by decide, Tryz.func136.trans (congrArg some (by kernel_rfl))⟩
  f8 := ⟨Tryz.f164.name, by decide, Tryz.func164.trans (congrArg some (by kernel_rfl))⟩
  f11 := ⟨Tryz.f188.name, by decide, Tryz.func188.trans (congrArg some (by kernel_rfl))⟩
  t0 := Tryz.underlying0
  a0 := Tryz.isAgg0
  z0 := Tryz.sizeOf0
  v0 := Tryz.zeroValue0
  t24 := Tryz.underlying40
  a24 := Tryz.isAgg40
  z24 := Tryz.sizeOf40
  v24 := Tryz.zeroValue40
  t26 := Tryz.underlying9
  a26 := Tryz.isAgg9
  z26 := Tryz.sizeOf9
  v26 := Tryz.zeroValue9
  t28 := Tryz.underlying189
  a28 := Tryz.isAgg189
  z28 := Tryz.sizeOf189
  v28 := Tryz.zeroValue189
  i26 := by kernel_rfl }
def Tryz.sort73_ren : Go.Shelf.Ren := ⟨fun | 6 => 165 | 8 => 190 | 9 => 189 | 19 => 219 | 20 => 220 | 21 => 210 | 22 => 211 | 23 => 212 | 24 => 213 | 25 => 214 | 26 => 215 | 27 => 216 | 28 => 217 | 29 => 218 | 36 => 225 | 31 => 226 | 32 => 227 | 37 => 228 | 38 => 229 | 39 => 230 | 41 => 231 | n => n, fun | 27 => 40 | 29 => 9 | 3 => 3 | 32 => 197 | 26 => 40 | 0 => 0 | 44 => 249 | 46 => 224 | 4 => 4 | 36 => 242 | 35 => 241 | 41 => 246 | 5 => 5 | 9 => 9 | 53 => 254 | 57 => 258 | 63 => 260 | 64 => 261 | n => n, fun | n => n⟩
theorem Tryz.sort73 : Go.Proofs.SlLaysM.n6 Tryz.prog Tryz.sort73_ren := {
  mixed := by kernel_rfl
  f6 := ⟨Tryz.f165.name, by decide, Tryz.func165.trans (congrArg some (by kernel_rfl))⟩
  f8 := Tryz.func190.trans (congrArg some (by kernel_rfl))
  f9 := ⟨Tryz.f189.name, by decide, Tryz.func189.trans (congrArg some (by kernel_rfl))⟩
  f19 := Tryz.func219.trans (congrArg some (by kernel_rfl))
  f20 := Tryz.func220.trans (congrArg some (by kernel_rfl))
  f21 := ⟨Tryz.f210.name, by decide, Tryz.func210.trans (congrArg some (by kernel_rfl))⟩
  f22 := ⟨Tryz.f211.name, by decide, Tryz.func211.trans (congrArg some (by kernel_rfl))⟩
  f23 := ⟨Tryz.f212.name, by decide, Tryz.func212.trans (congrArg some (by kernel_rfl))⟩
  f24 := ⟨Tryz.f213.name, by decide, Tryz.func213.trans (congrArg some (by kernel_rfl))⟩
  f25 := ⟨Tryz.f214.name, by decide, Tryz.func214.trans (congrArg some (by kernel_rfl))⟩
  f26 := ⟨Tryz.f215.name, by decide, Tryz.func215.trans (congrArg some (by kernel_rfl))⟩
  f27 := ⟨Tryz.f216.name, by decide, Tryz.func216.trans (congrArg some (by kernel_rfl))⟩
  f28 := ⟨Tryz.f217.name, by decide, Tryz.func217.trans (congrArg some (by kernel_rfl))⟩
  f29 := ⟨Tryz.f218.name, by decide, Tryz.func218.trans (congrArg some (by kernel_rfl))⟩
  f31 := Tryz.func226.trans (congrArg some (by kernel_rfl))
  f32 := Tryz.func227.trans (congrArg some (by kernel_rfl))
  f36 := ⟨Tryz.f225.name, by decide, Tryz.func225.trans (congrArg some (by kernel_rfl))⟩
  f37 := ⟨Tryz.f228.name, by decide, Tryz.func228.trans (congrArg some (by kernel_rfl))⟩
  f38 := ⟨Tryz.f229.name, by decide, Tryz.func229.trans (congrArg some (by kernel_rfl))⟩
  f39 := ⟨Tryz.f230.name, by decide, Tryz.func230.trans (congrArg some (by kernel_rfl))⟩
  f41 := ⟨Tryz.f231.name, by decide, Tryz.func231.trans (congrArg some (by kernel_rfl))⟩
  t0 := Tryz.underlying0
  a0 := Tryz.isAgg0
  z0 := Tryz.sizeOf0
  v0 := Tryz.zeroValue0
  t3 := Tryz.underlying3
  a3 := Tryz.isAgg3
  z3 := Tryz.sizeOf3
  v3 := Tryz.zeroValue3
  t4 := Tryz.underlying4
  a4 := Tryz.isAgg4
  z4 := Tryz.sizeOf4
  v4 := Tryz.zeroValue4
  t5 := Tryz.underlying5
  a5 := Tryz.isAgg5
  z5 := Tryz.sizeOf5
  v5 := Tryz.zeroValue5
  t9 := Tryz.underlying9
  a9 := Tryz.isAgg9
  z9 := Tryz.sizeOf9
  v9 := Tryz.zeroValue9
  t26 := Tryz.underlying40
  a26 := Tryz.isAgg40
  z26 := Tryz.sizeOf40
  v26 := Tryz.zeroValue40
  t27 := Tryz.underlying40
  a27 := Tryz.isAgg40
  z27 := Tryz.sizeOf40
  v27 := Tryz.zeroValue40
  t29 := Tryz.underlying9
  a29 := Tryz.isAgg9
  z29 := Tryz.sizeOf9
  v29 := Tryz.zeroValue9
  t32 := Tryz.underlying197
  a32 := Tryz.isAgg197
  z32 := Tryz.sizeOf197
  v32 := Tryz.zeroValue197
  t35 := Tryz.underlying241
  a35 := Tryz.isAgg241
  z35 := Tryz.sizeOf241
  v35 := Tryz.zeroValue241
  t36 := Tryz.underlying242
  a36 := Tryz.isAgg242
  z36 := Tryz.sizeOf242
  v36 := Tryz.zeroValue242
  t41 := Tryz.underlying246
  a41 := Tryz.isAgg246
  z41 := Tryz.sizeOf246
  v41 := Tryz.zeroValue246
  t44 := Tryz.underlying249
  a44 := Tryz.isAgg249
  z44 := Tryz.sizeOf249
  v44 := Tryz.zeroValue249
  t46 := Tryz.underlying224
  a46 := Tryz.isAgg224
  z46 := Tryz.sizeOf224
  v46 := Tryz.zeroValue224
  t53 := Tryz.underlying254
  a53 := Tryz.isAgg254
  z53 := Tryz.sizeOf254
  v53 := Tryz.zeroValue254
  t57 := Tryz.underlying258
  a57 := Tryz.isAgg258
  z57 := Tryz.sizeOf258
  v57 := Tryz.zeroValue258
  t63 := Tryz.underlying260
  a63 := Tryz.isAgg260
  z63 := Tryz.sizeOf260
  v63 := Tryz.zeroValue260
  t64 := Tryz.underlying261
  a64 := Tryz.isAgg261
  z64 := Tryz.sizeOf261
  v64 := Tryz.zeroValue261 }
open Go.RowKit Go.Maps Go.Sort in
theorem Tryz.sorts48 (m : Nat) : AnyZ.SortsIn Tryz.prog Tryz.sorted48_ren Fence.wide m :=
  ⟨fun blk off cap ss W hH hblk hsz => callsIn_wide.2 (AnyM.slices_Sort_string Tryz.sort73 blk off cap ss W hH hblk hsz), fun p cap W => callsIn_wide.2 (AnyM.slices_Sort_string_none Tryz.sort73 p cap W)⟩
open Go.RowKit Go.Maps Go.Sort in
theorem Tryz.maps_Keys_49 (mb : Option Nat) (W : World) : CallsIn Fence.wide 5 Tryz.prog 137 #[.map mb] W fun e w' => e = .returned (.func (.func 166) #[] #[.pointer (some ⟨W.heap.size, 0, none⟩)]) ∧ w' = W.alloc (.cells #[.map mb] 185) :=
  AnyZ.keys_in Tryz.keys49 Fence.wide 5 trivial rfl mb W
end Go.Proofs
