/-
  DERIVED: THE SHELF's CONTRACTS AT THIS DUMP, IN PLAIN WORDS (tools/lay-plain.mjs out of 'TryzShelfC.lean', which tools/lay-shelf.mjs wrote): THE SAME DECLARATIONS UNDER THE SAME NAMES: 'import', 'namespace', 'open', 'def', 'theorem' AND NOTHING ELSE: no command of the shelf's: FOR A HAND-IN. Each laying: the table of numbers ('.._ren') and one theorem, a field a fact of the dump's own or the kernel's comparison; each contract: ONE APPLICATION.
-/
import Derived.Shelf.Strings.Cut
import Derived.Shelf.Strings.Prefix
import Derived.Shelf.Strings.Split
import Derived.Test.YtkjfaanenmhlbaaGreatDoorProg
namespace Go.Proofs
open Go.Shelf
def Tryz.lays145_ren : Go.Shelf.Ren := ⟨fun | 145 => 129 | 220 => 192 | 219 => 240 | 217 => 271 | 225 => 272 | 224 => 273 | 267 => 274 | 266 => 293 | 314 => 294 | n => n, fun | 9 => 9 | 4 => 4 | 59 => 214 | 3 => 3 | 5 => 5 | 46 => 230 | 146 => 354 | 51 => 188 | n => n, fun | 1 => 2 | n => n⟩
theorem Tryz.lays145 : Go.Proofs.Lays.n145 Tryz.prog Tryz.lays145_ren := {
  mixed := by kernel_rfl
  f145 := Tryz.func129.trans (congrArg some (by kernel_rfl))
  f217 := Tryz.func271.trans (congrArg some (by kernel_rfl))
  f219 := Tryz.func240.trans (congrArg some (by kernel_rfl))
  f220 := Tryz.func192.trans (congrArg some (by kernel_rfl))
  f224 := Tryz.func273.trans (congrArg some (by kernel_rfl))
  f225 := Tryz.func272.trans (congrArg some (by kernel_rfl))
  f266 := Tryz.func293.trans (congrArg some (by kernel_rfl))
  f267 := Tryz.func274.trans (congrArg some (by kernel_rfl))
  f314 := Tryz.func294.trans (congrArg some (by kernel_rfl))
  t3 := Tryz.underlying3
  a3 := Tryz.isAgg3
  z3 := Tryz.sizeOf3
  v3 := Tryz.zeroValue3
  t4 := Tryz.underlying4
  a4 := Tryz.isAgg4
  z4 := Tryz.sizeOf4
  v4 := Tryz.zeroValue4
  t5 := Tryz.underlying5
  a5 := Tryz.isAgg5
  z5 := Tryz.sizeOf5
  v5 := Tryz.zeroValue5
  t9 := Tryz.underlying9
  a9 := Tryz.isAgg9
  z9 := Tryz.sizeOf9
  v9 := Tryz.zeroValue9
  t46 := Tryz.underlying230
  a46 := Tryz.isAgg230
  z46 := Tryz.sizeOf230
  v46 := Tryz.zeroValue230
  t51 := Tryz.underlying188
  a51 := Tryz.isAgg188
  z51 := Tryz.sizeOf188
  v51 := Tryz.zeroValue188
  t59 := Tryz.underlying214
  a59 := Tryz.isAgg214
  z59 := Tryz.sizeOf214
  v59 := Tryz.zeroValue214
  t146 := Tryz.underlying354
  a146 := Tryz.isAgg354
  z146 := Tryz.sizeOf354
  v146 := Tryz.zeroValue354
  g1 := by kernel_rfl }
open Go.RowKit Go.Lib in
/-- strings.Cut: "Cut slices s around the first instance of sep, returning the text before and after sep. The found result reports whether sep appears in s. If sep does not appear in s, cut returns s, "", false.": IT RETURNS 'Lib.cut s sep'; the world is as it was but for the count of draws. (LAID: no walk: one application.) -/
theorem Tryz.strings_Cut (s sep : ByteArray) (m : Int) (w : World) (hs : s.size < 4294967281) (hm : w.cell? ⟨2, 0, none⟩ = some (.int .i64 m)) :
    Calls Tryz.prog 129 #[.string s, .string sep] w fun e w' => e = .returned (.tuple #[.string ⟨(Lib.cut s.data.toList sep.data.toList).1.toArray⟩, .string ⟨(Lib.cut s.data.toList sep.data.toList).2.1.toArray⟩, .bool (Lib.cut s.data.toList sep.data.toList).2.2]) ∧ ∃ n, w' = w.drewN n := Any.strings_Cut Tryz.lays145 s sep m w hs hm
def Tryz.lays102_ren : Go.Shelf.Ren := ⟨fun | 102 => 71 | 209 => 127 | 207 => 190 | n => n, fun | 9 => 9 | 4 => 4 | 3 => 3 | n => n, fun | n => n⟩
theorem Tryz.lays102 : Go.Proofs.Lays.n102 Tryz.prog Tryz.lays102_ren := {
  mixed := by kernel_rfl
  f102 := Tryz.func71.trans (congrArg some (by kernel_rfl))
  f207 := Tryz.func190.trans (congrArg some (by kernel_rfl))
  f209 := Tryz.func127.trans (congrArg some (by kernel_rfl))
  t3 := Tryz.underlying3
  a3 := Tryz.isAgg3
  z3 := Tryz.sizeOf3
  v3 := Tryz.zeroValue3
  t4 := Tryz.underlying4
  a4 := Tryz.isAgg4
  z4 := Tryz.sizeOf4
  v4 := Tryz.zeroValue4
  t9 := Tryz.underlying9
  a9 := Tryz.isAgg9
  z9 := Tryz.sizeOf9
  v9 := Tryz.zeroValue9 }
open Go.RowKit Go.Lib in
/-- strings.TrimSuffix: "TrimSuffix returns s without the provided trailing suffix string. If s doesn't end with suffix, s is returned unchanged.": IT RETURNS 'Lib.trimSuffix s suffix'; the world is as it was. (LAID: no walk: one application.) -/
theorem Tryz.strings_TrimSuffix (s p : ByteArray) (w : World) (hs : s.size ≤ 9223372036854775807) :
    Calls Tryz.prog 71 #[.string s, .string p] w fun e w' => e = .returned (.string ⟨(Lib.trimSuffix s.data.toList p.data.toList).toArray⟩) ∧ w' = w := Any.strings_TrimSuffix Tryz.lays102 s p w hs
def Tryz.lays221_ren : Go.Shelf.Ren := ⟨fun | 221 => 126 | 268 => 187 | 138 => 188 | 143 => 189 | 195 => 118 | 197 => 238 | 218 => 239 | 219 => 240 | 260 => 270 | 217 => 271 | 225 => 272 | 224 => 273 | 267 => 274 | 266 => 293 | 314 => 294 | n => n, fun | 9 => 9 | 3 => 3 | 31 => 23 | 4 => 4 | 0 => 0 | 105 => 314 | 21 => 21 | 5 => 5 | 46 => 230 | 119 => 251 | 139 => 254 | 138 => 253 | 146 => 354 | 51 => 188 | n => n, fun | 1 => 2 | 3 => 0 | 4 => 1 | n => n⟩
theorem Tryz.lays221 : Go.Proofs.Lays.n221 Tryz.prog Tryz.lays221_ren := {
  mixed := by kernel_rfl
  f138 := Tryz.func188.trans (congrArg some (by kernel_rfl))
  f143 := Tryz.func189.trans (congrArg some (by kernel_rfl))
  f195 := Tryz.func118.trans (congrArg some (by kernel_rfl))
  f197 := Tryz.func238.trans (congrArg some (by kernel_rfl))
  f217 := Tryz.func271.trans (congrArg some (by kernel_rfl))
  f218 := Tryz.func239.trans (congrArg some (by kernel_rfl))
  f219 := Tryz.func240.trans (congrArg some (by kernel_rfl))
  f221 := Tryz.func126.trans (congrArg some (by kernel_rfl))
  f224 := Tryz.func273.trans (congrArg some (by kernel_rfl))
  f225 := Tryz.func272.trans (congrArg some (by kernel_rfl))
  f260 := Tryz.func270.trans (congrArg some (by kernel_rfl))
  f266 := Tryz.func293.trans (congrArg some (by kernel_rfl))
  f267 := Tryz.func274.trans (congrArg some (by kernel_rfl))
  f268 := Tryz.func187.trans (congrArg some (by kernel_rfl))
  f314 := Tryz.func294.trans (congrArg some (by kernel_rfl))
  t0 := Tryz.underlying0
  a0 := Tryz.isAgg0
  z0 := Tryz.sizeOf0
  v0 := Tryz.zeroValue0
  t3 := Tryz.underlying3
  a3 := Tryz.isAgg3
  z3 := Tryz.sizeOf3
  v3 := Tryz.zeroValue3
  t4 := Tryz.underlying4
  a4 := Tryz.isAgg4
  z4 := Tryz.sizeOf4
  v4 := Tryz.zeroValue4
  t5 := Tryz.underlying5
  a5 := Tryz.isAgg5
  z5 := Tryz.sizeOf5
  v5 := Tryz.zeroValue5
  t9 := Tryz.underlying9
  a9 := Tryz.isAgg9
  z9 := Tryz.sizeOf9
  v9 := Tryz.zeroValue9
  t21 := Tryz.underlying21
  a21 := Tryz.isAgg21
  z21 := Tryz.sizeOf21
  v21 := Tryz.zeroValue21
  t31 := Tryz.underlying23
  a31 := Tryz.isAgg23
  z31 := Tryz.sizeOf23
  v31 := Tryz.zeroValue23
  t46 := Tryz.underlying230
  a46 := Tryz.isAgg230
  z46 := Tryz.sizeOf230
  v46 := Tryz.zeroValue230
  t51 := Tryz.underlying188
  a51 := Tryz.isAgg188
  z51 := Tryz.sizeOf188
  v51 := Tryz.zeroValue188
  t105 := Tryz.underlying314
  a105 := Tryz.isAgg314
  z105 := Tryz.sizeOf314
  v105 := Tryz.zeroValue314
  t119 := Tryz.underlying251
  a119 := Tryz.isAgg251
  z119 := Tryz.sizeOf251
  t138 := Tryz.underlying253
  a138 := Tryz.isAgg253
  z138 := Tryz.sizeOf253
  v138 := Tryz.zeroValue253
  t139 := Tryz.underlying254
  a139 := Tryz.isAgg254
  z139 := Tryz.sizeOf254
  v139 := Tryz.zeroValue254
  t146 := Tryz.underlying354
  a146 := Tryz.isAgg354
  z146 := Tryz.sizeOf354
  v146 := Tryz.zeroValue354
  g1 := by kernel_rfl
  g3 := by kernel_rfl
  g4 := by kernel_rfl }
open Go.RowKit Go.Lib in
theorem Tryz.strings_genSplit (s sep : ByteArray) (sv : Nat) (n : Int) (N : Nat) (m : Int) (w : World) (hs : s.size < 4294967281) (hm : w.cell? ⟨2, 0, none⟩ = some (.int .i64 m)) (h1 : 1 ≤ sep.size) (hsv : sv ≤ sep.size) (hn0 : n ≠ 0) (hn63 : n ≤ 9223372036854775807) (hN : (N : Int) = min (if n < 0 then (Lib.countB s sep : Int) + 1 else n) ((s.size : Int) + 1)) :
    Calls Tryz.prog 126 #[.string s, .string sep, .int .i64 sv, .int .i64 n] w fun e w' =>
      e = .returned (.slice (some ⟨w.heap.size, 0, none⟩) (Lib.splitB sep sv (N - 1) s).length N) ∧ w' = w.alloc (.cells (Lib.cellsOf (Lib.splitB sep sv (N - 1) s) N) 9) := Any.strings_genSplit Tryz.lays221 (by kernel_rfl) s sep sv n N m w hs hm h1 hsv hn0 hn63 hN
def Tryz.lays146_ren : Go.Shelf.Ren := ⟨fun | 146 => 130 | 221 => 126 | 268 => 187 | 138 => 188 | 143 => 189 | 195 => 118 | 197 => 238 | 218 => 239 | 219 => 240 | 260 => 270 | 217 => 271 | 225 => 272 | 224 => 273 | 267 => 274 | 266 => 293 | 314 => 294 | n => n, fun | 9 => 9 | 31 => 23 | 3 => 3 | 4 => 4 | 0 => 0 | 105 => 314 | 21 => 21 | 5 => 5 | 46 => 230 | 119 => 251 | 139 => 254 | 138 => 253 | 146 => 354 | 51 => 188 | n => n, fun | 1 => 2 | 3 => 0 | 4 => 1 | n => n⟩
theorem Tryz.lays146 : Go.Proofs.Lays.n146 Tryz.prog Tryz.lays146_ren := {
  mixed := by kernel_rfl
  f138 := Tryz.func188.trans (congrArg some (by kernel_rfl))
  f143 := Tryz.func189.trans (congrArg some (by kernel_rfl))
  f146 := Tryz.func130.trans (congrArg some (by kernel_rfl))
  f195 := Tryz.func118.trans (congrArg some (by kernel_rfl))
  f197 := Tryz.func238.trans (congrArg some (by kernel_rfl))
  f217 := Tryz.func271.trans (congrArg some (by kernel_rfl))
  f218 := Tryz.func239.trans (congrArg some (by kernel_rfl))
  f219 := Tryz.func240.trans (congrArg some (by kernel_rfl))
  f221 := Tryz.func126.trans (congrArg some (by kernel_rfl))
  f224 := Tryz.func273.trans (congrArg some (by kernel_rfl))
  f225 := Tryz.func272.trans (congrArg some (by kernel_rfl))
  f260 := Tryz.func270.trans (congrArg some (by kernel_rfl))
  f266 := Tryz.func293.trans (congrArg some (by kernel_rfl))
  f267 := Tryz.func274.trans (congrArg some (by kernel_rfl))
  f268 := Tryz.func187.trans (congrArg some (by kernel_rfl))
  f314 := Tryz.func294.trans (congrArg some (by kernel_rfl))
  t0 := Tryz.underlying0
  a0 := Tryz.isAgg0
  z0 := Tryz.sizeOf0
  v0 := Tryz.zeroValue0
  t3 := Tryz.underlying3
  a3 := Tryz.isAgg3
  z3 := Tryz.sizeOf3
  v3 := Tryz.zeroValue3
  t4 := Tryz.underlying4
  a4 := Tryz.isAgg4
  z4 := Tryz.sizeOf4
  v4 := Tryz.zeroValue4
  t5 := Tryz.underlying5
  a5 := Tryz.isAgg5
  z5 := Tryz.sizeOf5
  v5 := Tryz.zeroValue5
  t9 := Tryz.underlying9
  a9 := Tryz.isAgg9
  z9 := Tryz.sizeOf9
  v9 := Tryz.zeroValue9
  t21 := Tryz.underlying21
  a21 := Tryz.isAgg21
  z21 := Tryz.sizeOf21
  v21 := Tryz.zeroValue21
  t31 := Tryz.underlying23
  a31 := Tryz.isAgg23
  z31 := Tryz.sizeOf23
  v31 := Tryz.zeroValue23
  t46 := Tryz.underlying230
  a46 := Tryz.isAgg230
  z46 := Tryz.sizeOf230
  v46 := Tryz.zeroValue230
  t51 := Tryz.underlying188
  a51 := Tryz.isAgg188
  z51 := Tryz.sizeOf188
  v51 := Tryz.zeroValue188
  t105 := Tryz.underlying314
  a105 := Tryz.isAgg314
  z105 := Tryz.sizeOf314
  v105 := Tryz.zeroValue314
  t119 := Tryz.underlying251
  a119 := Tryz.isAgg251
  z119 := Tryz.sizeOf251
  t138 := Tryz.underlying253
  a138 := Tryz.isAgg253
  z138 := Tryz.sizeOf253
  v138 := Tryz.zeroValue253
  t139 := Tryz.underlying254
  a139 := Tryz.isAgg254
  z139 := Tryz.sizeOf254
  v139 := Tryz.zeroValue254
  t146 := Tryz.underlying354
  a146 := Tryz.isAgg354
  z146 := Tryz.sizeOf354
  v146 := Tryz.zeroValue354
  g1 := by kernel_rfl
  g3 := by kernel_rfl
  g4 := by kernel_rfl }
open Go.RowKit Go.Lib in
/-- strings.Split. (LAID: no walk: one application.) -/
theorem Tryz.strings_Split (s sep : ByteArray) (m : Int) (w : World) (hs : s.size < 4294967281) (hm : w.cell? ⟨2, 0, none⟩ = some (.int .i64 m)) (h1 : 1 ≤ sep.size) :
    Calls Tryz.prog 130 #[.string s, .string sep] w fun e w' =>
      e = .returned (.slice (some ⟨w.heap.size, 0, none⟩) (Lib.countB s sep + 1) (Lib.countB s sep + 1)) ∧ w' = w.alloc (.cells ((Lib.splitB sep 0 (Lib.countB s sep) s).map Value.string).toArray 9) := Any.strings_Split Tryz.lays146 (by kernel_rfl) s sep m w hs hm h1
end Go.Proofs
