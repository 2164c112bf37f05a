/-
  THE LIBRARY'S FUNCTIONS at this dump (out of the shelf's own tool, in its plain mode).
-/
import Derived.Shelf.Strings.OnBuilder
import Derived.Shelf.Strings.Trim
import Derived.Shelf.LaysM
import Derived.Test.YtkjfaanenmhlbaaGreatDoorProg
import Derived.Test.YtkjfaanenmhlbaaGreatDoorZ0
import Derived.Test.YtkjfaanenmhlbaaGreatDoorAbsP
import Derived.Shelf.Strings.SlTrimAscii
namespace Go.Proofs
open Go.Shelf
def Tryz.lays156_ren : Go.Shelf.Ren := ⟨fun | 156 => 75 | 165 => 133 | 166 => 74 | 169 => 77 | 240 => 132 | 241 => 195 | 276 => 194 | 277 => 243 | n => n, fun | 31 => 23 | 9 => 9 | 3 => 3 | 4 => 4 | 0 => 0 | 20 => 20 | 72 => 149 | 76 => 152 | 70 => 146 | 37 => 147 | 75 => 151 | 127 => 220 | 164 => 275 | 5 => 5 | 80 => 156 | n => n, fun | n => n⟩
theorem Tryz.lays156 : Go.Proofs.Lays.n156 Tryz.prog Tryz.lays156_ren := {
  mixed := by kernel_rfl
  f156 := Tryz.func75.trans (congrArg some (by kernel_rfl))
  f165 := Tryz.func133.trans (congrArg some (by kernel_rfl))
  f166 := Tryz.func74.trans (congrArg some (by kernel_rfl))
  f169 := Tryz.func77.trans (congrArg some (by kernel_rfl))
  f240 := Tryz.func132.trans (congrArg some (by kernel_rfl))
  f241 := Tryz.func195.trans (congrArg some (by kernel_rfl))
  f276 := Tryz.func194.trans (congrArg some (by kernel_rfl))
  f277 := Tryz.func243.trans (congrArg some (by kernel_rfl))
  t0 := Tryz.underlying0
  a0 := Tryz.isAgg0
  z0 := Tryz.sizeOf0
  v0 := Tryz.zeroValue0
  t3 := Tryz.underlying3
  a3 := Tryz.isAgg3
  z3 := Tryz.sizeOf3
  v3 := Tryz.zeroValue3
  t4 := Tryz.underlying4
  a4 := Tryz.isAgg4
  z4 := Tryz.sizeOf4
  v4 := Tryz.zeroValue4
  t9 := Tryz.underlying9
  a9 := Tryz.isAgg9
  z9 := Tryz.sizeOf9
  v9 := Tryz.zeroValue9
  t20 := Tryz.underlying20
  a20 := Tryz.isAgg20
  z20 := Tryz.sizeOf20
  v20 := Tryz.zeroValue20
  t31 := Tryz.underlying23
  a31 := Tryz.isAgg23
  z31 := Tryz.sizeOf23
  v31 := Tryz.zeroValue23
  t37 := Tryz.underlying147
  a37 := Tryz.isAgg147
  z37 := Tryz.sizeOf147
  v37 := Tryz.zeroValue147
  t70 := Tryz.underlying146
  a70 := Tryz.isAgg146
  z70 := Tryz.sizeOf146
  v70 := Tryz.zeroValue146
  t72 := Tryz.underlying149
  a72 := Tryz.isAgg149
  z72 := Tryz.sizeOf149
  v72 := Tryz.zeroValue149
  t75 := Tryz.underlying151
  a75 := Tryz.isAgg151
  z75 := Tryz.sizeOf151
  v75 := Tryz.zeroValue151
  t76 := Tryz.underlying152
  a76 := Tryz.isAgg152
  z76 := Tryz.sizeOf152
  v76 := Tryz.zeroValue152
  t127 := Tryz.underlying220
  a127 := Tryz.isAgg220
  z127 := Tryz.sizeOf220
  v127 := Tryz.zeroValue220
  t164 := Tryz.underlying275
  a164 := Tryz.isAgg275
  z164 := Tryz.sizeOf275
  v164 := Tryz.zeroValue275 }
theorem Tryz.Builder_Extra_156 : Builder.Extra Tryz.prog Tryz.lays156_ren := {
  sizeBuilder := by kernel_rfl
  liesBuilder := by kernel_rfl
  t5 := Tryz.underlying5
  a5 := Tryz.isAgg5
  z5 := Tryz.sizeOf5
  v5 := Tryz.zeroValue5
  infoByte := by kernel_rfl
  cellsByte := by kernel_rfl
  sizeByte := by kernel_rfl
  neB5 := by decide }
open Go.RowKit in
theorem Tryz.strings_Join_none (a : Option Addr) (c : Nat) (sep : ByteArray) (w : World) :
    Calls Tryz.prog 75 #[.slice a 0 c, .string sep] w fun e w' => e = .returned (.string ⟨#[]⟩) ∧ w' = w := Any.strings_Join_none Tryz.lays156 Tryz.Builder_Extra_156 a c sep w
open Go.RowKit in
theorem Tryz.strings_Join (bk o c : Nat) (xs : List ByteArray) (sep : ByteArray) (w : World) (hcells : ∀ (j : Nat) x, xs[j]? = some x → w.cell? ⟨bk, o + j, none⟩ = some (.string x)) (hbk : bk < w.heap.size) (hN : xs.length ≤ 140737488355328) (hcap : xs.length ≤ c) (hlen : (Lib.join (xs.map (·.data.toList)) sep.data.toList).length ≤ 140737488355328) :
    Calls Tryz.prog 75 #[.slice (some ⟨bk, o, none⟩) xs.length c, .string sep] w fun e w' => e = .returned (.string ⟨(Lib.join (xs.map (·.data.toList)) sep.data.toList).toArray⟩) ∧ Below w.heap.size w w' := Any.strings_Join Tryz.lays156 Tryz.Builder_Extra_156 bk o c xs sep w hcells hbk hN hcap hlen
def Tryz.lays161_ren : Go.Shelf.Ren := ⟨fun | 161 => 295 | 231 => 217 | 227 => 219 | 233 => 220 | 235 => 222 | 228 => 258 | 197 => 238 | 151 => 259 | 260 => 270 | 152 => 281 | 137 => 297 | 119 => 298 | 224 => 273 | 225 => 272 | 217 => 271 | 266 => 293 | n => n, fun | 9 => 9 | 4 => 4 | 3 => 3 | 5 => 5 | 117 => 298 | 116 => 297 | 0 => 0 | 124 => 301 | 105 => 314 | 21 => 21 | 119 => 251 | 46 => 230 | 139 => 254 | 138 => 253 | n => n, fun | 3 => 0 | 4 => 1 | n => n⟩
theorem Tryz.lays161 : Go.Proofs.Lays.n161 Tryz.prog Tryz.lays161_ren := {
  mixed := by kernel_rfl
  f119 := Tryz.func298.trans (congrArg some (by kernel_rfl))
  f137 := Tryz.func297.trans (congrArg some (by kernel_rfl))
  f151 := Tryz.func259.trans (congrArg some (by kernel_rfl))
  f152 := Tryz.func281.trans (congrArg some (by kernel_rfl))
  f161 := Tryz.func295.trans (congrArg some (by kernel_rfl))
  f197 := Tryz.func238.trans (congrArg some (by kernel_rfl))
  f217 := Tryz.func271.trans (congrArg some (by kernel_rfl))
  f224 := Tryz.func273.trans (congrArg some (by kernel_rfl))
  f225 := Tryz.func272.trans (congrArg some (by kernel_rfl))
  f227 := Tryz.func219.trans (congrArg some (by kernel_rfl))
  f228 := Tryz.func258.trans (congrArg some (by kernel_rfl))
  f231 := Tryz.func217.trans (congrArg some (by kernel_rfl))
  f233 := Tryz.func220.trans (congrArg some (by kernel_rfl))
  f235 := Tryz.func222.trans (congrArg some (by kernel_rfl))
  f260 := Tryz.func270.trans (congrArg some (by kernel_rfl))
  f266 := Tryz.func293.trans (congrArg some (by kernel_rfl))
  t0 := Tryz.underlying0
  a0 := Tryz.isAgg0
  z0 := Tryz.sizeOf0
  v0 := Tryz.zeroValue0
  t3 := Tryz.underlying3
  a3 := Tryz.isAgg3
  z3 := Tryz.sizeOf3
  v3 := Tryz.zeroValue3
  t4 := Tryz.underlying4
  a4 := Tryz.isAgg4
  z4 := Tryz.sizeOf4
  v4 := Tryz.zeroValue4
  t5 := Tryz.underlying5
  a5 := Tryz.isAgg5
  z5 := Tryz.sizeOf5
  v5 := Tryz.zeroValue5
  t9 := Tryz.underlying9
  a9 := Tryz.isAgg9
  z9 := Tryz.sizeOf9
  v9 := Tryz.zeroValue9
  t21 := Tryz.underlying21
  a21 := Tryz.isAgg21
  z21 := Tryz.sizeOf21
  v21 := Tryz.zeroValue21
  t46 := Tryz.underlying230
  a46 := Tryz.isAgg230
  z46 := Tryz.sizeOf230
  v46 := Tryz.zeroValue230
  t105 := Tryz.underlying314
  a105 := Tryz.isAgg314
  z105 := Tryz.sizeOf314
  v105 := Tryz.zeroValue314
  t116 := Tryz.underlying297
  a116 := Tryz.isAgg297
  z116 := Tryz.sizeOf297
  t117 := Tryz.underlying298
  a117 := Tryz.isAgg298
  z117 := Tryz.sizeOf298
  v117 := Tryz.zeroValue298
  t119 := Tryz.underlying251
  a119 := Tryz.isAgg251
  z119 := Tryz.sizeOf251
  t124 := Tryz.underlying301
  a124 := Tryz.isAgg301
  z124 := Tryz.sizeOf301
  v124 := Tryz.zeroValue301
  t138 := Tryz.underlying253
  a138 := Tryz.isAgg253
  z138 := Tryz.sizeOf253
  v138 := Tryz.zeroValue253
  t139 := Tryz.underlying254
  a139 := Tryz.isAgg254
  z139 := Tryz.sizeOf254
  v139 := Tryz.zeroValue254
  g3 := by kernel_rfl
  g4 := by kernel_rfl }
def Tryz.lays160_ren : Go.Shelf.Ren := ⟨fun | 160 => 169 | 232 => 218 | 231 => 217 | 227 => 219 | 234 => 221 | 233 => 220 | 236 => 223 | 235 => 222 | 228 => 258 | 271 => 260 | 151 => 259 | 197 => 238 | 120 => 282 | 152 => 281 | 260 => 270 | 137 => 297 | 119 => 298 | 224 => 273 | 225 => 272 | 217 => 271 | 266 => 293 | n => n, fun | 9 => 9 | 4 => 4 | 3 => 3 | 5 => 5 | 117 => 298 | 116 => 297 | 0 => 0 | 124 => 301 | 21 => 21 | 105 => 314 | 46 => 230 | 119 => 251 | 139 => 254 | 138 => 253 | n => n, fun | 3 => 0 | 4 => 1 | n => n⟩
theorem Tryz.lays160 : Go.Proofs.Lays.n160 Tryz.prog Tryz.lays160_ren := {
  mixed := by kernel_rfl
  f119 := Tryz.func298.trans (congrArg some (by kernel_rfl))
  f120 := Tryz.func282.trans (congrArg some (by kernel_rfl))
  f137 := Tryz.func297.trans (congrArg some (by kernel_rfl))
  f151 := Tryz.func259.trans (congrArg some (by kernel_rfl))
  f152 := Tryz.func281.trans (congrArg some (by kernel_rfl))
  f160 := Tryz.func169.trans (congrArg some (by kernel_rfl))
  f197 := Tryz.func238.trans (congrArg some (by kernel_rfl))
  f217 := Tryz.func271.trans (congrArg some (by kernel_rfl))
  f224 := Tryz.func273.trans (congrArg some (by kernel_rfl))
  f225 := Tryz.func272.trans (congrArg some (by kernel_rfl))
  f227 := Tryz.func219.trans (congrArg some (by kernel_rfl))
  f228 := Tryz.func258.trans (congrArg some (by kernel_rfl))
  f231 := Tryz.func217.trans (congrArg some (by kernel_rfl))
  f232 := Tryz.func218.trans (congrArg some (by kernel_rfl))
  f233 := Tryz.func220.trans (congrArg some (by kernel_rfl))
  f234 := Tryz.func221.trans (congrArg some (by kernel_rfl))
  f235 := Tryz.func222.trans (congrArg some (by kernel_rfl))
  f236 := Tryz.func223.trans (congrArg some (by kernel_rfl))
  f260 := Tryz.func270.trans (congrArg some (by kernel_rfl))
  f266 := Tryz.func293.trans (congrArg some (by kernel_rfl))
  f271 := Tryz.func260.trans (congrArg some (by kernel_rfl))
  t0 := Tryz.underlying0
  a0 := Tryz.isAgg0
  z0 := Tryz.sizeOf0
  v0 := Tryz.zeroValue0
  t3 := Tryz.underlying3
  a3 := Tryz.isAgg3
  z3 := Tryz.sizeOf3
  v3 := Tryz.zeroValue3
  t4 := Tryz.underlying4
  a4 := Tryz.isAgg4
  z4 := Tryz.sizeOf4
  v4 := Tryz.zeroValue4
  t5 := Tryz.underlying5
  a5 := Tryz.isAgg5
  z5 := Tryz.sizeOf5
  v5 := Tryz.zeroValue5
  t9 := Tryz.underlying9
  a9 := Tryz.isAgg9
  z9 := Tryz.sizeOf9
  v9 := Tryz.zeroValue9
  t21 := Tryz.underlying21
  a21 := Tryz.isAgg21
  z21 := Tryz.sizeOf21
  v21 := Tryz.zeroValue21
  t46 := Tryz.underlying230
  a46 := Tryz.isAgg230
  z46 := Tryz.sizeOf230
  v46 := Tryz.zeroValue230
  t105 := Tryz.underlying314
  a105 := Tryz.isAgg314
  z105 := Tryz.sizeOf314
  v105 := Tryz.zeroValue314
  t116 := Tryz.underlying297
  a116 := Tryz.isAgg297
  z116 := Tryz.sizeOf297
  t117 := Tryz.underlying298
  a117 := Tryz.isAgg298
  z117 := Tryz.sizeOf298
  v117 := Tryz.zeroValue298
  t119 := Tryz.underlying251
  a119 := Tryz.isAgg251
  z119 := Tryz.sizeOf251
  t124 := Tryz.underlying301
  a124 := Tryz.isAgg301
  z124 := Tryz.sizeOf301
  v124 := Tryz.zeroValue301
  t138 := Tryz.underlying253
  a138 := Tryz.isAgg253
  z138 := Tryz.sizeOf253
  v138 := Tryz.zeroValue253
  t139 := Tryz.underlying254
  a139 := Tryz.isAgg254
  z139 := Tryz.sizeOf254
  v139 := Tryz.zeroValue254
  g3 := by kernel_rfl
  g4 := by kernel_rfl }
end Go.Proofs
set_option linter.unusedVariables false
set_option linter.unusedSimpArgs false
namespace Go.Proofs.D
open Go Go.Abs
def low : ByteArray := ⟨#[97, 98, 99, 100, 101, 102, 103, 104, 105, 106, 107, 108, 109, 110, 111, 112, 113, 114, 115, 116, 117, 118, 119, 120, 121, 122]⟩
theorem low_ascii : ∀ (j : Nat) b, low.data.toList[j]? = some b → b.toNat < 128 := by
  intro j b h
  have : ∀ b ∈ low.data.toList, b.toNat < 128 := by decide
  exact this b (List.mem_of_getElem? h)
theorem f99 (Gl : Granted) (s : ByteArray) : Fun Tryz.prog Gl 295 [vS s, vS low] [] (vS ⟨(Lib.trimLeftS s.data.toList low.data.toList).toArray⟩) [] :=
  fun_vals [.string s, .string low] _ ⟨_, Tryz.func295, by kernel_rfl, rfl⟩ rfl fun w => Any.strings_TrimLeft_laid Tryz.lays161 (by kernel_rfl) s low w (by decide) low_ascii
theorem f86 (Gl : Granted) (s : ByteArray) (hs : s.size ≤ 9223372036854775807) : Fun Tryz.prog Gl 169 [vS s, vS low] [] (vS ⟨(Lib.trimS s.data.toList low.data.toList).toArray⟩) [] :=
  fun_vals [.string s, .string low] _ ⟨_, Tryz.func169, by kernel_rfl, rfl⟩ rfl fun w => Any.strings_Trim_laid Tryz.lays160 (by kernel_rfl) s low w hs (by decide) low_ascii
open Go.RowKit
def joinB (l : List ByteArray) (sep : ByteArray) : ByteArray := ⟨(Lib.join (l.map (·.data.toList)) sep.data.toList).toArray⟩
theorem str_cell {w : World} {F : Nat → Prop} {s : ByteArray} {v : Value} (h : RepP w F (.val (.string s)) v) : v = .string s := by
  cases h with
  | val _ _ => rfl
theorem f39 (Gl : Granted) (l : List ByteArray) (sep : ByteArray) (hN : l.length ≤ 140737488355328) (hlen : (joinB l sep).size ≤ 140737488355328) :
    Fun Tryz.prog Gl 75 [.pv (.ro 1 (l.map fun s => [.val (.string s)])), vS sep] [] (vS (joinB l sep)) [] := by
  refine fun_shelf ⟨_, Tryz.func75, by kernel_rfl, rfl⟩ fun w F cargs _ hF hlen' hr => ?_
  match cargs, hlen' with
  | [c0, c1], _ =>
    have h0 := hr 0 _ c0 rfl rfl
    have h1 := hr 1 _ c1 rfl rfl
    obtain rfl := bool_of h1
    cases h0 with
    | pv _ _ hp =>
      cases hp with
      | ro _ _ A cap u hA hc hm hl ha hrr =>
        by_cases hne : l = []
        · subst hne
          refine (Tryz.strings_Join_none A cap sep w).mono fun e w' ⟨he, hw⟩ => ⟨_, he, ?_, hw ▸ Below.refl _ _⟩
          exact .pv _ _ (.val _ rfl)
        · obtain ⟨ad, rfl, hs, hFa, hcell⟩ := ha (by simpa using hne)
          obtain ⟨bk, o, sp⟩ := ad
          simp only at hs
          subst hs
          have hl' : (l.map fun s => [PV.val (.string s)]).length = l.length := by simp
          rw [hl'] at hc ⊢
          refine (Tryz.strings_Join bk o cap l sep w (fun j x hx => ?_) (hF bk hFa) hN hc (by simpa [joinB, ByteArray.size] using hlen)).mono fun e w' ⟨he, hb⟩ => ⟨_, he, .pv _ _ (.val _ rfl), hb⟩
          have h2 := hcell j 0 [.val (.string x)] (.val (.string x)) (by simp [hx]) rfl
          have h3 := hrr j 0 [.val (.string x)] (.val (.string x)) (by simp [hx]) rfl
          rw [str_cell h3] at h2
          rw [← h2]
          congr 1
          unfold Addr.add
          split
          · rename_i h; simp at h; subst h; rfl
          · simp
end Go.Proofs.D
