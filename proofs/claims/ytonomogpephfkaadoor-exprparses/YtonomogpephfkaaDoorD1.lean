/-
  THE TYPES of the part that is gone through, and a few plain facts.
-/
import Derived.Test.YtonomogpephfkaaDoorProg
import Derived.Test.YtonomogpephfkaaDoorAbsI
set_option linter.unusedVariables false
set_option linter.unusedSimpArgs false
namespace Go.Proofs.D
open Go Go.Abs
def T : TT := [(3, ⟨false, 1, 8, [.val (.int .i64 0)], .int .i64⟩),
  (4, ⟨false, 1, 1, [.val (.bool false)], .bool⟩),
  (5, ⟨false, 1, 1, [.val (.int .u8 0)], .int .u8⟩),
  (9, ⟨false, 1, 16, [.val (.string ⟨#[]⟩)], .string⟩),
  (21, ⟨false, 1, 4, [.val (.int .i32 0)], .int .i32⟩),
  (23, ⟨false, 1, 24, [.nilS 3], .slice 25⟩),
  (25, ⟨true, 3, 48, [.val (.int .u8 0), .val (.string ⟨#[]⟩), .nilS 3], .str [(0, 5), (1, 9), (2, 23)]⟩),
  (26, ⟨false, 1, 8, [.val (.int .i64 0)], .int .i64⟩),
  (29, ⟨false, 1, 24, [.nilS 3], .slice 31⟩),
  (31, ⟨true, 3, 48, [.val (.int .u8 0), .val (.string ⟨#[]⟩), .nilS 3], .str [(0, 5), (1, 9), (2, 29)]⟩),
  (42, ⟨false, 1, 24, [.nilS 1], .slice 9⟩),
  (59, ⟨true, 3, 32, [.val (.string ⟨#[]⟩), .val (.bool false), .val (.int .i64 0)], .str [(0, 9), (1, 4), (2, 3)]⟩),
  (66, ⟨false, 1, 8, [.val (.map none)], .other⟩),
  (81, ⟨false, 1, 24, [.nilS 1], .slice 5⟩),
  (98, ⟨false, 1, 8, [.val (.map none)], .other⟩)]
theorem tok : TOk Tryd.prog T :=
  tok_cons (tok1 (z := .int .i64 0) Tryd.isAgg3 (by kernel_rfl) rfl rfl rfl (by decide) Tryd.underlying3) <|
  tok_cons (tok1 (z := .bool false) Tryd.isAgg4 (by kernel_rfl) rfl rfl rfl (by decide) Tryd.underlying4) <|
  tok_cons (tok1 (z := .int .u8 0) Tryd.isAgg5 (by kernel_rfl) rfl rfl rfl (by decide) Tryd.underlying5) <|
  tok_cons (tok1 (z := .string ⟨#[]⟩) Tryd.isAgg9 (by kernel_rfl) rfl rfl rfl (by decide) Tryd.underlying9) <|
  tok_cons (tok1 (z := .int .i32 0) Tryd.isAgg21 (by kernel_rfl) rfl rfl rfl (by decide) Tryd.underlying21) <|
  tok_cons (tok1 (z := .slice none 0 0) Tryd.isAgg23 (by kernel_rfl) rfl rfl rfl (by decide) Tryd.underlying23) <|
  tok_cons (tok1 (z := .agg #[.int .u8 0, .string ⟨#[]⟩, .slice none 0 0]) Tryd.isAgg25 (by kernel_rfl) rfl rfl rfl (by decide) ⟨_, Tryd.underlying25, rfl⟩) <|
  tok_cons (tok1 (z := .int .i64 0) Tryd.isAgg26 (by kernel_rfl) rfl rfl rfl (by decide) Tryd.underlying26) <|
  tok_cons (tok1 (z := .slice none 0 0) Tryd.isAgg29 (by kernel_rfl) rfl rfl rfl (by decide) Tryd.underlying29) <|
  tok_cons (tok1 (z := .agg #[.int .u8 0, .string ⟨#[]⟩, .slice none 0 0]) Tryd.isAgg31 (by kernel_rfl) rfl rfl rfl (by decide) ⟨_, Tryd.underlying31, rfl⟩) <|
  tok_cons (tok1 (z := .slice none 0 0) Tryd.isAgg42 (by kernel_rfl) rfl rfl rfl (by decide) Tryd.underlying42) <|
  tok_cons (tok1 (z := .agg #[.string ⟨#[]⟩, .bool false, .int .i64 0]) Tryd.isAgg59 (by kernel_rfl) rfl rfl rfl (by decide) ⟨_, Tryd.underlying59, rfl⟩) <|
  tok_cons (tok1 (z := .map none) Tryd.isAgg66 (by kernel_rfl) rfl rfl rfl (by decide) trivial) <|
  tok_cons (tok1 (z := .slice none 0 0) Tryd.isAgg81 (by kernel_rfl) rfl rfl rfl (by decide) Tryd.underlying81) <|
  tok_cons (tok1 (z := .map none) Tryd.isAgg98 (by kernel_rfl) rfl rfl rfl (by decide) trivial) <| tok_nil
theorem mixed : Tryd.prog.follows .mixedOrders = true := by kernel_rfl
theorem wr64 (z : Int) (h : -9223372036854775808 ≤ z ∧ z < 9223372036854775808) : wr .i64 z = z := by
  rw [wr_eq, IntKind.wrap_i64]; omega
theorem foldl_drop {α β : Type} (f : β → α → β) (l : List α) (i : Nat) (h : i < l.length) (b : β) : (l.drop i).foldl f b = (l.drop (i + 1)).foldl f (f b l[i]) := by
  rw [List.drop_eq_getElem_cons h]; rfl
abbrev vI (n : Int) : AV := .pv (.val (.int .i64 n))
abbrev vS (s : ByteArray) : AV := .pv (.val (.string s))
abbrev vB (b : Bool) : AV := .pv (.val (.bool b))
end Go.Proofs.D
/-
  PREFIXES.
-/
set_option linter.unusedVariables false
set_option linter.unusedSimpArgs false
namespace Go.Proofs.D
open Go Go.Abs
attribute [local simp] VC stepV stepTop stepReg stepOp stMove stPick stBin stUn stConv stBox stAlloc stLoad stStore stFieldAddr stField stExtract stNilCheck stMakeFunc stIndexAddr stIndex stLen
  stBuild placesOf fillA stBuildSlice sliceCells repL chunks allPV toPV drawOk drawOk.go mayMakeO mayMake1 disjoint pairOk Oper.apart Oper.looksAt Op.operands Call.operands Region.binds stAppend appBase appTail unName stSlice bndA
  LS.ev LS.get LS.blk LS.put LS.app LS.upd lkS lkH setS setH Nm.eqb guardOf nexts okPair dstOk AV.cellsOf takeAt putAt lkT sliceE fieldT intK isStrT isBoolT abin newOk LS.freshB LS.freshB.go LS.freshB.goH notIn AV.ments AV.ments.mentsL Blk.ments makes upsMents LS.start startL exitTo T Nat.blt
  conv convS convH srcs srcOf blkOk leA leA.leL leB leP laid laidM isArg subH retP resAV resL res1 AV.frz AV.frz.frzL evL AV.ren AV.ren.renL Blk.ren renBs blksOf allSome nodupB onlyArgs blksMents callUps keyed inName inName.go backName callSide
def hasPre (s p : ByteArray) : Bool := decide (p.size ≤ s.size) && decide (s.extract 0 p.size = p)
theorem f96 (Gl : Granted) (s p : ByteArray) : Fun Tryd.prog Gl 96 [vS s, vS p] [] (vB (hasPre s p)) [] := by
  refine fun_of (T := T) (n := 18) (rs := [.tmp 4]) Tryd.func96 (by kernel_rfl) rfl rfl rfl tok mixed (by simp) fun C hC => ?_
  refine hC.vc [] 60 ?_
  simp
  by_cases h : p.size ≤ s.size
  · simp [h, hasPre]
  · simp [h, hasPre]
def cutPre (s p : ByteArray) : ByteArray := if hasPre s p = true then s.extract p.size s.size else s
theorem hasPre_le {s p : ByteArray} (h : hasPre s p = true) : p.size ≤ s.size := by simp [hasPre] at h; exact h.1
theorem f75 (Gl : Granted) (s p : ByteArray) : Fun Tryd.prog Gl 75 [vS s, vS p] [] (.tup [vS (cutPre s p), vB (hasPre s p)]) [] := by
  refine fun_of (T := T) (n := 15) (rs := [.tmp 4, .tmp 5]) Tryd.func75 (by kernel_rfl) rfl rfl rfl tok mixed (by simp) fun C hC => ?_
  refine hC.vc [] 60 ?_
  simp
  refine hC.call [] (f96 Gl s p) (by simp) ?_
  refine hC.vc [] 60 ?_
  simp
  cases h : hasPre s p
  · simp [cutPre, h]
  · simp [cutPre, h, hasPre_le h]
theorem f50 (Gl : Granted) (s p : ByteArray) : Fun Tryd.prog Gl 50 [vS s, vS p] [] (.tup [vS (cutPre s p), vB (hasPre s p)]) [] := by
  refine fun_of (T := T) (n := 11) (rs := [.tmp 4, .tmp 5]) Tryd.func50 (by kernel_rfl) rfl rfl rfl tok mixed (by simp) fun C hC => ?_
  refine hC.vc [] 60 ?_
  simp
  refine hC.call [] (f75 Gl s p) (by simp) ?_
  refine hC.vc [] 60 ?_
  simp
/-- The reader of expressions. -/
def rdB (left : ByteArray) (bad : Bool) (many : Int) : Blk := .box 59 [vS left, vB bad, vI many]
theorem f81 (Gl : Granted) (s p : ByteArray) (bad : Bool) (many : Int) : Fun Tryd.prog Gl 81 [.ptr (.arg 0) 0, vS p] [some (rdB s bad many)] (vB (hasPre s p)) [some (rdB (cutPre s p) bad many)] := by
  refine fun_of (T := T) (n := 21) (rs := [.tmp 4]) Tryd.func81 (by kernel_rfl) rfl rfl rfl tok mixed (by simp) fun C hC => ?_
  refine hC.vc [] 60 ?_
  simp [rdB]
  refine hC.call [] (f50 Gl s p) (by simp) ?_
  refine hC.vc [] 60 ?_
  simp [rdB]
end Go.Proofs.D
