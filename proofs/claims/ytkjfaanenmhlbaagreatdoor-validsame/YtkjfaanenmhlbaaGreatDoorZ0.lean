/-
  THE TYPES of the part that is gone through, and a few plain facts.
-/
import Derived.Test.YtkjfaanenmhlbaaGreatDoorProg
import Derived.Test.YtkjfaanenmhlbaaGreatDoorAbsP
set_option linter.unusedVariables false
set_option linter.unusedSimpArgs false
namespace Go.Proofs.D
open Go Go.Abs
def T:TT:=[(3,⟨false,1,8,[.val (.int .i64 0)],.int .i64⟩),
 (4,⟨false,1,1,[.val (.bool false)],.bool⟩),
 (5,⟨false,1,1,[.val (.int .u8 0)],.int .u8⟩),
 (9,⟨false,1,16,[.val (.string ⟨#[]⟩)],.string⟩),
 (21,⟨false,1,4,[.val (.int .i32 0)],.int .i32⟩),
 (61,⟨false,1,24,[.nilS 3],.slice 63⟩),
 (63,⟨true,3,48,[.val (.int .u8 0),.val (.string ⟨#[]⟩),.nilS 3],.str [(0,5),(1,9),(2,61)]⟩),
 (30,⟨false,1,8,[.val (.int .i64 0)],.int .i64⟩),
 (103,⟨false,1,24,[.nilS 3],.slice 105⟩),
 (105,⟨true,3,48,[.val (.int .u8 0),.val (.string ⟨#[]⟩),.nilS 3],.str [(0,5),(1,9),(2,103)]⟩),
 (23,⟨false,1,24,[.nilS 1],.slice 9⟩),
 (273,⟨true,3,32,[.val (.string ⟨#[]⟩),.val (.bool false),.val (.int .i64 0)],.str [(0,9),(1,4),(2,3)]⟩),
 (128,⟨false,1,8,[.val (.map none)],.other⟩),
 (147,⟨false,1,24,[.nilS 1],.slice 5⟩),
 (244,⟨false,1,8,[.val (.map none)],.other⟩)]
theorem tok:TOk Tryz.prog T:=
 tok_cons (tok1 (z:=.int .i64 0) Tryz.isAgg3 (by kernel_rfl) rfl rfl rfl (by decide) Tryz.underlying3) <|
 tok_cons (tok1 (z:=.bool false) Tryz.isAgg4 (by kernel_rfl) rfl rfl rfl (by decide) Tryz.underlying4) <|
 tok_cons (tok1 (z:=.int .u8 0) Tryz.isAgg5 (by kernel_rfl) rfl rfl rfl (by decide) Tryz.underlying5) <|
 tok_cons (tok1 (z:=.string ⟨#[]⟩) Tryz.isAgg9 (by kernel_rfl) rfl rfl rfl (by decide) Tryz.underlying9) <|
 tok_cons (tok1 (z:=.int .i32 0) Tryz.isAgg21 (by kernel_rfl) rfl rfl rfl (by decide) Tryz.underlying21) <|
 tok_cons (tok1 (z:=.slice none 0 0) Tryz.isAgg61 (by kernel_rfl) rfl rfl rfl (by decide) Tryz.underlying61) <|
 tok_cons (tok1 (z:=.agg #[.int .u8 0,.string ⟨#[]⟩,.slice none 0 0]) Tryz.isAgg63 (by kernel_rfl) rfl rfl rfl (by decide) ⟨_,Tryz.underlying63,rfl⟩) <|
 tok_cons (tok1 (z:=.int .i64 0) Tryz.isAgg30 (by kernel_rfl) rfl rfl rfl (by decide) Tryz.underlying30) <|
 tok_cons (tok1 (z:=.slice none 0 0) Tryz.isAgg103 (by kernel_rfl) rfl rfl rfl (by decide) Tryz.underlying103) <|
 tok_cons (tok1 (z:=.agg #[.int .u8 0,.string ⟨#[]⟩,.slice none 0 0]) Tryz.isAgg105 (by kernel_rfl) rfl rfl rfl (by decide) ⟨_,Tryz.underlying105,rfl⟩) <|
 tok_cons (tok1 (z:=.slice none 0 0) Tryz.isAgg23 (by kernel_rfl) rfl rfl rfl (by decide) Tryz.underlying23) <|
 tok_cons (tok1 (z:=.agg #[.string ⟨#[]⟩,.bool false,.int .i64 0]) Tryz.isAgg273 (by kernel_rfl) rfl rfl rfl (by decide) ⟨_,Tryz.underlying273,rfl⟩) <|
 tok_cons (tok1 (z:=.map none) Tryz.isAgg128 (by kernel_rfl) rfl rfl rfl (by decide) trivial) <|
 tok_cons (tok1 (z:=.slice none 0 0) Tryz.isAgg147 (by kernel_rfl) rfl rfl rfl (by decide) Tryz.underlying147) <|
 tok_cons (tok1 (z:=.map none) Tryz.isAgg244 (by kernel_rfl) rfl rfl rfl (by decide) trivial) <| tok_nil
theorem mixed:Tryz.prog.follows .mixedOrders=true:=by kernel_rfl
theorem wr64 (z:Int)(h : -9223372036854775808≤z∧z<9223372036854775808):wr .i64 z=z:=by
 rw [wr_eq,IntKind.wrap_i64];omega
theorem foldl_drop {α β:Type}(f:β→α→β)(l:List α)(i:Nat)(h:i<l.length)(b:β):(l.drop i).foldl f b=(l.drop (i+1)).foldl f (f b l[i]):=by
 rw [List.drop_eq_getElem_cons h];rfl
abbrev vI (n:Int):AV:=.pv (.val (.int .i64 n))
abbrev vS (s:ByteArray):AV:=.pv (.val (.string s))
abbrev vB (b:Bool):AV:=.pv (.val (.bool b))
theorem go_lenB {C:Ctx}{todo:List Item}{L:LS}(r:Nm)(ty:Nat)(cs:List AV)(j sz:Nat)(es:List (List PV))(hb:L.blk r=some (.box ty cs))(hj:cs[j]?=some (.pv (.ro sz es)))(h:es.length≤9223372036854775807→Go C (.top todo L)):Go C (.top todo L):=by
 intro hd F a w hi cs';have hs:=hi.blocks r;rw [hb] at hs;obtain ⟨k,arr,_,_,h3,h4,_⟩:=hs;have hlt:j<arr.size:=by rw [h3];exact (List.getElem?_eq_some_iff.1 hj).1
 have hv:=h4 j _ arr[j] hj (by simp [hlt]);generalize arr[j]=v at hv;cases hv with
 |pv _ _ hp=>cases hp with
  |ro _ _ A cap u hA hc hm=>exact h hm hd F a w hi cs'
attribute [simp] VC VCS stepVS stepTopS firstId memN bigB unmark markT mkOff calmP keepT boundB boundC stepV stepTop stepReg stepOp stMove stPick stBin stUn stConv stBox stAlloc stLoad stStore stFieldAddr stField stExtract stNilCheck stMakeFunc stIndexAddr stIndex stLen
 stBuild placesOf fillA stBuildSlice sliceCells repL chunks allPV toPV drawOk drawOk.go mayMakeO mayMake1 disjoint pairS Oper.apart Oper.looksAt Op.operands Call.operands Region.binds stAppend appBase appTail unName stSlice bndA
 LS.ev LS.get LS.blk LS.put LS.app LS.upd lkS lkH setS setH Nm.eqb guardOf nexts okPair dstOk AV.cellsOf takeAt putAt lkT sliceE fieldT intK isStrT isBoolT abin newOk LS.freshB LS.freshB.go LS.freshB.goH notIn AV.ments AV.ments.mentsL Blk.ments makes upsMents LS.start startL exitTo T Nat.blt
 conv convS convH srcs srcOf blkOk leA leA.leL Go.Abs.leB leP laid laidM laidG isArg subH retP resAV resL res1 AV.frz AV.frz.frzL evL AV.ren AV.ren.renL Blk.ren renBs blksOf allSome nodupB onlyArgs blksMents callUps keyed inName inName.go backName callSide
end Go.Proofs.D
