/-
  THE EXAMPLE OF THE CHAPTER.
-/
import Derived.Test.YtonomogpephfkaaDoorD17
import Derived.Test.YtonomogpephfkaaDoorD19
import Derived.Test.YtonomogpephfkaaDoorAbsP
set_option linter.unusedVariables false
set_option linter.unusedSimpArgs false
namespace Go.Proofs.D
open Go Go.Abs
attribute [local simp] VC stepV stepTop stepReg stepOp stMove stPick stBin stUn stConv stBox stAlloc stLoad stStore stFieldAddr stField stExtract stNilCheck stMakeFunc stIndexAddr stIndex stLen
  stBuild placesOf fillA stBuildSlice sliceCells repL chunks allPV toPV drawOk drawOk.go mayMakeO mayMake1 disjoint pairOk Oper.apart Oper.looksAt Op.operands Call.operands Region.binds stAppend appBase appTail unName stSlice bndA
  LS.ev LS.get LS.blk LS.put LS.app LS.upd lkS lkH setS setH Nm.eqb guardOf nexts okPair dstOk AV.cellsOf takeAt putAt lkT sliceE fieldT intK isStrT isBoolT abin newOk LS.freshB LS.freshB.go LS.freshB.goH notIn AV.ments AV.ments.mentsL Blk.ments makes upsMents LS.start startL exitTo T Nat.blt
  conv convS convH srcs srcOf blkOk leA leA.leL leB leP laid laidM isArg subH retP resAV resL res1 AV.frz AV.frz.frzL evL AV.ren AV.ren.renL Blk.ren renBs blksOf allSome nodupB onlyArgs blksMents callUps keyed inName inName.go backName callSide
def para : ByteArray := ⟨#[112, 97, 114, 97]⟩
def list : ByteArray := ⟨#[108, 105, 115, 116]⟩
def exE : E := .mk 43 ⟨#[]⟩ [.mk 97 ⟨#[]⟩ [.mk 110 para [], .mk 110 list []]]
def exS : ByteArray := ⟨#[40, 112, 97, 114, 97, 124, 108, 105, 115, 116, 41, 43]⟩
theorem ex_read : read exS = (exE, ⟨⟨#[]⟩, false, 3⟩) := by kernel_rfl
theorem ex_text : exE.text false = exS := by kernel_rfl
theorem ex_para : isName para = true := by decide +kernel
theorem ex_list : isName list = true := by decide +kernel
theorem name_many (n : ByteArray) : (E.mk 110 n []).many = 1 := by rw [E.many_eq]; rfl
theorem name_ok {n : ByteArray} (h : isName n = true) : (E.mk 110 n []).ok = true := by rw [E.ok_eq]; simp [E.op, E.kids, E.name, h]
theorem ex_many2 : (E.mk 97 ⟨#[]⟩ [.mk 110 para [], .mk 110 list []]).many = 3 := by
  rw [E.many_eq]
  show wr .i64 (wr .i64 (1 + (E.mk 110 para []).many) + (E.mk 110 list []).many) = 3
  rw [name_many, name_many]
  kernel_rfl
theorem ex_many : exE.many = 4 := by
  rw [E.many_eq]
  show wr .i64 (1 + (E.mk 97 ⟨#[]⟩ [.mk 110 para [], .mk 110 list []]).many) = 4
  rw [ex_many2]
  kernel_rfl
theorem ex_ok2 : (E.mk 97 ⟨#[]⟩ [.mk 110 para [], .mk 110 list []]).ok = true := by
  rw [E.ok_eq]
  simp [E.op, E.kids, E.name, name_ok ex_para, name_ok ex_list]
theorem ex_ok : exE.ok = true := by
  rw [E.ok_eq]
  simp [exE, E.op, E.kids, E.name, ex_ok2, E.suffix]
theorem ex_right : exE.right = true := by simp [E.right, ex_many, ex_ok]
theorem ex_parse : parse exS = (exE, 0) := by
  unfold parse
  rw [ex_read]
  simp [ex_right, ex_text]
theorem ex_small : exE.small := E.small_mk (by decide) (by
  intro k hk
  simp at hk
  subst hk
  refine E.small_mk (by decide) ?_
  intro k hk
  simp at hk
  rcases hk with rfl | rfl <;> exact E.small_mk (by decide) (by simp))
theorem ex_L (w : Row) : exE.L w ↔ Many (fun v => v = [para] ∨ v = [list]) w := by
  have e1 : E.L.headL exE.kids = fun v => v = [para] ∨ v = [list] := by
    funext v
    apply propext
    simp [exE, E.kids, E.L.headL, L_eq, E.op, E.name, E.L.altL]
  rw [L_eq, e1]
  simp [exE, E.op]
theorem ex_has1 : exE.has [para] = true := by
  simp only [E.has, ex_right, Bool.true_and, decide_eq_true_eq]
  exact (ex_L _).2 (.one (.inl rfl))
theorem ex_has2 : exE.has [list, para] = true := by
  simp only [E.has, ex_right, Bool.true_and, decide_eq_true_eq]
  exact (ex_L _).2 (.more (u := [list]) (v := [para]) (.inr rfl) (.one (.inl rfl)))
theorem ex_has0 : exE.has [] = false := by
  simp only [E.has, ex_right, Bool.true_and, decide_eq_false_iff_not]
  intro h
  have := Many.nil ((ex_L _).1 h) rfl
  simp at this
set_option maxRecDepth 20000 in
theorem f12 (Gl : Granted) : Fun Tryd.prog Gl 12 [] [] (vB true) [] := by
  refine fun_of (T := T) (n := 24) (rs := [.tmp 0]) Tryd.func12 (by kernel_rfl) rfl rfl rfl tok mixed (by simp) fun C hC => ?_
  refine hC.vc [] 60 ?_
  simp
  refine hC.call [] (f13 Gl exS (by decide)) (by simp [exS, E.av, E.cells]) ?_
  rw [ex_parse]
  refine hC.vc [] 60 ?_
  simp [E.av, E.cells]
  refine hC.call [] (f20 Gl exE ex_small [para] (by decide)) (by simp [para, E.av, E.cells]) ?_
  rw [ex_has1]
  refine hC.vc [] 60 ?_
  simp
  refine hC.call [] (f20 Gl exE ex_small [list, para] (by decide)) (by simp [para, list, E.av, E.cells]) ?_
  rw [ex_has2]
  refine hC.vc [] 60 ?_
  simp
  refine hC.call [] (fun_args (f20 Gl exE ex_small [] (by decide)) (args' := [exE.av, .pv (.nilS 0)]) rfl nil_row) (by simp [E.av, E.cells]) ?_
  rw [ex_has0]
  refine hC.vc [] 60 ?_
  simp
end Go.Proofs.D
