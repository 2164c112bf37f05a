/-
  THE LIBRARY'S FUNCTIONS that read its tables; a text between quotes.
-/
import Derived.Test.YtonomogpephfkaaDoorK4
import Derived.Test.YtonomogpephfkaaDoorP3
import Derived.Test.YtonomogpephfkaaDoorAbsM
import Derived.Test.YtonomogpephfkaaDoorShelfB
set_option linter.unusedVariables false
set_option linter.unusedSimpArgs false
set_option linter.unusedSimpArgs false
namespace Go.Proofs.D
open Go Go.Abs Go.RowKit
attribute [local simp] VC stepV stepTop stepReg stepOp stMove stPick stBin stUn stConv stBox stAlloc stLoad stStore stFieldAddr stField stExtract stNilCheck stMakeFunc stIndexAddr stIndex stLen
  stBuild placesOf fillA stBuildSlice sliceCells repL chunks allPV toPV drawOk drawOk.go mayMakeO mayMake1 disjoint pairOk Oper.apart Oper.looksAt Op.operands Call.operands Region.binds stAppend appBase appTail unName stSlice bndA
  LS.ev LS.get LS.blk LS.put LS.app LS.upd lkS lkH setS setH Nm.eqb guardOf nexts okPair dstOk AV.cellsOf takeAt putAt lkT sliceE fieldT intK isStrT isBoolT abin newOk LS.freshB LS.freshB.go LS.freshB.goH notIn AV.ments AV.ments.mentsL Blk.ments makes upsMents LS.start startL exitTo T T3 outs callSideO callSideD upsR backO freshAll argB onlyIO List.map List.append List.nil_append List.cons_append Nat.blt
  conv convS convH srcs srcOf blkOk leA leA.leL leB leP laid laidM isArg subH retP resAV resL res1 AV.frz AV.frz.frzL evL AV.ren AV.ren.renL Blk.ren renBs blksOf allSome nodupB onlyArgs blksMents callUps keyed inName inName.go backName callSide
/-- The library's tables read as they are laid. -/
def tabs : Granted := ⟨fun w F => Lib.Utf8Tabs 0 1 w ∧ F 0 ∧ F 1 ∧ (∃ m, w.cell? ⟨2, 0, none⟩ = some (.int .i64 m)) ∧ F 2, by
  rintro w w' F F' ⟨⟨h1, h2⟩, f0, f1, ⟨m, hm⟩, f2⟩ hw hF
  have hc : ∀ (k o : Nat), F k → w'.cell? ⟨k, o, none⟩ = w.cell? ⟨k, o, none⟩ := fun k o hk => World.cell?_of_block (w := w) (hw k hk)
  refine ⟨⟨fun c hc' => by rw [hc 0 c f0]; exact h1 c hc', fun i hi => ?_⟩, hF _ f0, hF _ f1, ⟨m, by rw [hc 2 0 f2]; exact hm⟩, hF _ f2⟩
  rw [hc 1 _ f1, hc 1 _ f1]
  exact h2 i hi⟩
theorem f90 (s : ByteArray) (hs : s.size ≤ 9223372036854775807) : Fun Tryd.prog tabs 90 [vS s] [] (vB (utfOk s)) [] := by
  refine fun_shelf ⟨_, Tryd.func90, by kernel_rfl, rfl⟩ fun w F cargs hg hF hlen hr => ?_
  match cargs, hlen with
  | [c0], _ =>
    obtain rfl := bool_of (hr 0 _ c0 rfl rfl)
    exact (Tryd.utf8_ValidString s w hs hg.1).mono fun e w' ⟨he, hb⟩ => ⟨_, he, .pv _ _ (.val _ rfl), hb⟩
theorem f149 (Gl : Granted) (s : ByteArray) (hs : s.size < 9223372036854775807) : Fun Tryd.prog Gl 149 [vS s] [] (vI (Lib.runeCount s)) [] := by
  refine fun_shelf ⟨_, Tryd.func149, by kernel_rfl, rfl⟩ fun w F cargs hg hF hlen hr => ?_
  match cargs, hlen with
  | [c0], _ =>
    obtain rfl := bool_of (hr 0 _ c0 rfl rfl)
    exact (Tryd.utf8_RuneCountInString s w hs).mono fun e w' ⟨he, pos, hb⟩ => ⟨_, he, .pv _ _ (.val _ rfl), by rw [hb]; exact (Below.refl _ _).alloc (Nat.le_refl _) _⟩
theorem f88 (s old new : ByteArray) (hs : s.size < 4294967281) (h1 : 1 ≤ old.size) (h2 : new.size ≤ 16) : Fun Tryd.prog tabs 88 [vS s, vS old, vS new] [] (vS ⟨(Lib.replaceAll s.data.toList old.data.toList new.data.toList).toArray⟩) [] := by
  refine fun_shelf ⟨_, Tryd.func88, by kernel_rfl, rfl⟩ fun w F cargs hg hF hlen hr => ?_
  match cargs, hlen with
  | [c0, c1, c2], _ =>
    obtain rfl := bool_of (hr 0 _ c0 rfl rfl)
    obtain rfl := bool_of (hr 1 _ c1 rfl rfl)
    obtain rfl := bool_of (hr 2 _ c2 rfl rfl)
    obtain ⟨_, _, _, ⟨m, hm⟩, _⟩ := hg
    refine (Tryd.strings_ReplaceAll s old new m w hs hm h1 ?_).mono fun e w' ⟨he, hb⟩ => ⟨_, he, .pv _ _ (.val _ rfl), hb⟩
    have := Lib.countB_le old h1 _ s (Nat.le_refl _)
    have : Lib.countB s old * new.size ≤ s.size * 16 := Nat.mul_le_mul this h2
    omega
theorem f67 (s : ByteArray) (hs : s.size ≤ 9223372036854775807) : Fun Tryd.prog tabs 67 [vS s] [] (vB (value s)) [] := by
  refine fun_of (T := T3) (n := 10) (rs := [.tmp 2]) Tryd.func67 (by kernel_rfl) rfl rfl rfl tok3 mixed (by simp) fun C hC => ?_
  by_cases h : (s.size : Int) ≤ 40
  · refine hC.vc [] 60 ?_
    simp [h]
    refine hC.call [] (f90 s hs) (by simp) ?_
    refine hC.vc [] 60 ?_
    simp [value, h]
  · refine hC.vc [] 60 ?_
    simp [value, h]
def bs (l : Bs) : ByteArray := ⟨l.toArray⟩
theorem bs_size (l : Bs) : (bs l).size = l.length := rfl
theorem bs_list (l : Bs) : (bs l).data.toList = l := by simp [bs]
theorem f65 (s : ByteArray) (hs : s.size ≤ 1000000) : Fun Tryd.prog tabs 65 [vS s] [] (vS (bs (quoteB s.data.toList))) [] := by
  refine fun_of (T := T3) (n := 9) (rs := [.tmp 2]) Tryd.func65 (by kernel_rfl) rfl rfl rfl tok3 mixed (by simp) fun C hC => ?_
  refine hC.vc [] 60 ?_
  simp
  refine hC.call [] (f88 s ⟨#[92]⟩ ⟨#[92, 92]⟩ (by omega) (by decide) (by decide)) (by simp) ?_
  refine hC.vc [] 60 ?_
  simp
  have e1 : (Lib.replaceAll s.data.toList [92] [92, 92]).length ≤ 2 * s.size := by
    rw [replace1 92 [92, 92] _ (by decide), ← bsz]
    generalize s.data.toList = l
    induction l with
    | nil => simp
    | cons b l ih =>
      rw [List.flatMap_cons, List.length_append, List.length_cons]
      split <;> simp only [List.length_cons, List.length_nil] <;> omega
  refine hC.call [] (f88 ⟨(Lib.replaceAll s.data.toList [92] [92, 92]).toArray⟩ ⟨#[34]⟩ ⟨#[92, 34]⟩ (by show (Lib.replaceAll s.data.toList [92] [92, 92]).length < _; omega) (by decide) (by decide)) (by simp) ?_
  have e2 := esc_eq s.data.toList
  have e3 := esc_len s.data.toList
  rw [bsz] at e3
  simp only [List.toList_toArray, e2]
  have e4 : (⟨(esc s.data.toList).toArray⟩ : ByteArray).size = (esc s.data.toList).length := rfl
  have e5 : (⟨#[34]⟩ : ByteArray).size = 1 := rfl
  have e6 : (⟨#[34]⟩ : ByteArray) ++ ⟨(esc s.data.toList).toArray⟩ ++ ⟨#[34]⟩ = bs (quoteB s.data.toList) := bsExt (by simp [bs, quoteB, ByteArray.data_append])
  refine hC.vc [] 60 ?_
  simp [e4, e5, e6]
  omega
end Go.Proofs.D
