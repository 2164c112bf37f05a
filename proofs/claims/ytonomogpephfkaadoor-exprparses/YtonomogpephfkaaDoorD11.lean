/-
  SETS OF PLACES: what is laid into one out of another one.
-/
import Derived.Test.YtonomogpephfkaaDoorD1
import Derived.Test.YtonomogpephfkaaDoorAbsO
set_option linter.unusedVariables false
set_option linter.unusedSimpArgs false
namespace Go.Proofs.D
open Go Go.Abs
attribute [local simp] VC stepV stepTop stepReg stepOp stMove stPick stBin stUn stConv stBox stAlloc stLoad stStore stFieldAddr stField stExtract stNilCheck stMakeFunc stIndexAddr stIndex stLen
  stBuild placesOf fillA stBuildSlice sliceCells repL chunks allPV toPV drawOk drawOk.go mayMakeO mayMake1 disjoint pairOk Oper.apart Oper.looksAt Op.operands Call.operands Region.binds stAppend appBase appTail unName stSlice bndA
  LS.ev LS.get LS.blk LS.put LS.app LS.upd lkS lkH setS setH Nm.eqb guardOf nexts okPair dstOk AV.cellsOf takeAt putAt lkT sliceE fieldT intK isStrT isBoolT abin newOk LS.freshB LS.freshB.go LS.freshB.goH notIn AV.ments AV.ments.mentsL Blk.ments makes upsMents LS.start startL exitTo T Nat.blt
  conv convS convH srcs srcOf blkOk leA leA.leL leB leP laid laidM isArg subH retP resAV resL res1 AV.frz AV.frz.frzL evL AV.ren AV.ren.renL Blk.ren renBs blksOf allSome nodupB onlyArgs blksMents callUps keyed inName inName.go backName callSide
theorem setQ_mono {P : Program} {k e N : Nat} {S S' : Nat → Prop} (h : ∀ i, S i ↔ S' i) (o : Obj) (ho : setQ P k e N S o) : setQ P k e N S' o := by
  have : S = S' := funext fun i => propext (h i)
  exact this ▸ ho
theorem setQ_congr {P : Program} {k e N : Nat} {S S' : Nat → Prop} (h : ∀ i, S i ↔ S' i) : setQ P k e N S = setQ P k e N S' := by
  have : S = S' := funext fun i => propext (h i)
  rw [this]
abbrev rowAV (w : List ByteArray) : AV := .pv (.ro 1 (w.map fun s => [.val (.string s)]))
abbrev Q (N : Nat) (S : Nat → Prop) : Obj → Prop := setQ Tryd.prog 3 3 N S
theorem im66 : IntMap Tryd.prog 66 3 3 := ⟨Tryd.underlying66, Tryd.underlying3, Tryd.underlying3, fun w => by kernel_rfl⟩
theorem f63 (Gl : Granted) (N : Nat) (hN : N + 1 < maxLen) (S1 S2 : Nat → Prop) : Fun Tryd.prog Gl 63 [.hmap (.arg 0), .rom (Q N S2)] [some (.raw (Q N S1))] (.tup []) [some (.raw (Q N fun i => S1 i ∨ S2 i))] := by
  refine fun_of (T := T) (n := 16) (rs := []) Tryd.func63 (by kernel_rfl) rfl rfl rfl tok mixed (by simp) fun C hC => ?_
  refine hC.vc [] 60 ?_
  simp
  refine hC.setRange im66 (N := N) (S := S2) (by rfl) (by rfl) (by simp) ?_
  refine hC.vc [] 60 ?_
  simp
  refine go_loop (ι := {x : (Nat → Prop) × Option Nat // ∀ i, x.1 i → S2 i}) (fun x => ⟨[(0, .hmap (.arg 0)), (7, .ptr (.loc 7) 0)], [(.arg 0, some (.raw (Q N fun i => S1 i ∨ x.1.1 i))), (.loc 7, some (.iter (iterS Tryd.prog 3 3 N S2 x.1.1 x.1.2)))]⟩)
    (fun x => cardN N fun i => S2 i ∧ ¬ x.1.1 i) ⟨(fun _ => False, none), fun _ h => h.elim⟩ [] (by simp) fun x ih => ?_
  obtain ⟨⟨M, last⟩, hM⟩ := x
  simp only at ih hM
  refine hC.vc [] 60 ?_
  simp
  refine hC.setNext im66 (.loc 7) (N := N) (S := S2) (M := M) (last := last) (by rfl) (by simp) (fun hall => ?_) (fun j h1 h2 h3 => ?_)
  · refine hC.vc [] 60 ?_
    simp
    have : M = S2 := funext fun i => propext ⟨hM i, hall i⟩
    rw [this]
  · refine hC.vc [] 60 ?_
    simp
    refine hC.setEntry (.loc 7) (N := N) (S := S2) (k := 3) (e := 3) (j := j) (M := fun i => M i ∨ i = j) (by rfl) (by simp) ?_
    refine hC.vc [] 60 ?_
    simp
    refine hC.setPut im66 (.arg 0) (S := fun i => S1 i ∨ M i) hN h3 (.inl (by rfl)) (by simp) ?_
    refine hC.vc [] 60 ?_
    simp
    refine go_to [] (ih ⟨(fun i => M i ∨ i = j, some j), fun i hi => ?_⟩ ?_) ?_
    · rcases hi with hi | rfl
      · exact hM i hi
      · exact h1
    · exact cardN_lt (fun i ⟨a1, a2⟩ => ⟨a1, fun h => a2 (.inl h)⟩) j h3 ⟨h1, h2⟩ (fun ⟨_, a2⟩ => a2 (.inr rfl))
    · simp
      refine setQ_mono fun i => ?_
      constructor
      · rintro ((h | h) | h)
        · exact .inl h
        · exact .inr (.inl h)
        · exact .inr (.inr h)
      · rintro (h | h | h)
        · exact .inl (.inl h)
        · exact .inl (.inr h)
        · exact .inr h
/-- The closure that lays places in. -/
theorem f62 (Gl : Granted) (N : Nat) (hN : N + 1 < maxLen) (S1 S2 : Nat → Prop) : Fun Tryd.prog Gl 62 [.rom (Q N S2), .ptr (.arg 0) 0] [some (.box 66 [.hmap (.arg 1)]), some (.raw (Q N S1))] (.tup []) [some (.box 66 [.hmap (.arg 1)]), some (.raw (Q N fun i => S1 i ∨ S2 i))] := by
  refine fun_of (T := T) (n := 6) (rs := []) Tryd.func62 (by kernel_rfl) rfl rfl rfl tok mixed (by simp) fun C hC => ?_
  refine hC.vc [] 60 ?_
  simp
  refine hC.call [.arg 1] (f63 Gl N hN S1 S2) (by simp) ?_
  refine hC.vc [] 60 ?_
  simp
end Go.Proofs.D
