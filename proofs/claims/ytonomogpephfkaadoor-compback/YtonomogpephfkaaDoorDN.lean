/-
  WHAT IS A NAME.
-/
import Derived.Test.YtonomogpephfkaaDoorD2
import Derived.Test.YtonomogpephfkaaDoorDS
set_option linter.unusedVariables false
set_option linter.unusedSimpArgs false
namespace Go.Proofs.D
open Go Go.Abs
attribute [local simp] VC stepV stepTop stepReg stepOp stMove stPick stBin stUn stConv stBox stAlloc stLoad stStore stFieldAddr stField stExtract stNilCheck stMakeFunc stIndexAddr stIndex stLen
  stBuild placesOf fillA stBuildSlice sliceCells repL chunks allPV toPV drawOk drawOk.go mayMakeO mayMake1 disjoint pairOk Oper.apart Oper.looksAt Op.operands Call.operands Region.binds stAppend appBase appTail unName stSlice bndA
  LS.ev LS.get LS.blk LS.put LS.app LS.upd lkS lkH setS setH Nm.eqb guardOf nexts okPair dstOk AV.cellsOf takeAt putAt lkT sliceE fieldT intK isStrT isBoolT abin newOk LS.freshB LS.freshB.go LS.freshB.goH notIn AV.ments AV.ments.mentsL Blk.ments makes upsMents LS.start startL exitTo T Nat.blt
  conv convS convH srcs srcOf blkOk leA leA.leL leB leP laid laidM isArg subH retP resAV resL res1 AV.frz AV.frz.frzL evL AV.ren AV.ren.renL Blk.ren renBs blksOf allSome nodupB onlyArgs blksMents callUps keyed inName inName.go backName callSide
theorem dropWhile_nil {α : Type} (p : α → Bool) : ∀ l : List α, l.dropWhile p = [] ↔ ∀ x ∈ l, p x = true
  | [] => by simp
  | x :: l => by
    cases h : p x
    · simp [List.dropWhile, h]
    · simp [List.dropWhile, h, dropWhile_nil p l]
theorem trimS_nil (l cs : List UInt8) : Lib.trimS l cs = [] ↔ ∀ b ∈ l, cs.contains b = true := by
  unfold Lib.trimS Lib.trimLeftS Lib.trimRightS
  rw [dropWhile_nil]
  constructor
  · intro h b hb
    have e := List.takeWhile_append_dropWhile (p := (cs.contains ·)) (l := l.reverse)
    have hb' : b ∈ l.reverse := by simpa using hb
    rw [← e] at hb'
    rcases List.mem_append.1 hb' with h1 | h1
    · have : ∀ m : List UInt8, b ∈ m.takeWhile (cs.contains ·) → cs.contains b = true := by
        intro m
        induction m with
        | nil => simp
        | cons y m ih =>
          intro hm
          rw [List.takeWhile_cons] at hm
          cases hy : cs.contains y
          · rw [hy] at hm; simp at hm
          · rw [hy] at hm
            rcases List.mem_cons.1 hm with rfl | hm
            · exact hy
            · exact ih hm
      exact this _ h1
    · exact h b (by simpa using h1)
  · intro h b hb
    have : b ∈ l := by
      have := (List.dropWhile_sublist (cs.contains ·) (l := l.reverse)).subset (by simpa using hb)
      simpa using this
    exact h b this
theorem low_contains (b : UInt8) : low.data.toList.contains b = (decide (97 ≤ b.toNat) && decide (b.toNat ≤ 122)) := by
  have : (List.range 256).all (fun n => low.data.toList.contains (UInt8.ofNat n) == (decide (97 ≤ (UInt8.ofNat n).toNat) && decide ((UInt8.ofNat n).toNat ≤ 122))) = true := by decide +kernel
  have h := List.all_eq_true.1 this b.toNat (by simp; exact b.toNat_lt)
  simpa using h
theorem empty_iff (s : ByteArray) : s = ⟨#[]⟩ ↔ s.data.toList = [] := by
  obtain ⟨⟨l⟩⟩ := s
  simp
theorem f58 (Gl : Granted) (s : ByteArray) (hs : s.size ≤ 9223372036854775807) : Fun Tryd.prog Gl 58 [vS s] [] (vB (isName s)) [] := by
  refine fun_of (T := T) (n := 21) (rs := [.tmp 2]) Tryd.func58 (by kernel_rfl) rfl rfl rfl tok mixed (by simp) fun C hC => ?_
  refine hC.vc [] 60 ?_
  simp
  refine hC.call [] (f86 Gl s hs) (by simp [low]) ?_
  have h0 : (⟨(Lib.trimS s.data.toList low.data.toList).toArray⟩ : ByteArray) = ⟨#[]⟩ ↔ s.data.toList.all (fun c => decide (97 ≤ c.toNat) && decide (c.toNat ≤ 122)) = true := by
    rw [empty_iff, List.toList_toArray, trimS_nil, List.all_eq_true]
    exact forall_congr' fun b => imp_congr Iff.rfl (by rw [low_contains])
  have hsz : s = ⟨#[]⟩ ↔ ¬ 1 ≤ s.size := by
    rw [empty_iff]
    show _ ↔ ¬ 1 ≤ s.data.size
    rw [← Array.length_toList]
    cases s.data.toList <;> simp
  generalize (⟨(Lib.trimS s.data.toList low.data.toList).toArray⟩ : ByteArray) = t at h0 ⊢
  have hname : isName s = (decide (t = ⟨#[]⟩) && !decide (s = ⟨#[]⟩) && decide ((s.size : Int) ≤ 8) && !decide (s = ⟨#[116, 101, 120, 116]⟩)) := by
    rw [Bool.eq_iff_iff]
    simp only [isName, Bool.and_eq_true, Bool.not_eq_true', decide_eq_true_eq, decide_eq_false_iff_not, h0, hsz]
    constructor
    · rintro ⟨⟨⟨h1, h2⟩, h3⟩, h4⟩
      exact ⟨⟨⟨h3, fun h => h h1⟩, by omega⟩, h4⟩
    · rintro ⟨⟨⟨h3, h1⟩, h2⟩, h4⟩
      exact ⟨⟨⟨by omega, by omega⟩, h3⟩, h4⟩
  have e4 : (⟨#[116, 101, 120, 116]⟩ : ByteArray).size = 4 := rfl
  have e0 : (⟨#[]⟩ : ByteArray).size = 0 := rfl
  refine hC.vc [] 60 ?_
  by_cases a : t = ⟨#[]⟩
  · by_cases b : s = ⟨#[]⟩
    · have hr : isName s = false := by rw [hname]; simp [b]
      subst b
      simp [a, hr, e0]
    · by_cases c : (s.size : Int) ≤ 8
      · by_cases d : s = ⟨#[116, 101, 120, 116]⟩
        · have hr : isName s = false := by rw [hname]; simp [d]
          subst d
          simp [a, hr, e4]
        · simp [a, b, c, d, hname]
      · simp [a, b, c, hname]
  · simp [a, hname]
end Go.Proofs.D
