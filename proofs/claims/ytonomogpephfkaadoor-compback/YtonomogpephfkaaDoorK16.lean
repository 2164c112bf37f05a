/-
  THE READER OF NODES: signs, names, texts.
-/
import Derived.Test.YtonomogpephfkaaDoorK0
import Derived.Test.YtonomogpephfkaaDoorDS
import Derived.Test.YtonomogpephfkaaDoorDN
import Derived.Test.YtonomogpephfkaaDoorQ3
import Derived.Test.YtonomogpephfkaaDoorAbsY
set_option linter.unusedVariables false
set_option linter.unusedSimpArgs false
set_option linter.unusedSimpArgs false
namespace Go.Proofs.D
open Go Go.Abs Go.RowKit
attribute [local simp] VC stepV stepTop stepReg stepOp stMove stPick stBin stUn stConv stBox stAlloc stLoad stStore stFieldAddr stField stExtract stNilCheck stMakeFunc stIndexAddr stIndex stLen
  stBuild placesOf fillA stBuildSlice sliceCells repL chunks allPV toPV drawOk drawOk.go mayMakeO mayMake1 disjoint pairOk Oper.apart Oper.looksAt Op.operands Call.operands Region.binds stAppend appBase appTail unName stSlice bndA
  LS.ev LS.get LS.blk LS.put LS.app LS.upd lkS lkH setS setH Nm.eqb guardOf nexts okPair dstOk AV.cellsOf takeAt putAt lkT sliceE fieldT intK isStrT isBoolT abin newOk LS.freshB LS.freshB.go LS.freshB.goH notIn AV.ments AV.ments.mentsL Blk.ments makes upsMents LS.start startL exitTo T T3 outs callSideO callSideD upsR backO freshAll argB onlyIO List.map List.append List.nil_append List.cons_append Nat.blt
  conv convS convH srcs srcOf blkOk leA leA.leL leB leP laid laidM isArg subH retP resAV resL res1 AV.frz AV.frz.frzL evL AV.ren AV.ren.renL Blk.ren renBs blksOf allSome nodupB onlyArgs blksMents callUps keyed inName inName.go backName callSide
abbrev sgn (c : UInt8) : ByteArray := ⟨#[c]⟩
theorem hasPre_byte (c : UInt8) (l : Bs) : hasPre (bytesOf l) (sgn c) = (takesB c l).1 := by
  have h1 : (sgn c).size = 1 := rfl
  cases l with
  | nil => rfl
  | cons x l =>
    have he : (bytesOf (x :: l)).extract 0 1 = sgn x := bsExt (by simp [bytesOf, ByteArray.data_extract, sgn])
    unfold hasPre
    rw [h1, he, bytesOf_size]
    simp only [takesB]
    by_cases hx : x = c
    · subst hx; simp
    · have : ¬ sgn x = sgn c := fun e => hx (by have := congrArg (fun s : ByteArray => s.data.toList) e; simpa [sgn] using this)
      simp [this, hx]
theorem cutPre_byte (c : UInt8) (l : Bs) : cutPre (bytesOf l) (sgn c) = bytesOf (takesB c l).2 := by
  unfold cutPre
  rw [hasPre_byte]
  cases l with
  | nil => rfl
  | cons x l =>
    simp only [takesB]
    by_cases hx : x = c
    · subst hx
      simp only [if_true]
      exact bsExt (by
        have h1 : (sgn x).size = 1 := rfl
        simp [bytesOf, ByteArray.data_extract, h1, bytesOf_size, ByteArray.size])
    · simp [hx]
/-- The reader. -/
abbrev rdN (l : Bs) (b : Bool) : Blk := .box 171 [vS (bytesOf l), vB b]
abbrev vT (l : Bs) : AV := vS (bytesOf l)
theorem f143 (Gl : Granted) (c : UInt8) (l : Bs) (b : Bool) : Fun Tryd.prog Gl 143 [.ptr (.arg 0) 0, vS (sgn c)] [some (rdN l b)] (vB (takesB c l).1) [some (rdN (takesB c l).2 b)] := by
  refine fun_of (T := T3) (n := 21) (rs := [.tmp 4]) Tryd.func143 (by kernel_rfl) rfl rfl rfl tok3 mixed (by simp) fun C hC => ?_
  refine hC.vc [] 60 ?_
  simp
  refine hC.call [] (f50 Gl (bytesOf l) (sgn c)) (by simp) ?_
  rw [hasPre_byte, cutPre_byte]
  refine hC.vc [] 60 ?_
  simp
theorem f144 (Gl : Granted) (c : UInt8) (l : Bs) (b : Bool) : Fun Tryd.prog Gl 144 [.ptr (.arg 0) 0, vS (sgn c)] [some (rdN l b)] (.tup []) [some (rdN (wantB c (l, b)).1 (wantB c (l, b)).2)] := by
  refine fun_of (T := T3) (n := 17) (rs := []) Tryd.func144 (by kernel_rfl) rfl rfl rfl tok3 mixed (by simp) fun C hC => ?_
  refine hC.vc [] 60 ?_
  simp
  refine hC.call [.arg 0] (f143 Gl c l b) (by simp) ?_
  refine hC.vc [] 60 ?_
  cases ht : (takesB c l).1 <;> simp [wantB, ht]
theorem trimLeft_low (l : Bs) : (⟨(Lib.trimLeftS (bytesOf l).data.toList low.data.toList).toArray⟩ : ByteArray) = bytesOf (nameB l).2 := by
  have : (bytesOf l).data.toList = l := by simp [bytesOf]
  rw [this]
  unfold Lib.trimLeftS nameB bytesOf
  congr 2
  congr 1
  funext b
  rw [low_contains]
  rfl
theorem f142 (Gl : Granted) (l : Bs) (b : Bool) (hl : l.length ≤ 9000000) : Fun Tryd.prog Gl 142 [.ptr (.arg 0) 0] [some (rdN l b)] (vT (nameB l).1) [some (rdN (nameB l).2 b)] := by
  refine fun_of (T := T3) (n := 28) (rs := [.tmp 2]) Tryd.func142 (by kernel_rfl) rfl rfl rfl tok3 mixed (by simp) fun C hC => ?_
  refine hC.vc [] 60 ?_
  simp
  refine hC.call [] (f99 Gl (bytesOf l)) (by simp [low]) ?_
  rw [trimLeft_low]
  have hle := name_le l
  have hw := wr64 ((l.length : Int) - (nameB l).2.length) (by omega)
  have hi : ((l.length : Int) - (nameB l).2.length).toNat = l.length - (nameB l).2.length := by omega
  have hex : (bytesOf l).extract 0 (l.length - (nameB l).2.length) = bytesOf (nameB l).1 := bsExt (by
    have h1 : l.length - (nameB l).2.length = (nameB l).1.length := by omega
    have h2 : (nameB l).1 ++ (nameB l).2 = l := List.takeWhile_append_dropWhile
    have h3 : l.take (nameB l).1.length = (nameB l).1 := by
      have := List.take_left (l₁ := (nameB l).1) (l₂ := (nameB l).2)
      rw [h2] at this
      exact this
    rw [h1]
    simp [bytesOf, ByteArray.data_extract, h3])
  refine hC.vc [] 60 ?_
  simp [bytesOf_size, hw, hi, hex]
  omega
end Go.Proofs.D
/-
  THE READER OF NODES: quoted texts.
-/
set_option linter.unusedVariables false
set_option linter.unusedSimpArgs false
set_option linter.unusedSimpArgs false
namespace Go.Proofs.D
open Go Go.Abs Go.RowKit
attribute [local simp] VC stepV stepTop stepReg stepOp stMove stPick stBin stUn stConv stBox stAlloc stLoad stStore stFieldAddr stField stExtract stNilCheck stMakeFunc stIndexAddr stIndex stLen
  stBuild placesOf fillA stBuildSlice sliceCells repL chunks allPV toPV drawOk drawOk.go mayMakeO mayMake1 disjoint pairOk Oper.apart Oper.looksAt Op.operands Call.operands Region.binds stAppend appBase appTail unName stSlice bndA
  LS.ev LS.get LS.blk LS.put LS.app LS.upd lkS lkH setS setH Nm.eqb guardOf nexts okPair dstOk AV.cellsOf takeAt putAt lkT sliceE fieldT intK isStrT isBoolT abin newOk LS.freshB LS.freshB.go LS.freshB.goH notIn AV.ments AV.ments.mentsL Blk.ments makes upsMents LS.start startL exitTo T T3 outs callSideO callSideD upsR backO freshAll argB onlyIO List.map List.append List.nil_append List.cons_append Nat.blt
  conv convS convH srcs srcOf blkOk leA leA.leL leB leP laid laidM isArg subH retP resAV resL res1 AV.frz AV.frz.frzL evL AV.ren AV.ren.renL Blk.ren renBs blksOf allSome nodupB onlyArgs blksMents callUps keyed inName inName.go backName callSide
theorem byteAt_of {l : Bs} {i : Nat} (h : i < l.length) : byteAt (bytesOf l) (i : Int) = ((l[i]).toNat : Int) := by
  rw [byteAt_eq]
  simp [bytesOf, h]
theorem u8_lit {c : UInt8} {z : Int} (hz : z = (c.toNat : Int)) (d : UInt8) : z = (d.toNat : Int) ↔ c = d := by
  subst hz
  constructor
  · intro h; exact UInt8.toNat_inj.1 (by omega)
  · intro h; rw [h]
theorem extract_drop (l : Bs) (i : Nat) : (bytesOf l).extract i l.length = bytesOf (l.drop i) := bsExt (by
  simp [bytesOf, ByteArray.data_extract]
  exact List.take_of_length_le (by simp))
set_option maxRecDepth 20000 in
set_option maxHeartbeats 2000000 in
theorem f145 (Gl : Granted) (l : Bs) (b : Bool) (hl : l.length ≤ 9000000) : Fun Tryd.prog Gl 145 [.ptr (.arg 0) 0] [some (rdN l b)] (vT (quotedB (l, b)).1) [some (rdN (quotedB (l, b)).2.1 (quotedB (l, b)).2.2)] := by
  have hle := (want_le 34 (l, b)).1
  have hq : quotedB (l, b) = if (wantB 34 (l, b)).2 = true then ([], ((wantB 34 (l, b)).1, true)) else match quotedGo (wantB 34 (l, b)).1 [] with
    | some (s, r) => (s, (r, false))
    | none => ([], ((wantB 34 (l, b)).1, true)) := rfl
  refine fun_of (T := T3) (n := 69) (rs := [.tmp 2]) Tryd.func145 (by kernel_rfl) rfl rfl rfl tok3 mixed (by simp) fun C hC => ?_
  refine hC.vc [] 60 ?_
  simp
  refine hC.call [.arg 0] (f144 Gl 34 l b) (by simp) ?_
  generalize wantB 34 (l, b) = st at hle hq ⊢
  obtain ⟨m, bd⟩ := st
  simp only at hle hq ⊢
  cases bd with
  | true =>
    simp only [if_true] at hq
    rw [hq] at hC
    refine hC.vc [] 60 ?_
    simp
    refine go_loop (ι := Unit) (fun _ => ⟨[(0, .ptr (.arg 0) 0), (4, vI 0)], [(.arg 0, some (rdN m true))]⟩) (fun _ => 0) () [] (by simp) fun _ _ => ?_
    refine hC.vc [] 60 ?_
    by_cases h0 : 0 < m.length
    · simp [bytesOf_size, h0]; rfl
    · simp [bytesOf_size, h0]; rfl
  | false =>
    simp only [Bool.false_eq_true, if_false] at hq
    refine hC.vc [] 110 ?_
    simp
    refine go_loop (ι := {x : Nat × Bs // x.1 ≤ m.length + 1 ∧ x.2.length ≤ x.1 ∧ quotedGo m [] = quotedGo (m.drop x.1) x.2}) (fun x => ⟨[(0, .ptr (.arg 0) 0), (3, .own (.can 0)), (4, vI x.1.1)], [(.arg 0, some (rdN m false)), (.can 0, some (.row 5 1 (byteRow x.1.2)))]⟩)
      (fun x => m.length + 2 - x.1.1) ⟨(0, []), by simp⟩ [(.can 0, .nil)] (by simp) fun x ih => ?_
    obtain ⟨⟨i, s⟩, hi, hsl, hn⟩ := x
    simp only at hi hsl hn ih
    by_cases hlt : i < m.length
    · have hz0 := byteAt_of hlt
      have hd : m.drop i = m[i] :: m.drop (i + 1) := List.drop_eq_getElem_cons hlt
      generalize m[i] = c at hz0 hd
      obtain ⟨z, hz⟩ : ∃ z, byteAt (bytesOf m) (i : Int) = z := ⟨_, rfl⟩
      rw [hz] at hz0
      have hw1 := wr64 ((i : Int) + 1) (by omega)
      have l34 := u8_lit hz0 34
      have l92 := u8_lit hz0 92
      change z = 34 ↔ c = 34 at l34
      change z = 92 ↔ c = 92 at l92
      by_cases h34 : z = 34
      · have hc := l34.1 h34
        have hr : quotedGo m [] = some (s, m.drop (i + 1)) := by
          rw [hn, hd, hc]
          cases m.drop (i + 1) with
          | nil => simp [quotedGo]
          | cons d t => simp [quotedGo]
        rw [hr] at hq
        simp only at hq
        rw [hq] at hC
        have e1 : ((i : Int) + 1).toNat = i + 1 := by omega
        have hex := extract_drop m (i + 1)
        refine hC.vc [] 110 ?_
        simp [bytesOf_size, hlt, hz, h34, hw1, e1, hex]
        refine ⟨by omega, ?_⟩
        refine hC.rowStr (e := 5) (r := .can 0) (l := s) rfl (by simp) (by simp) ?_
        refine hC.vc [] 110 ?_
        simp
        rfl
      · have hc : ¬ c = 34 := fun e => h34 (l34.2 e)
        by_cases h92 : z = 92
        · have hc2 := l92.1 h92
          have hw2 := wr64 ((i : Int) + 1 + 1) (by omega)
          by_cases hlt2 : i + 1 < m.length
          · have hy0 := byteAt_of hlt2
            have hd2 : m.drop (i + 1) = m[i + 1] :: m.drop (i + 2) := List.drop_eq_getElem_cons hlt2
            generalize m[i + 1] = d at hy0 hd2
            obtain ⟨y, hy⟩ : ∃ y, byteAt (bytesOf m) ((i : Int) + 1) = y := ⟨_, rfl⟩
            have hy0' : y = (d.toNat : Int) := by rw [← hy]; exact hy0
            have hr : quotedGo m [] = quotedGo (m.drop (i + 2)) (s ++ [d]) := by
              rw [hn, hd, hd2, quotedGo, if_neg hc, if_pos hc2]
            have hI : (i : Int) + 1 < m.length := by omega
            have hI0 : (0 : Int) ≤ (i : Int) + 1 := by omega
            refine hC.vc [] 110 ?_
            simp [bytesOf_size, hlt, hz, h92, hw1, hI, hI0, hy]
            refine ⟨by omega, ?_⟩
            exact go_to [(.can 0, .nm (.loc 65))] (ih ⟨(i + 2, s ++ [d]), by dsimp only; omega, by simp; omega, hr⟩ (by simp; omega)) (by simp [hw2, hy0']; omega)
          · have hr : quotedGo m [] = quotedGo (m.drop (i + 2)) s := by
              rw [hn, hd, List.drop_eq_nil_of_le (i := i + 1) (by omega), List.drop_eq_nil_of_le (i := i + 2) (by omega)]
              simp [quotedGo, hc]
            have hI : ¬ (i : Int) + 1 < m.length := by omega
            refine hC.vc [] 110 ?_
            simp [bytesOf_size, hlt, hz, h92, hw1, hI]
            exact go_to [] (ih ⟨(i + 2, s), by dsimp only; omega, by dsimp only; omega, hr⟩ (by simp; omega)) (by simp [hw2]; omega)
        · have hc2 : ¬ c = 92 := fun e => h92 (l92.2 e)
          have hr : quotedGo m [] = quotedGo (m.drop (i + 1)) (s ++ [c]) := by
            rw [hn, hd]
            cases hdd : m.drop (i + 1) with
            | nil => simp [quotedGo, hc]
            | cons d t => rw [quotedGo, if_neg hc, if_neg hc2]
          refine hC.vc [] 110 ?_
          simp [bytesOf_size, hlt, hz, h34, h92]
          refine ⟨by omega, ?_⟩
          exact go_to [(.can 0, .nm (.loc 65))] (ih ⟨(i + 1, s ++ [c]), by dsimp only; omega, by simp; omega, hr⟩ (by simp; omega)) (by simp [hw1, hz0])
    · have hr : quotedGo m [] = none := by rw [hn, List.drop_eq_nil_of_le (by omega)]; rfl
      rw [hr] at hq
      simp only at hq
      rw [hq] at hC
      refine hC.vc [] 110 ?_
      simp [bytesOf_size, hlt]
      rfl
end Go.Proofs.D
