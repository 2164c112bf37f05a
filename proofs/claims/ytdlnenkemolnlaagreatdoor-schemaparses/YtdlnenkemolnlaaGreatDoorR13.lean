/-
  THE ANSWER'S READER: its signs, and letters.
-/
import Derived.Test.YtdlnenkemolnlaaGreatDoorR7
import Derived.Test.YtdlnenkemolnlaaGreatDoorT1
import Derived.Test.YtdlnenkemolnlaaGreatDoorK17
import Derived.Test.YtdlnenkemolnlaaGreatDoorT3
import Derived.Test.YtdlnenkemolnlaaGreatDoorK18
set_option linter.unusedVariables false
set_option linter.unusedSimpArgs false
namespace Go.Proofs.D
open Go Go.Abs Go.RowKit
attribute [local simp] VC VCS stepVS stepTopS firstId memN bigB unmark markT mkOff calmP keepT boundB stepV stepTop stepReg stepOp stMove stPick stBin stUn stConv stBox stAlloc stLoad stStore stFieldAddr stField stExtract stNilCheck stMakeFunc stIndexAddr stIndex stLen
  stBuild placesOf fillA stBuildSlice sliceCells repL chunks allPV toPV drawOk drawOk.go mayMakeO mayMake1 disjoint pairOk Oper.apart Oper.looksAt Op.operands Call.operands Region.binds stAppend appBase appTail unName stSlice bndA
  LS.ev LS.get LS.blk LS.put LS.app LS.upd lkS lkH setS setH Nm.eqb guardOf nexts okPair dstOk AV.cellsOf takeAt putAt lkT sliceE fieldT intK isStrT isBoolT abin newOk LS.freshB LS.freshB.go LS.freshB.goH notIn AV.ments AV.ments.mentsL Blk.ments makes upsMents LS.start startL exitTo T T3 T4 outs callSideR callSideO callSideD upsR backO freshAll argB onlyIO List.map List.append List.nil_append List.cons_append Nat.blt
  conv convS convH srcs srcOf blkOk leA leA.leL Go.Abs.leB leP laid laidM laidG isArg subH retP resAV resL res1 AV.frz AV.frz.frzL evL AV.ren AV.ren.renL Blk.ren renBs blksOf allSome nodupB onlyArgs blksMents callUps keyed inName inName.go backName callSide
/-- Where the reader is, of whose text l is left. -/
def ix (S l : Bs) : Nat := S.length - l.length
/-- The reader: its text, where it is, is it bad? -/
abbrev rdA (S l : Bs) (b : Bool) : Blk := .box 214 [vS (bs S), vI (ix S l), vB b]
theorem suf_at {S l : Bs} {c : UInt8} {t : Bs} (h : l <:+ S) (hl : l = c :: t) : ix S l < S.length ∧ byteAt (bs S) (ix S l : Int) = (c.toNat : Int) ∧ ix S t = ix S l + 1 ∧ t <:+ S := by
  obtain ⟨p, hp⟩ := h
  subst hl
  unfold ix
  have hlen : S.length = p.length + (t.length + 1) := by rw [← hp]; simp
  have hlt : S.length - (c :: t).length < S.length := by simp; omega
  have hi : S.length - (c :: t).length = p.length := by simp; omega
  refine ⟨hlt, ?_, by simp; omega, ⟨p ++ [c], by rw [← hp]; simp⟩⟩
  have h1 := byteAt_of (l := S) (i := S.length - (c :: t).length) hlt
  have h2 : S[S.length - (c :: t).length]'hlt = c := by
    have : S[S.length - (c :: t).length]? = some c := by rw [hi, ← hp]; simp
    rw [List.getElem?_eq_getElem hlt] at this
    exact Option.some.inj this
  rw [h2] at h1
  exact h1
theorem ix_nil (S : Bs) : ix S [] = S.length := by simp [ix]
theorem ix_le (S l : Bs) : ix S l ≤ S.length := Nat.sub_le _ _
theorem suf_tail {S : Bs} {c : UInt8} {t : Bs} (h : c :: t <:+ S) : t <:+ S := (suf_at h rfl).2.2.2
theorem g203 (Gl : Granted) (S l : Bs) (b : Bool) (c : UInt8) (z : Int) (hz : z = (c.toNat : Int)) (hl : l <:+ S) : Fun Tryz.prog Gl 203 [.ptr (.arg 0) 0, .pv (.val (.int .u8 z))] [some (rdA S l b)] (vB (headIs c l)) [some (rdA S l b)] := by
  refine fun_of (T := T4) (n := 28) (rs := [.tmp 4]) Tryz.func203 (by kernel_rfl) rfl rfl rfl tok4 mixed (by simp) fun C hC => ?_
  refine hC.go [] 60 ?_
  simp
  refine hC.drawn (by kernel_rfl) (by simp) ?_
  cases l with
  | nil =>
    refine hC.go [] 60 ?_
    simp [headIs, bsl, ix_nil]
  | cons x t =>
    obtain ⟨h1, h2, h3, h4⟩ := suf_at hl rfl
    have hh : headIs c (x :: t) = decide (byteAt (bs S) (ix S (x :: t) : Int) = z) := by
      simp only [headIs]
      rw [h2, hz]
      exact decide_eq_decide.2 ⟨fun h => by rw [h], fun h => UInt8.toNat_inj.1 (by omega)⟩
    refine hC.go [] 60 ?_
    simp [bsl, h1, hh]
theorem takes_head (c : UInt8) (l : Bs) : (takesB c l).1 = headIs c l := headIs_takes c l
theorem head_cons {c : UInt8} {l : Bs} (h : headIs c l = true) : ∃ t, l = c :: t := by
  cases l with
  | nil => simp [headIs] at h
  | cons x t => simp [headIs] at h; exact ⟨t, by rw [h]⟩
theorem want_not {c : UInt8} {l : Bs} (b : Bool) (h : headIs c l = false) : wantB c (l, b) = (l, true) := by
  have h1 : (takesB c l).1 = false := by rw [takes_head, h]
  have h2 := takes_false c l h1
  simp [wantB, h1, h2]
/-- A sign that must stand there. -/
theorem g205 (Gl : Granted) (S l : Bs) (b : Bool) (c : UInt8) (z : Int) (hz : z = (c.toNat : Int)) (hl : l <:+ S) (hS : S.length ≤ 1000000) : Fun Tryz.prog Gl 205 [.ptr (.arg 0) 0, .pv (.val (.int .u8 z))] [some (rdA S l b)] (.tup []) [some (rdA S (wantB c (l, b)).1 (wantB c (l, b)).2)] := by
  refine fun_of (T := T4) (n := 17) (rs := []) Tryz.func205 (by kernel_rfl) rfl rfl rfl tok4 mixed (by simp) fun C hC => ?_
  refine hC.go [] 60 ?_
  simp
  refine hC.call [.arg 0] (g203 Gl S l b c z hz hl) (by simp) ?_
  cases hh : headIs c l with
  | false =>
    rw [want_not b hh] at hC
    refine hC.go [] 60 ?_
    simp
  | true =>
    obtain ⟨t, rfl⟩ := head_cons hh
    obtain ⟨h1, h2, h3, h4⟩ := suf_at hl rfl
    rw [want_hit] at hC
    have hw := wr64 ((ix S (c :: t) : Int) + 1) (by omega)
    refine hC.go [] 60 ?_
    simp [hw, h3]
/-- The letters that stand there. -/
theorem low_lit (x : UInt8) : low8 x = (decide (97 ≤ (x.toNat : Int)) && decide ((x.toNat : Int) ≤ 122)) := by
  unfold low8
  congr 1
  · exact decide_eq_decide.2 (by omega)
  · exact decide_eq_decide.2 (by omega)
set_option maxRecDepth 20000 in
set_option maxHeartbeats 4000000 in
theorem g206 (Gl : Granted) (S l : Bs) (b : Bool) (hl : l <:+ S) (hS : S.length ≤ 1000000) : Fun Tryz.prog Gl 206 [.ptr (.arg 0) 0] [some (rdA S l b)] (vS (bs (nameB l).1)) [some (rdA S (nameB l).2 b)] := by
  have hex : ∀ p m : Bs, l = p ++ m → (bs S).extract (ix S l) (ix S m) = bs p := fun p m h => by
    obtain ⟨q, hq⟩ := hl
    have e1 : ix S l = q.length := by unfold ix; rw [← hq]; simp
    have e2 : ix S m = q.length + p.length := by unfold ix; rw [← hq, h]; simp; omega
    refine bsExt ?_
    rw [e1, e2, ← hq, h]
    simp [bs, ByteArray.data_extract]
  refine fun_of (T := T4) (n := 59) (rs := [.tmp 2]) Tryz.func206 (by kernel_rfl) rfl rfl rfl tok4 mixed (by simp) fun C hC => ?_
  refine hC.go [] 60 ?_
  simp
  refine go_loop (ι := {m : Bs // m <:+ S ∧ ∃ p, l = p ++ m ∧ nameB l = (p ++ (nameB m).1, (nameB m).2)}) (fun x => ⟨[(0, .ptr (.arg 0) 0), (3, vI (ix S l))], [(.arg 0, some (rdA S x.1 b))]⟩)
    (fun x => x.1.length) ⟨l, hl, [], by simp⟩ [] (by simp) fun x ih => ?_
  obtain ⟨m, hm, p, hp, hn⟩ := x
  simp only at ih
  have hxp := hex p m hp
  have hil := ix_le S m
  have hil2 : ix S l ≤ ix S m := by
    unfold ix
    have := congrArg List.length hp
    simp at this
    omega
  cases m with
  | nil =>
    have hn' : nameB l = (p, []) := by rw [hn]; simp [nameB]
    rw [hn'] at hC
    rw [ix_nil] at hxp hil2
    refine hC.go [] 60 ?_
    simp
    refine hC.drawn (by kernel_rfl) (by simp) ?_
    refine hC.go [] 60 ?_
    simp [bsl, ix_nil]
    refine hC.drawn (by kernel_rfl) (by simp) ?_
    refine hC.go [] 60 ?_
    simp [bsl, ix_nil, hxp]
    omega
  | cons x t =>
    obtain ⟨h1, h2, h3, h4⟩ := suf_at hm rfl
    have hw := wr64 ((ix S (x :: t) : Int) + 1) (by omega)
    have hlo := low_lit x
    rw [← h2] at hlo
    refine hC.go [] 60 ?_
    simp
    refine hC.drawn (by kernel_rfl) (by simp) ?_
    by_cases e1 : 97 ≤ byteAt (bs S) (ix S (x :: t) : Int)
    · by_cases e2 : byteAt (bs S) (ix S (x :: t) : Int) ≤ 122
      · have hlow : low8 x = true := by rw [hlo]; simp [e1, e2]
        have hn2 : nameB l = ((p ++ [x]) ++ (nameB t).1, (nameB t).2) := by rw [hn]; simp [nameB, hlow]
        refine hC.go [] 60 ?_
        simp [bsl, h1, e1, e2, hw]
        exact go_to [] (ih ⟨t, h4, p ++ [x], by rw [hp]; simp, hn2⟩ (by simp)) (by simp [h3])
      · have hlow : low8 x = false := by rw [hlo]; simp [e2]
        have hn' : nameB l = (p, x :: t) := by rw [hn]; simp [nameB, hlow]
        rw [hn'] at hC
        refine hC.go [] 60 ?_
        simp [bsl, h1, e1, e2]
        refine hC.drawn (by kernel_rfl) (by simp) ?_
        refine hC.go [] 60 ?_
        simp [bsl, hxp]
        omega
    · have hlow : low8 x = false := by rw [hlo]; simp [e1]
      have hn' : nameB l = (p, x :: t) := by rw [hn]; simp [nameB, hlow]
      rw [hn'] at hC
      refine hC.go [] 60 ?_
      simp [bsl, h1, e1]
      refine hC.drawn (by kernel_rfl) (by simp) ?_
      refine hC.go [] 60 ?_
      simp [bsl, hxp]
      omega
end Go.Proofs.D
/-
  THE ANSWER'S READER: a text between quotes.
-/
set_option linter.unusedVariables false
set_option linter.unusedSimpArgs false
namespace Go.Proofs.D
open Go Go.Abs Go.RowKit
attribute [local simp] VC VCS stepVS stepTopS firstId memN bigB unmark markT mkOff calmP keepT boundB stepV stepTop stepReg stepOp stMove stPick stBin stUn stConv stBox stAlloc stLoad stStore stFieldAddr stField stExtract stNilCheck stMakeFunc stIndexAddr stIndex stLen
  stBuild placesOf fillA stBuildSlice sliceCells repL chunks allPV toPV drawOk drawOk.go mayMakeO mayMake1 disjoint pairOk Oper.apart Oper.looksAt Op.operands Call.operands Region.binds stAppend appBase appTail unName stSlice bndA
  LS.ev LS.get LS.blk LS.put LS.app LS.upd lkS lkH setS setH Nm.eqb guardOf nexts okPair dstOk AV.cellsOf takeAt putAt lkT sliceE fieldT intK isStrT isBoolT abin newOk LS.freshB LS.freshB.go LS.freshB.goH notIn AV.ments AV.ments.mentsL Blk.ments makes upsMents LS.start startL exitTo T T3 T4 outs callSideR callSideO callSideD upsR backO freshAll argB onlyIO List.map List.append List.nil_append List.cons_append Nat.blt
  conv convS convH srcs srcOf blkOk leA leA.leL Go.Abs.leB leP laid laidM laidG isArg subH retP resAV resL res1 AV.frz AV.frz.frzL evL AV.ren AV.ren.renL Blk.ren renBs blksOf allSome nodupB onlyArgs blksMents callUps keyed inName inName.go backName callSide
theorem ix_ext {S l : Bs} (hl : l <:+ S) (p m : Bs) (h : l = p ++ m) : (bs S).extract (ix S l) (ix S m) = bs p := by
  obtain ⟨q, hq⟩ := hl
  have e1 : ix S l = q.length := by unfold ix; rw [← hq]; simp
  have e2 : ix S m = q.length + p.length := by unfold ix; rw [← hq, h]; simp; omega
  refine bsExt ?_
  rw [e1, e2, ← hq, h]
  simp [bs, ByteArray.data_extract]
theorem want_suf {S l : Bs} (c : UInt8) (b : Bool) (h : l <:+ S) : (wantB c (l, b)).1 <:+ S := by
  simp only [wantB]
  cases l with
  | nil => simp [takesB]
  | cons x t =>
    simp only [takesB]
    split
    · exact suf_tail h
    · exact h
set_option maxRecDepth 20000 in
set_option maxHeartbeats 4000000 in
theorem g204 (Gl : Granted) (S l : Bs) (b : Bool) (hl : l <:+ S) (hS : S.length ≤ 1000000) : Fun Tryz.prog Gl 204 [.ptr (.arg 0) 0] [some (rdA S l b)] (vS (bs (quotedR (l, b)).1)) [some (rdA S (quotedR (l, b)).2.1 (quotedR (l, b)).2.2)] := by
  have k0 : (⟨#[]⟩ : ByteArray) = bs [] := rfl
  have hq : quotedR (l, b) = if (wantB 34 (l, b)).2 = true then ([], wantB 34 (wantB 34 (l, b))) else match quotedGo (wantB 34 (l, b)).1 [] with
    | some (s, r) => (s, (r, false))
    | none => ([], ([], true)) := rfl
  have c34 : ((34 : UInt8).toNat : Int) = 34 := rfl
  have c92 : ((92 : UInt8).toNat : Int) = 92 := rfl
  refine fun_of (T := T4) (n := 64) (rs := [.tmp 2]) Tryz.func204 (by kernel_rfl) rfl rfl rfl tok4 mixed (by simp) fun C hC => ?_
  refine hC.go [] 60 ?_
  simp
  refine hC.call [.arg 0] (g205 Gl S l b 34 34 c34.symm hl hS) (by simp) ?_
  have hl1 := want_suf 34 b hl
  generalize wantB 34 (l, b) = st at hq hl1 ⊢
  obtain ⟨l1, b1⟩ := st
  simp only at hq hl1 ⊢
  cases b1 with
  | true =>
    rw [if_pos rfl] at hq
    rw [hq] at hC
    refine hC.go [] 60 ?_
    simp
    refine go_first ?_
    refine hC.go [] 60 ?_
    simp
    refine hC.call [.arg 0] (g205 Gl S l1 true 34 34 c34.symm hl1 hS) (by simp) ?_
    refine hC.go [] 60 ?_
    simp [k0]
  | false =>
    rw [if_neg (by simp)] at hq
    refine hC.go [] 60 ?_
    simp
    refine go_loop (ι := {x : Bs × Bs // x.1 <:+ S ∧ quotedGo l1 [] = quotedGo x.1 x.2 ∧ x.2.length + x.1.length ≤ S.length}) (fun x => ⟨[(0, .ptr (.arg 0) 0), (3, vS (bs x.1.2))], [(.arg 0, some (rdA S x.1.1 false))]⟩)
      (fun x => x.1.1.length) ⟨(l1, []), hl1, rfl, by simpa using hl1.length_le⟩ [] (by simp [k0]) fun x ih => ?_
    obtain ⟨⟨m, s⟩, hm, hn, hsz⟩ := x
    simp only at hm hn hsz ih
    rw [hn] at hq
    refine hC.go [] 60 ?_
    simp
    refine hC.call [.arg 0] (g203 Gl S m false 34 34 c34.symm hm) (by simp) ?_
    cases m with
    | nil =>
      simp only [quotedGo] at hq
      rw [hq] at hC
      refine hC.go [] 60 ?_
      simp [headIs]
      refine hC.call [.arg 0] (g203 Gl S [] false 92 92 c92.symm hm) (by simp) ?_
      refine hC.go [] 60 ?_
      simp [headIs]
      refine hC.drawn (by kernel_rfl) (by simp) ?_
      refine hC.go [] 60 ?_
      simp [bsl, ix_nil, k0]
    | cons c t =>
      obtain ⟨h1, h2, h3, h4⟩ := suf_at hm rfl
      by_cases hc : c = 34
      · subst hc
        have hr : quotedR (l, b) = (s, (t, false)) := by
          rw [hq]
          cases t <;> simp [quotedGo]
        rw [hr] at hC
        refine hC.go [] 60 ?_
        simp [headIs]
        refine hC.call [.arg 0] (g205 Gl S (34 :: t) false 34 34 c34.symm hm hS) (by simp) ?_
        rw [want_hit]
        refine hC.go [] 60 ?_
        simp
      · have hh : headIs 34 (c :: t) = false := by simp [headIs, hc]
        refine hC.go [] 60 ?_
        simp [hh]
        refine hC.call [.arg 0] (g203 Gl S (c :: t) false 92 92 c92.symm hm) (by simp) ?_
        by_cases hc2 : c = 92
        · subst hc2
          cases t with
          | nil =>
            have hqg : quotedGo [92] s = none := by simp [quotedGo]
            rw [hqg] at hq
            rw [hq] at hC
            rw [ix_nil] at h3
            have h3' : (ix S [92] : Int) + 1 = S.length := by omega
            have hw := wr64 (S.length : Int) (by omega)
            refine hC.go [] 60 ?_
            simp [headIs, h3', hw]
            refine hC.drawn (by kernel_rfl) (by simp) ?_
            refine hC.go [] 60 ?_
            simp [bsl, ix_nil, k0]
          | cons d t =>
            obtain ⟨j1, j2, j3, j4⟩ := suf_at h4 rfl
            have hqg : quotedGo (92 :: d :: t) s = quotedGo t (s ++ [d]) := by simp [quotedGo]
            rw [hqg] at hn
            have hex := ix_ext h4 [d] t rfl
            have h3' : (ix S (92 :: d :: t) : Int) + 1 = ix S (d :: t) := by omega
            have hw := wr64 (ix S (d :: t) : Int) (by omega)
            have j3' : (ix S (d :: t) : Int) + 1 = ix S t := by omega
            have hw2 := wr64 (ix S t : Int) (by omega)
            have hxl := ix_le S t
            have hge : ¬ S.length ≤ ix S (d :: t) := by omega
            have hle : ix S (d :: t) ≤ ix S t := by omega
            simp only [List.length_cons] at hsz
            refine hC.go [] 60 ?_
            simp [headIs, hw, h3']
            refine hC.drawn (by kernel_rfl) (by simp) ?_
            refine hC.go [] 60 ?_
            simp [bsl, hge]
            refine hC.drawn (by kernel_rfl) (by simp) ?_
            refine hC.go [] 60 ?_
            simp [bsl, hw2, j3', hex, bs_app]
            repeat (refine ⟨by omega, ?_⟩)
            exact go_to [] (ih ⟨(t, s ++ [d]), j4, hn, by simp; omega⟩ (by simp; omega)) (by simp)
        · have hh2 : headIs 92 (c :: t) = false := by simp [headIs, hc2]
          have hqg : quotedGo (c :: t) s = quotedGo t (s ++ [c]) := by
            cases t with
            | nil => simp [quotedGo, hc]
            | cons d t => simp [quotedGo, hc, hc2]
          rw [hqg] at hn
          have hex := ix_ext hm [c] t rfl
          have h3' : (ix S (c :: t) : Int) + 1 = ix S t := by omega
          have hw2 := wr64 (ix S t : Int) (by have := ix_le S t; omega)
          have hxl := ix_le S t
          have hge : ¬ S.length ≤ ix S (c :: t) := by omega
          have hle : ix S (c :: t) ≤ ix S t := by omega
          simp only [List.length_cons] at hsz
          refine hC.go [] 60 ?_
          simp [hh2]
          refine hC.drawn (by kernel_rfl) (by simp) ?_
          refine hC.go [] 60 ?_
          simp [bsl, hge]
          refine hC.drawn (by kernel_rfl) (by simp) ?_
          refine hC.go [] 60 ?_
          simp [bsl, hw2, h3', hex, bs_app]
          repeat (refine ⟨by omega, ?_⟩)
          exact go_to [] (ih ⟨(t, s ++ [c]), h4, hn, by simp; omega⟩ (by simp)) (by simp)
end Go.Proofs.D
/-
  THE ANSWER'S READER: all nodes that stand there.
-/
set_option linter.unusedVariables false
set_option linter.unusedSimpArgs false
namespace Go.Proofs.D
open Go Go.Abs Go.RowKit
attribute [local simp] VC VCS stepVS stepTopS firstId memN bigB unmark markT mkOff calmP keepT boundB stepV stepTop stepReg stepOp stMove stPick stBin stUn stConv stBox stAlloc stLoad stStore stFieldAddr stField stExtract stNilCheck stMakeFunc stIndexAddr stIndex stLen
  stBuild placesOf fillA stBuildSlice sliceCells repL chunks allPV toPV drawOk drawOk.go mayMakeO mayMake1 disjoint pairOk Oper.apart Oper.looksAt Op.operands Call.operands Region.binds stAppend appBase appTail unName stSlice bndA
  LS.ev LS.get LS.blk LS.put LS.app LS.upd lkS lkH setS setH Nm.eqb guardOf nexts okPair dstOk AV.cellsOf takeAt putAt lkT sliceE fieldT intK isStrT isBoolT abin newOk LS.freshB LS.freshB.go LS.freshB.goH notIn AV.ments AV.ments.mentsL Blk.ments makes upsMents LS.start startL exitTo T T3 T4 outs callSideR callSideO callSideD upsR backO freshAll argB onlyIO List.map List.append List.nil_append List.cons_append Nat.blt
  conv convS convH srcs srcOf blkOk leA leA.leL Go.Abs.leB leP laid laidM laidG isArg subH retP resAV resL res1 AV.frz AV.frz.frzL evL AV.ren AV.ren.renL Blk.ren renBs blksOf allSome nodupB onlyArgs blksMents callUps keyed inName inName.go backName callSide
def zN : N := .mk ⟨#[]⟩ ⟨#[]⟩ [] [] []
/-- What a node at this depth comes to. -/
def NodeC (Gl : Granted) (S : Bs) (k : Nat) : Prop := ∀ l : Bs, l <:+ S → Fun Tryz.prog Gl 183 [.ptr (.arg 0) 0, vI k] [some (rdA S l false)] (nodeR k (l, false)).1.av [some (rdA S (nodeR k (l, false)).2.1 (nodeR k (l, false)).2.2)]
set_option maxRecDepth 20000 in
set_option maxHeartbeats 4000000 in
theorem g207 (Gl : Granted) (S : Bs) (hS : S.length ≤ 1000000) (k : Nat) (hN : NodeC Gl S k) (l : Bs) (b : Bool) (hl : l <:+ S) :
    Fun Tryz.prog Gl 207 [.ptr (.arg 0) 0, vI k] [some (rdA S l b)] (.pv (nodes (kidsF (nodeR k) (l.length + 1) (l, b)).1)) [some (rdA S (kidsF (nodeR k) (l.length + 1) (l, b)).2.1 (kidsF (nodeR k) (l.length + 1) (l, b)).2.2)] := by
  have c93 : ((93 : UInt8).toNat : Int) = 93 := rfl
  obtain ⟨K, hK⟩ : ∃ K, kidsF (nodeR k) (l.length + 1) (l, b) = K := ⟨_, rfl⟩
  rw [hK]
  refine fun_of (T := T4) (n := 35) (rs := [.tmp 4]) Tryz.func207 (by kernel_rfl) rfl rfl rfl tok4 mixed (by simp) fun C hC => ?_
  refine hC.go [] 60 ?_
  simp
  refine go_loop (ι := {x : List N × Bs × Bool × Nat // x.2.1 <:+ S ∧ K = (x.1 ++ (kidsF (nodeR k) x.2.2.2 (x.2.1, x.2.2.1)).1, (kidsF (nodeR k) x.2.2.2 (x.2.1, x.2.2.1)).2) ∧ (x.2.2.1 = false → x.2.1.length < x.2.2.2 ∧ x.1.length + x.2.1.length ≤ S.length) ∧ x.1.length ≤ S.length + 1})
    (fun x => ⟨[(0, .ptr (.arg 0) 0), (1, vI k), (5, .own (.can 0))], [(.arg 0, some (rdA S x.1.2.1 x.1.2.2.1)), (.can 0, some (.row 87 5 (x.1.1.map N.pv)))]⟩)
    (fun x => if x.1.2.2.1 = true then 0 else x.1.2.1.length + 1) ⟨([], l, b, l.length + 1), hl, by simp [← hK], fun _ => ⟨by simp, by simpa using hl.length_le⟩, by simp⟩ [(.can 0, .nil)] (by simp) fun x ih => ?_
  obtain ⟨⟨acc, m, bb, j⟩, hm, hn, hj, ha⟩ := x
  simp only at hm hn hj ha ih
  refine hC.go [] 60 ?_
  simp
  refine hC.drawn (by kernel_rfl) (by simp) ?_
  have stop : stopK (m, bb) = true → K = (acc, (m, bb)) := fun h => by
    rw [hn]
    cases j with
    | zero => simp [kidsF]
    | succ j => simp [kidsF, h]
  cases bb with
  | true =>
    rw [stop rfl] at hC
    refine hC.go [] 60 ?_
    simp
  | false =>
    cases m with
    | nil =>
      rw [stop rfl] at hC
      refine hC.go [] 60 ?_
      simp [ix_nil, bsl]
    | cons c t =>
      obtain ⟨h1, h2, h3, h4⟩ := suf_at hm rfl
      have h1' : (ix S (c :: t) : Int) < S.length := by omega
      refine hC.go [] 60 ?_
      simp [bsl, h1]
      refine hC.callR [.arg 0] (g203 Gl S (c :: t) false 93 93 c93.symm hm) (by simp) ?_
      by_cases hc : c = 93
      · rw [stop (by simp [stopK, hc])] at hC
        refine hC.go [] 60 ?_
        simp [headIs, hc]
      · have hs : stopK (c :: t, false) = false := by simp [stopK, hc]
        obtain ⟨hj1, hj2⟩ := hj rfl
        obtain ⟨j, rfl⟩ : ∃ j', j = j' + 1 := ⟨j - 1, by omega⟩
        simp only [kidsF, hs, Bool.false_eq_true, if_false] at hn
        have hsuf := nodeR_suf k (c :: t, false)
        have hsh := @nodeR_short k (c :: t)
        have hcall := hN (c :: t) hm
        generalize nodeR k (c :: t, false) = nr at hn hsuf hsh hcall
        obtain ⟨n, ⟨m', b'⟩⟩ := nr
        simp only at hn hsuf hsh hcall
        simp only [List.length_cons] at hj1 hj2 hsh
        have hlen := hsuf.length_le
        simp only [List.length_cons] at hlen
        refine hC.go [] 60 ?_
        simp [headIs, hc]
        refine hC.call [.arg 0] hcall (by simp [N.av, N.cells]) ?_
        refine hC.go [] 60 ?_
        simp [N.av, N.cells]
        refine ⟨by omega, ?_⟩
        exact go_to [(.can 0, .nm (.loc 33))] (ih ⟨(acc ++ [n], m', b', j), hsuf.trans hm, by rw [hn]; simp, fun h => by have := hsh h; simp; omega, by simp; omega⟩ (by
          cases b' with
          | true => simp
          | false => have := hsh rfl; simp; omega)) (by simp [N.pv_eq])
end Go.Proofs.D
/-
  THE ANSWER'S READER: the node that stands there.
-/
set_option linter.unusedVariables false
set_option linter.unusedSimpArgs false
namespace Go.Proofs.D
open Go Go.Abs Go.RowKit
attribute [local simp] VC VCS stepVS stepTopS firstId memN bigB unmark markT mkOff calmP keepT boundB stepV stepTop stepReg stepOp stMove stPick stBin stUn stConv stBox stAlloc stLoad stStore stFieldAddr stField stExtract stNilCheck stMakeFunc stIndexAddr stIndex stLen
  stBuild placesOf fillA stBuildSlice sliceCells repL chunks allPV toPV drawOk drawOk.go mayMakeO mayMake1 disjoint pairOk Oper.apart Oper.looksAt Op.operands Call.operands Region.binds stAppend appBase appTail unName stSlice bndA
  LS.ev LS.get LS.blk LS.put LS.app LS.upd lkS lkH setS setH Nm.eqb guardOf nexts okPair dstOk AV.cellsOf takeAt putAt lkT sliceE fieldT intK isStrT isBoolT abin newOk LS.freshB LS.freshB.go LS.freshB.goH notIn AV.ments AV.ments.mentsL Blk.ments makes upsMents LS.start startL exitTo T T3 T4 outs callSideR callSideO callSideD upsR backO freshAll argB onlyIO List.map List.append List.nil_append List.cons_append Nat.blt
  conv convS convH srcs srcOf blkOk leA leA.leL Go.Abs.leB leP laid laidM laidG isArg subH retP resAV resL res1 AV.frz AV.frz.frzL evL AV.ren AV.ren.renL Blk.ren renBs blksOf allSome nodupB onlyArgs blksMents callUps keyed inName inName.go backName callSide
theorem bo (l : Bs) : bytesOf l = bs l := rfl
theorem quoteNext_head (l : Bs) : quoteNext l = headIs 34 l := by cases l <;> rfl
abbrev nmR (ms : List Bs) : List (List PV) := ms.map fun s => [PV.val (.string (bs s))]
abbrev atR (l : List (Bs × Bs)) : List (List PV) := l.map fun p => [PV.val (.string (bs p.1)), .val (.string (bs p.2))]
theorem nmR_eq (l : List Bs) : (l.map bytesOf).map (fun s => [PV.val (.string s)]) = nmR l := by rw [List.map_map]; rfl
theorem atR_eq (l : List (Bs × Bs)) : (l.map pairB).map (fun p => [PV.val (.string p.1), .val (.string p.2)]) = atR l := by rw [List.map_map]; rfl
theorem takes_hd {c : UInt8} {l : Bs} (h : headIs c l = false) : takesB c l = (false, l) := by
  have h1 : (takesB c l).1 = false := by rw [takes_head, h]
  exact Prod.ext h1 (takes_false c l h1)
theorem marks_hit {l : Bs} {n1 m : Bs} (h : nameB l = (n1, m)) : marksGo l = if (takesB 44 m).1 = true then (n1 :: (marksGo (takesB 44 m).2).1, (marksGo (takesB 44 m).2).2) else ([n1], (takesB 44 m).2) := by
  rw [marksGo, h]
  simp only
  split <;> simp_all
theorem kids_cells (a b : Bs) (m : List ByteArray) (p : List (ByteArray × ByteArray)) (ks : List N) : (N.mk (bytesOf a) (bytesOf b) m p ks).cells = [vS (bs a), vS (bs b), .pv (strs m), .pv (pairs p), .pv (nodes ks)] := rfl
set_option maxRecDepth 20000 in
set_option maxHeartbeats 8000000 in
theorem g183 (Gl : Granted) (S : Bs) (hS : S.length ≤ 1000000) : ∀ k : Nat, k ≤ 2000000 → NodeC Gl S k
  | 0, _ => fun l hl => by
    refine fun_of (T := T4) (n := 88) (rs := [.cell 4 87]) Tryz.func183 (by kernel_rfl) rfl rfl rfl tok4 mixed (by simp) fun C hC => ?_
    refine hC.go [] 60 ?_
    simp [nodeR, N.av, N.cells, N.kind, N.text, N.marks, N.attrs, N.kids]
  | k + 1, hk => fun l hl => by
    have hrec := g183 Gl S hS k (by omega)
    have c34 : ((34 : UInt8).toNat : Int) = 34 := rfl
    have c60 : ((60 : UInt8).toNat : Int) = 60 := rfl
    have c44 : ((44 : UInt8).toNat : Int) = 44 := rfl
    have c62 : ((62 : UInt8).toNat : Int) = 62 := rfl
    have c40 : ((40 : UInt8).toNat : Int) = 40 := rfl
    have c32 : ((32 : UInt8).toNat : Int) = 32 := rfl
    have c61 : ((61 : UInt8).toNat : Int) = 61 := rfl
    have c41 : ((41 : UInt8).toNat : Int) = 41 := rfl
    have c91 : ((91 : UInt8).toNat : Int) = 91 := rfl
    have c93 : ((93 : UInt8).toNat : Int) = 93 := rfl
    have hk0 : ¬ ((k : Int) + 1 = 0) := by omega
    have hnr : nodeR (k + 1) (l, false) = if quoteNext l = true then textR (l, false) else
      (.mk (bytesOf (nameB l).1) ⟨#[]⟩ [] ((attrsF ((nameB l).2, false)).1.map pairB) (kidsF (nodeR k) ((wantB 91 (attrsF ((nameB l).2, false)).2).1.length + 1) (wantB 91 (attrsF ((nameB l).2, false)).2)).1,
        wantB 93 (kidsF (nodeR k) ((wantB 91 (attrsF ((nameB l).2, false)).2).1.length + 1) (wantB 91 (attrsF ((nameB l).2, false)).2)).2) := rfl
    rw [quoteNext_head] at hnr
    refine fun_of (T := T4) (n := 88) (rs := [.cell 4 87]) Tryz.func183 (by kernel_rfl) rfl rfl rfl tok4 mixed (by simp) fun C hC => ?_
    refine hC.go [] 60 ?_
    simp [hk0]
    refine hC.call [.arg 0] (g203 Gl S l false 34 34 c34.symm hl) (by simp) ?_
    cases hq : headIs 34 l with
    | true =>
      rw [hq, if_pos rfl] at hnr
      have htr : textR (l, false) = if (takesB 60 (quotedR (l, false)).2.1).1 = true then
        (.mk textK (bytesOf (quotedR (l, false)).1) ((marksGo (takesB 60 (quotedR (l, false)).2.1).2).1.map bytesOf) [] [], wantB 62 ((marksGo (takesB 60 (quotedR (l, false)).2.1).2).2, (quotedR (l, false)).2.2))
        else (.mk textK (bytesOf (quotedR (l, false)).1) [] [] [], (quotedR (l, false)).2) := rfl
      rw [htr] at hnr
      refine hC.go [] 60 ?_
      simp
      refine hC.call [.arg 0] (g204 Gl S l false hl hS) (by simp) ?_
      have hqs := (quotedR_suf (l, false)).trans hl
      generalize quotedR (l, false) = qq at hnr hqs ⊢
      obtain ⟨q, l1, b1⟩ := qq
      simp only at hnr hqs ⊢
      refine hC.go [] 60 ?_
      simp
      refine hC.call [.arg 0] (g203 Gl S l1 b1 60 60 c60.symm hqs) (by simp) ?_
      cases h60 : headIs 60 l1 with
      | false =>
        rw [takes_hd h60] at hnr
        simp only [Bool.false_eq_true, if_false] at hnr
        rw [hnr] at hC
        refine hC.go [] 60 ?_
        simp [N.av, N.cells, N.kind, N.text, N.marks, N.attrs, N.kids, bo, textK]
      | true =>
        obtain ⟨l2, rfl⟩ := head_cons h60
        rw [takes_hit] at hnr
        simp only [if_true] at hnr
        have hl2 := suf_tail hqs
        refine hC.go [] 60 ?_
        simp
        refine hC.call [.arg 0] (g205 Gl S (60 :: l2) b1 60 60 c60.symm hqs hS) (by simp) ?_
        rw [want_hit]
        refine hC.go [] 60 ?_
        simp
        refine hC.drawn (by kernel_rfl) (by simp) ?_
        refine hC.go [] 60 ?_
        simp
        refine hC.call [.arg 0] (g206 Gl S l2 b1 hl2 hS) (by simp) ?_
        have hms := (name_suf l2).trans hl2
        have hnl := name_le l2
        have hmk : ∀ p, nameB l2 = p → marksGo l2 = if (takesB 44 p.2).1 = true then (p.1 :: (marksGo (takesB 44 p.2).2).1, (marksGo (takesB 44 p.2).2).2) else ([p.1], (takesB 44 p.2).2) := fun p hp => marks_hit hp
        have hmk := hmk _ rfl
        generalize nameB l2 = nm at hms hnl hmk ⊢
        obtain ⟨n1, m1⟩ := nm
        simp only at hms hnl hmk ⊢
        have hl2l := hl2.length_le
        refine hC.go [] 60 ?_
        simp
        refine go_loop (ι := {x : List Bs × Bs // x.2 <:+ S ∧ x.1.length + x.2.length ≤ S.length + 1 ∧ marksGo l2 = if (takesB 44 x.2).1 = true then (x.1 ++ (marksGo (takesB 44 x.2).2).1, (marksGo (takesB 44 x.2).2).2) else (x.1, (takesB 44 x.2).2)})
          (fun x => ⟨[(0, .ptr (.arg 0) 0), (4, .ptr (.loc 4) 0), (5, .ptr (.loc 5) 0)], [(.arg 0, some (rdA S x.1.2 b1)), (.loc 4, some (.box 87 zero79)), (.loc 5, some (.box 87 [vS textK, vS (bs q), .own (.can 0), .pv (.nilS 2), .pv (.nilS 5)])), (.can 0, some (.row 9 1 (nmR x.1.1)))]⟩)
          (fun x => x.1.2.length) ⟨([n1], m1), hms, by simp; omega, by simpa using hmk⟩ [(.can 0, .nm (.loc 29))] (by simp [textK]) fun x ih => ?_
        obtain ⟨⟨acc, m⟩, hm, hlen, hn⟩ := x
        simp only at hm hlen hn ih
        refine hC.go [] 60 ?_
        simp
        refine hC.call [.arg 0] (g203 Gl S m b1 44 44 c44.symm hm) (by simp) ?_
        cases h44 : headIs 44 m with
        | false =>
          rw [takes_hd h44] at hn
          simp only [Bool.false_eq_true, if_false] at hn
          rw [hn] at hnr
          simp only at hnr
          rw [hnr] at hC
          refine hC.go [] 60 ?_
          simp
          refine hC.call [.arg 0] (g205 Gl S m b1 62 62 c62.symm hm hS) (by simp) ?_
          refine hC.til [15] [] 60 ?_
          simp
          refine go_to (M := ⟨[(4, .ptr (.loc 4) 0), (5, .ptr (.loc 5) 0)], [(.arg 0, some (rdA S (wantB 62 (m, b1)).1 (wantB 62 (m, b1)).2)), (.loc 4, some (.box 87 zero79)), (.loc 5, some (.box 87 [vS textK, vS (bs q), .pv (.ro 1 (nmR acc)), .pv (.nilS 2), .pv (.nilS 5)]))]⟩) [] (hC.go [] 60 ?_) (by simp)
          simp [N.av, kids_cells, N.cells, N.kind, N.text, N.marks, N.attrs, N.kids, bo, nmR_eq]
        | true =>
          obtain ⟨t, rfl⟩ := head_cons h44
          have ht := suf_tail hm
          rw [takes_hit] at hn
          simp only [if_true] at hn
          refine hC.go [] 60 ?_
          simp
          refine hC.call [.arg 0] (g205 Gl S (44 :: t) b1 44 44 c44.symm hm hS) (by simp) ?_
          rw [want_hit]
          refine hC.go [] 60 ?_
          simp
          refine hC.drawn (by kernel_rfl) (by simp) ?_
          refine hC.go [] 60 ?_
          simp
          refine hC.call [.arg 0] (g206 Gl S t b1 ht hS) (by simp) ?_
          have hms2 := (name_suf t).trans ht
          have hnl2 := name_le t
          have hmk2 : ∀ p, nameB t = p → marksGo t = if (takesB 44 p.2).1 = true then (p.1 :: (marksGo (takesB 44 p.2).2).1, (marksGo (takesB 44 p.2).2).2) else ([p.1], (takesB 44 p.2).2) := fun p hp => marks_hit hp
          have hmk2 := hmk2 _ rfl
          generalize nameB t = nm at hms2 hnl2 hmk2 ⊢
          obtain ⟨n2, m2⟩ := nm
          simp only at hms2 hnl2 hmk2 ⊢
          simp only [List.length_cons] at hlen
          rw [hmk2] at hn
          refine hC.go [] 60 ?_
          simp
          refine ⟨by omega, ?_⟩
          exact go_to [(.can 0, .nm (.loc 40))] (ih ⟨(acc ++ [n2], m2), hms2, by simp; omega, by rw [hn]; dsimp only; split <;> simp⟩ (by simp; omega)) (by simp)
    | false =>
      rw [hq, if_neg (by simp)] at hnr
      refine hC.go [] 60 ?_
      simp
      refine hC.call [.arg 0] (g206 Gl S l false hl hS) (by simp) ?_
      have hms := (name_suf l).trans hl
      have hnl := name_le l
      generalize nameB l = nm at hnr hms hnl ⊢
      obtain ⟨nm, l1⟩ := nm
      simp only at hnr hms hnl ⊢
      refine hC.til [1017] [] 60 ?_
      simp
      refine go_cut (ι := Unit) (fun _ => ⟨[(0, .ptr (.arg 0) 0), (1, vI (k + 1)), (4, .ptr (.loc 4) 0), (5, .ptr (.loc 5) 0)], [(.arg 0, some (rdA S (attrsF (l1, false)).2.1 (attrsF (l1, false)).2.2)), (.loc 4, some (.box 87 zero79)), (.loc 5, some (.box 87 [vS (bs nm), vS ⟨#[]⟩, .pv (.nilS 1), .own (.can 0), .pv (.nilS 5)])), (.can 0, some (.row 136 2 (atR (attrsF (l1, false)).1)))]⟩) (fun _ => ?_) (fun tail => ?_)
      · -- the kids
        have hs := (attrsF_suf (l1, false)).trans hms
        generalize attrsF (l1, false) = ab at hnr hs ⊢
        obtain ⟨ats, l2, b2⟩ := ab
        simp only at hnr hs ⊢
        have hw := wr64 (k : Int) (by omega)
        refine hC.go [] 60 ?_
        simp
        refine hC.call [.arg 0] (g205 Gl S l2 b2 91 91 c91.symm hs hS) (by simp) ?_
        have hs3 := (wantB_suf 91 (l2, b2)).trans hs
        generalize wantB 91 (l2, b2) = st3 at hnr hs3 ⊢
        obtain ⟨l3, b3⟩ := st3
        simp only at hnr hs3 ⊢
        have hkc := g207 Gl S hS k hrec l3 b3 hs3
        have hs4 := (kids_suf (nodeR_suf k) (l3.length + 1) (l3, b3)).trans hs3
        generalize kidsF (nodeR k) (l3.length + 1) (l3, b3) = K at hnr hs4 hkc
        obtain ⟨ks, l4, b4⟩ := K
        simp only at hnr hs4 hkc
        refine hC.go [] 60 ?_
        simp [hw]
        refine hC.call [.arg 0] hkc (by simp) ?_
        refine hC.go [] 60 ?_
        simp
        refine hC.call [.arg 0] (g205 Gl S l4 b4 93 93 c93.symm hs4 hS) (by simp) ?_
        rw [hnr] at hC
        refine hC.til [29] [] 60 ?_
        simp
        refine go_to (M := ⟨[(4, .ptr (.loc 4) 0), (5, .ptr (.loc 5) 0)], [(.arg 0, some (rdA S (wantB 93 (l4, b4)).1 (wantB 93 (l4, b4)).2)), (.loc 4, some (.box 87 zero79)), (.loc 5, some (.box 87 [vS (bs nm), vS ⟨#[]⟩, .pv (.nilS 1), .pv (.ro 2 (atR ats)), .pv (nodes ks)]))]⟩) [] (hC.go [] 60 ?_) (by simp)
        simp [N.av, N.cells, N.kind, N.text, N.marks, N.attrs, N.kids, bo]
        exact fun a b _ => ⟨rfl, rfl⟩
      · -- the attributes
        have haf : attrsF (l1, false) = if (takesB 40 l1).1 = true then ((attrsR 40 (l1, false)).1, wantB 41 (attrsR 40 (l1, false)).2) else ([], (l1, false)) := rfl
        refine hC.go [] 60 ?_
        simp
        refine hC.call [.arg 0] (g203 Gl S l1 false 40 40 c40.symm hms) (by simp) ?_
        cases h40 : headIs 40 l1 with
        | false =>
          rw [takes_hd h40] at haf
          simp only [Bool.false_eq_true, if_false] at haf
          rw [haf] at tail
          refine hC.til [1026] [] 60 ?_
          simp
          exact go_to [(.can 0, .nil)] (tail ()) (by simp)
        | true =>
          have ht40 : (takesB 40 l1).1 = true := by rw [takes_head, h40]
          rw [if_pos ht40] at haf
          rw [haf] at tail
          refine hC.go [] 60 ?_
          simp
          obtain ⟨A, hA⟩ : ∃ A, attrsR 40 (l1, false) = A := ⟨_, rfl⟩
          rw [hA] at tail
          have hsl := hms.length_le
          refine go_loop (ι := {x : List (Bs × Bs) × UInt8 × Bs × Bool // x.2.2.1 <:+ S ∧ x.1.length + x.2.2.1.length ≤ S.length ∧ A = (x.1 ++ (attrsR x.2.1 x.2.2).1, (attrsR x.2.1 x.2.2).2)})
            (fun x => ⟨[(0, .ptr (.arg 0) 0), (1, vI (k + 1)), (4, .ptr (.loc 4) 0), (5, .ptr (.loc 5) 0), (6, .pv (.val (.int .u8 (x.1.2.1.toNat : Int))))], [(.arg 0, some (rdA S x.1.2.2.1 x.1.2.2.2)), (.loc 4, some (.box 87 zero79)), (.loc 5, some (.box 87 [vS (bs nm), vS ⟨#[]⟩, .pv (.nilS 1), .own (.can 0), .pv (.nilS 5)])), (.can 0, some (.row 136 2 (atR x.1.1)))]⟩)
            (fun x => x.1.2.2.1.length) ⟨([], 40, l1, false), hms, by simpa using hsl, by rw [← hA]; simp⟩ [(.can 0, .nil)] (by simp) fun x ih => ?_
          obtain ⟨⟨acc, c, m, bb⟩, hm, hlen, hn⟩ := x
          simp only at hm hlen hn ih
          refine hC.go [] 60 ?_
          simp
          refine hC.callR [.arg 0] (g203 Gl S m bb c (c.toNat : Int) rfl hm) (by simp) ?_
          cases hh : headIs c m with
          | false =>
            have hne : ¬ ((takesB c m).1 = true ∧ bb = false) := by rw [takes_head, hh]; simp
            have hAe : A = (acc, (m, bb)) := by rw [hn, attrsR, dif_neg hne]; simp
            rw [hAe] at tail
            refine hC.go [] 60 ?_
            simp
            refine hC.call [.arg 0] (g205 Gl S m bb 41 41 c41.symm hm hS) (by simp) ?_
            refine hC.til [1026] [] 60 ?_
            simp
            exact go_to [] (tail ()) (by simp)
          | true =>
            cases bb with
            | true =>
              have hne : ¬ ((takesB c m).1 = true ∧ true = false) := by simp
              have hAe : A = (acc, (m, true)) := by rw [hn, attrsR, dif_neg hne]; simp
              rw [hAe] at tail
              refine hC.go [] 60 ?_
              simp
              refine hC.call [.arg 0] (g205 Gl S m true 41 41 c41.symm hm hS) (by simp) ?_
              refine hC.til [1026] [] 60 ?_
              simp
              exact go_to [] (tail ()) (by simp)
            | false =>
              obtain ⟨t, rfl⟩ := head_cons hh
              have ht := suf_tail hm
              have htk : (takesB c (c :: t)).1 = true ∧ false = false := ⟨by rw [takes_head, hh], rfl⟩
              rw [attrsR, dif_pos htk] at hn
              rw [takes_hit] at hn
              simp only at hn
              simp only [List.length_cons] at hlen ih
              refine hC.go [] 60 ?_
              simp
              refine hC.call [.arg 0] (g205 Gl S (c :: t) false c (c.toNat : Int) rfl hm hS) (by simp) ?_
              rw [want_hit]
              refine hC.go [] 60 ?_
              simp
              refine hC.call [.arg 0] (g206 Gl S t false ht hS) (by simp) ?_
              have hs1 := (name_suf t).trans ht
              have hs2 := (wantB_suf 61 ((nameB t).2, false)).trans hs1
              have hs3 := (quotedR_suf (wantB 61 ((nameB t).2, false))).trans hs2
              have hal := attrR1_len t
              have har : attrR1 t = (((nameB t).1, (quotedR (wantB 61 ((nameB t).2, false))).1), (quotedR (wantB 61 ((nameB t).2, false))).2) := rfl
              rw [har] at hn hal
              have hqc := g204 Gl S (wantB 61 ((nameB t).2, false)).1 (wantB 61 ((nameB t).2, false)).2 hs2 hS
              refine hC.go [] 60 ?_
              simp
              refine hC.call [.arg 0] (g205 Gl S (nameB t).2 false 61 61 c61.symm hs1 hS) (by simp) ?_
              generalize wantB 61 ((nameB t).2, false) = w61 at hn hal hs2 hs3 hqc ⊢
              obtain ⟨wl, wb⟩ := w61
              simp only at hn hal hs2 hs3 hqc ⊢
              generalize quotedR (wl, wb) = qr at hn hal hs3 hqc ⊢
              obtain ⟨v, l5, b5⟩ := qr
              simp only at hn hal hs3 hqc ⊢
              generalize nameB t = nmt at hn hal ⊢
              obtain ⟨an, al⟩ := nmt
              simp only at hn hal ⊢
              refine hC.go [] 60 ?_
              simp
              refine hC.drawn (by kernel_rfl) (by simp) ?_
              refine hC.go [] 60 ?_
              simp
              refine hC.call [.arg 0] hqc (by simp) ?_
              refine hC.go [] 60 ?_
              simp
              refine ⟨by omega, ?_⟩
              exact go_to [(.can 0, .nm (.loc 74))] (ih ⟨(acc ++ [(an, v)], 32, l5, b5), hs3, by simp; omega, by rw [hn]; simp⟩ (by simp; omega)) (by simp [c32])
end Go.Proofs.D
/-
  THE ANSWER TO CHAPTER 2: the node of a text.
-/
set_option linter.unusedVariables false
set_option linter.unusedSimpArgs false
namespace Go.Proofs.D
open Go Go.Abs Go.RowKit
attribute [local simp] VC VCS stepVS stepTopS firstId memN bigB unmark markT mkOff calmP keepT boundB stepV stepTop stepReg stepOp stMove stPick stBin stUn stConv stBox stAlloc stLoad stStore stFieldAddr stField stExtract stNilCheck stMakeFunc stIndexAddr stIndex stLen
  stBuild placesOf fillA stBuildSlice sliceCells repL chunks allPV toPV drawOk drawOk.go mayMakeO mayMake1 disjoint pairOk Oper.apart Oper.looksAt Op.operands Call.operands Region.binds stAppend appBase appTail unName stSlice bndA
  LS.ev LS.get LS.blk LS.put LS.app LS.upd lkS lkH setS setH Nm.eqb guardOf nexts okPair dstOk AV.cellsOf takeAt putAt lkT sliceE fieldT intK isStrT isBoolT abin newOk LS.freshB LS.freshB.go LS.freshB.goH notIn AV.ments AV.ments.mentsL Blk.ments makes upsMents LS.start startL exitTo T T3 T4 outs callSideR callSideO callSideD upsR backO freshAll argB onlyIO List.map List.append List.nil_append List.cons_append Nat.blt
  conv convS convH srcs srcOf blkOk leA leA.leL Go.Abs.leB leP laid laidM laidG isArg subH retP resAV resL res1 AV.frz AV.frz.frzL evL AV.ren AV.ren.renL Blk.ren renBs blksOf allSome nodupB onlyArgs blksMents callUps keyed inName inName.go backName callSide
theorem ix_self (S : Bs) : ix S S = 0 := by simp [ix]
theorem g153 (Gl : Granted) (S : Bs) (hS : S.length ≤ 1000000) : Fun Tryz.prog Gl 153 [.ptr (.arg 0) 0] [some (rdA S S false)] (readR S).1.av [some (rdA S (readR S).2.1 (readR S).2.2)] := by
  have hw := wr64 ((S.length : Int) + 1) (by omega)
  have hc := g183 Gl S hS (S.length + 1) (by omega) S (List.suffix_refl S)
  have hr : nodeR (S.length + 1) (S, false) = readR S := rfl
  rw [hr] at hc
  generalize readR S = r at hc ⊢
  refine fun_of (T := T4) (n := 11) (rs := [.cell 2 87]) Tryz.func153 (by kernel_rfl) rfl rfl rfl tok4 mixed (by simp) fun C hC => ?_
  refine hC.go [] 60 ?_
  simp [bsl, hw]
  refine hC.call [.arg 0] hc (by simp [N.av, N.cells]) ?_
  refine hC.go [] 60 ?_
  simp [N.av, N.cells]
set_option maxRecDepth 20000 in
set_option maxHeartbeats 4000000 in
theorem g127 (Gl : Granted) (s : Bs) (hs : s.length ≤ 15000) : Fun Tryz.prog Gl 127 [vS (bs s)] [] (.tup [(parseN s).1.av, vI (parseN s).2]) [] := by
  have hp := readR_parse s
  have hwt : (readR s).2.2 = false → (readR s).1.wt ≤ 100000 := fun h => by
    obtain ⟨h1, h2⟩ := read_alike s
    rw [h2 h]
    have := node_wt s
    unfold readN
    omega
  have hc := g153 Gl s (by omega)
  have hsf : (readR s).2.1 <:+ s := nodeR_suf _ _
  generalize readR s = r at hp hwt hc hsf
  obtain ⟨n, l, b⟩ := r
  simp only at hp hwt hc hsf
  rw [hp]
  have hix : (ix s l : Int) = s.length ↔ l = [] := by
    have := hsf.length_le
    unfold ix
    constructor
    · intro h; exact List.eq_nil_of_length_eq_zero (by omega)
    · intro h; subst h; simp
  have hi0 := ix_self s
  have hz0 : n0.av = .agg [vS ⟨#[]⟩, vS ⟨#[]⟩, .pv (strs []), .pv (pairs []), .pv (nodes [])] := rfl
  refine fun_of (T := T4) (n := 44) (rs := [.cell 2 87, .tmp 3]) Tryz.func127 (by kernel_rfl) rfl rfl rfl tok4 mixed (by simp) fun C hC => ?_
  refine hC.go [] 60 ?_
  simp
  refine hC.call [.loc 9] hc (by simp [N.av, N.cells, hi0]) ?_
  cases b with
  | true =>
    rw [if_pos (.inl rfl)] at hC
    simp only [hz0] at hC
    refine hC.go [] 60 ?_
    simp [N.av, N.cells]
  | false =>
    have hwt := hwt rfl
    by_cases hl : l = []
    · subst hl
      have hin := ix_nil s
      refine hC.go [] 60 ?_
      simp [N.av, N.cells, hin, bsl]
      refine hC.call [] (g123 Gl n hwt) (by simp [N.av, N.cells]) ?_
      have hbe : (bs n.w = bs s) = (n.w = s) := propext ⟨fun h => by have := congrArg (fun x : ByteArray => x.data.toList) h; simpa [bs_list] using this, fun h => by rw [h]⟩
      by_cases hw : n.w = s
      · refine hC.go [] 60 ?_
        simp [hbe, hw]
        refine hC.call [] (g74 Gl n hwt) (by simp [N.av, N.cells]) ?_
        cases hf : n.form with
        | false =>
          rw [if_pos (by simp [hf])] at hC
          simp only [hz0] at hC
          refine hC.go [] 60 ?_
          simp [N.av, N.cells]
        | true =>
          rw [if_neg (by simp [hf, hw])] at hC
          refine hC.go [] 60 ?_
          simp
          refine hC.call [] (g39 Gl n hwt) (by simp [N.av, N.cells]) ?_
          by_cases hc0 : n.check = 0
          · rw [if_pos hc0] at hC
            refine hC.go [] 60 ?_
            simp [N.av, N.cells, hc0]
          · rw [if_neg hc0] at hC
            simp only [hz0] at hC
            refine hC.go [] 60 ?_
            simp [N.av, N.cells, hc0]
      · rw [if_pos (by simp [hw])] at hC
        simp only [hz0] at hC
        refine hC.go [] 60 ?_
        simp [hbe, hw, N.av, N.cells]
    · rw [if_pos (by simp [hl])] at hC
      simp only [hz0] at hC
      have hne : ¬ (ix s l : Int) = s.length := fun h => hl (hix.1 h)
      have hne' : ¬ ix s l = s.length := by omega
      refine hC.go [] 60 ?_
      simp [N.av, N.cells, bsl, hne, hne']
theorem g87 (Gl : Granted) (s : Bs) (hs : s.length ≤ 14000) : Fun Tryz.prog Gl 87 [vS (bs s)] [] (.tup [.pv (nodes (parseAllB s).1), vI (parseAllB s).2]) [] := by
  have k1 : (⟨#[120, 91]⟩ : ByteArray) = bs [120, 91] := rfl
  have k2 : (⟨#[93]⟩ : ByteArray) = bs [93] := rfl
  refine fun_of (T := T4) (n := 16) (rs := [.tmp 2, .tmp 3]) Tryz.func87 (by kernel_rfl) rfl rfl rfl tok4 mixed (by simp) fun C hC => ?_
  refine hC.go [] 60 ?_
  simp [k1, k2, bs_app, bsl]
  repeat (refine ⟨by omega, ?_⟩)
  refine hC.call [] (g127 Gl (120 :: 91 :: (s ++ [93])) (by simp; omega)) (by simp [N.av, N.cells]) ?_
  refine hC.go [] 60 ?_
  simp [N.av, N.cells, parseAllB]
end Go.Proofs.D
/-
  THE ANSWER TO CHAPTER 15: quoted texts, brackets.
-/
set_option linter.unusedVariables false
set_option linter.unusedSimpArgs false
namespace Go.Proofs.D
open Go Go.Abs Go.RowKit
attribute [local simp] VC VCS stepVS stepTopS firstId memN bigB unmark markT mkOff calmP keepT boundB stepV stepTop stepReg stepOp stMove stPick stBin stUn stConv stBox stAlloc stLoad stStore stFieldAddr stField stExtract stNilCheck stMakeFunc stIndexAddr stIndex stLen
  stBuild placesOf fillA stBuildSlice sliceCells repL chunks allPV toPV drawOk drawOk.go mayMakeO mayMake1 disjoint pairOk Oper.apart Oper.looksAt Op.operands Call.operands Region.binds stAppend appBase appTail unName stSlice bndA
  LS.ev LS.get LS.blk LS.put LS.app LS.upd lkS lkH setS setH Nm.eqb guardOf nexts okPair dstOk AV.cellsOf takeAt putAt lkT sliceE fieldT intK isStrT isBoolT abin newOk LS.freshB LS.freshB.go LS.freshB.goH notIn AV.ments AV.ments.mentsL Blk.ments makes upsMents LS.start startL exitTo T T3 T4 outs callSideR callSideO callSideD upsR backO freshAll argB onlyIO List.map List.append List.nil_append List.cons_append Nat.blt
  conv convS convH srcs srcOf blkOk leA leA.leL Go.Abs.leB leP laid laidM laidG isArg subH retP resAV resL res1 AV.frz AV.frz.frzL evL AV.ren AV.ren.renL Blk.ren renBs blksOf allSome nodupB onlyArgs blksMents callUps keyed inName inName.go backName callSide
theorem drop_at {S t : Bs} {i : Nat} {c : UInt8} (h : S.drop i = c :: t) : i < S.length ∧ byteAt (bs S) (i : Int) = (c.toNat : Int) ∧ S.drop (i + 1) = t ∧ (bs S).extract i (i + 1) = bs [c] := by
  have hlt : i < S.length := by
    rcases Nat.lt_or_ge i S.length with h1 | h1
    · exact h1
    · rw [List.drop_eq_nil_of_le h1] at h; cases h
  rw [List.drop_eq_getElem_cons hlt] at h
  simp only [List.cons.injEq] at h
  refine ⟨hlt, ?_, h.2, ?_⟩
  · rw [← h.1]; exact byteAt_of hlt
  · rw [← h.1]
    have := extract1 (bs S) i (by rw [bsl]; exact hlt)
    rw [this]
    simp [bs_list]
theorem drop_nil {S : Bs} {i : Nat} (h : S.drop i = []) : S.length ≤ i := List.drop_eq_nil_iff.1 h
theorem ix_drop {S r : Bs} (h : r <:+ S) : S.drop (ix S r) = r := (List.suffix_iff_eq_drop.1 h).symm
theorem drop_or (S : Bs) (i : Nat) : S.drop i = [] ∨ ∃ c t, S.drop i = c :: t := by cases S.drop i <;> simp
def quotedI (S : Bs) (i : Nat) : Int × Bs := match quotedX (S.drop i) with
  | none => (-1, [])
  | some p => (ix S p.2, p.1)
set_option maxRecDepth 20000 in
set_option maxHeartbeats 4000000 in
theorem g85 (Gl : Granted) (S : Bs) (i : Nat) (hS : S.length ≤ 1000000) (hi : i ≤ S.length + 1) : Fun Tryz.prog Gl 85 [vS (bs S), vI i] [] (.tup [vI (quotedI S i).1, vS (bs (quotedI S i).2)]) [] := by
  have k0 : (⟨#[]⟩ : ByteArray) = bs [] := rfl
  have hq : quotedI S i = match quotedX (S.drop i) with
    | none => (-1, [])
    | some p => (ix S p.2, p.1) := rfl
  refine fun_of (T := T4) (n := 50) (rs := [.tmp 4, .tmp 5]) Tryz.func85 (by kernel_rfl) rfl rfl rfl tok4 mixed (by simp) fun C hC => ?_
  cases hd : S.drop i with
  | nil =>
    have hge := drop_nil hd
    rw [hd] at hq
    simp only [quotedX] at hq
    rw [hq] at hC
    refine hC.go [] 60 ?_
    simp [bsl, hge, k0]
  | cons c t =>
    obtain ⟨h1, h2, h3, _⟩ := drop_at hd
    rw [hd] at hq
    by_cases hc : c = 34
    · subst hc
      have hb : byteAt (bs S) (i : Int) = 34 := h2
      simp only [quotedX, if_true] at hq
      have hge : ¬ S.length ≤ i := by omega
      have hw := wr64 ((i : Int) + 1) (by omega)
      refine hC.go [] 60 ?_
      simp [bsl, hge, h1, hb, hw]
      refine go_loop (ι := {x : Nat × Bs // x.1 ≤ S.length + 1 ∧ x.2.length ≤ x.1 ∧ quotedGo t [] = quotedGo (S.drop x.1) x.2}) (fun x => ⟨[(0, vS (bs S)), (6, vS (bs x.1.2)), (7, vI x.1.1)], []⟩)
        (fun x => S.length + 2 - x.1.1) ⟨(i + 1, []), by omega, by simp, by rw [h3]⟩ [] (by simp [k0]) fun x ih => ?_
      obtain ⟨⟨j, out⟩, hj, hol, hn⟩ := x
      simp only at hj hol hn ih
      rw [hn] at hq
      rcases drop_or S j with hd2 | ⟨d, u, hd2⟩
      · have hge2 := drop_nil hd2
        rw [hd2] at hq
        simp only [quotedGo] at hq
        rw [hq] at hC
        have hlt2 : ¬ j < S.length := by omega
        refine hC.go [] 60 ?_
        simp [bsl, hlt2, k0]
      · obtain ⟨j1, j2, j3, j4⟩ := drop_at hd2
        have hw2 := wr64 ((j : Int) + 1) (by omega)
        rw [hd2] at hq hn
        by_cases hd34 : d = 34
        · subst hd34
          have hb2 : byteAt (bs S) (j : Int) = 34 := by rw [j2]; rfl
          have hqq : quotedI S i = ((ix S u : Int), out) := by
            rw [hq]
            cases u <;> simp [quotedGo]
          have hux : (ix S u : Int) = (j : Int) + 1 := by
            have := congrArg List.length j3
            rw [List.length_drop] at this
            unfold ix
            omega
          rw [hqq] at hC
          refine hC.go [] 60 ?_
          simp [bsl, j1, hb2, hw2, hux]
        · have hb2 : ¬ byteAt (bs S) (j : Int) = 34 := by
            rw [j2]
            exact fun h => hd34 (UInt8.toNat_inj.1 (by have : (34 : UInt8).toNat = 34 := rfl; omega))
          by_cases hd92 : d = 92
          · subst hd92
            have hb3 : byteAt (bs S) (j : Int) = 92 := by rw [j2]; rfl
            cases u with
            | nil =>
              have hjl := drop_nil j3
              have hnl : ¬ j + 1 < S.length := by omega
              have hnl' : ¬ (j : Int) + 1 < S.length := by omega
              have hw3 := wr64 ((j : Int) + 1 + 1) (by omega)
              have hd4 : S.drop (j + 1 + 1) = [] := List.drop_eq_nil_of_le (by omega)
              have hn2 : quotedGo t [] = quotedGo (S.drop (j + 1 + 1)) out := by rw [hn, hd4]; simp [quotedGo]
              refine hC.go [] 60 ?_
              simp [bsl, j1, hb3, hw2, hnl', hw3]
              exact go_to [] (ih ⟨(j + 1 + 1, out), by omega, by simp only; omega, hn2⟩ (by simp; omega)) (by simp)
            | cons e u =>
              obtain ⟨m1, m2, m3, m4⟩ := drop_at j3
              have hlt2 : (j : Int) + 1 < S.length := by omega
              have hw3 := wr64 ((j : Int) + 1 + 1) (by omega)
              have hn2 : quotedGo t [] = quotedGo (S.drop (j + 1 + 1)) (out ++ [e]) := by rw [hn, m3]; simp [quotedGo]
              have he : ((j : Int) + 1 + 1).toNat = j + 1 + 1 := by omega
              refine hC.go [] 60 ?_
              simp [bsl, j1, hb3, hw2, hlt2, hw3, he, m4, bs_app]
              repeat (refine ⟨by omega, ?_⟩)
              exact go_to [] (ih ⟨(j + 1 + 1, out ++ [e]), by omega, by simp; omega, hn2⟩ (by simp; omega)) (by simp)
          · have hb3 : ¬ byteAt (bs S) (j : Int) = 92 := by
              rw [j2]
              exact fun h => hd92 (UInt8.toNat_inj.1 (by have : (92 : UInt8).toNat = 92 := rfl; omega))
            have hn2 : quotedGo t [] = quotedGo (S.drop (j + 1)) (out ++ [d]) := by
              rw [hn, j3]
              cases u with
              | nil => simp [quotedGo, hd34]
              | cons e u => simp [quotedGo, hd34, hd92]
            refine hC.go [] 60 ?_
            simp [bsl, j1, hb2, hb3, hw2, j4, bs_app]
            repeat (refine ⟨by omega, ?_⟩)
            exact go_to [] (ih ⟨(j + 1, out ++ [d]), by omega, by simp; omega, hn2⟩ (by simp; omega)) (by simp)
    · have hb : ¬ byteAt (bs S) (i : Int) = 34 := by
        rw [h2]
        exact fun h => hc (UInt8.toNat_inj.1 (by have : (34 : UInt8).toNat = 34 := rfl; omega))
      simp only [quotedX, hc, if_false] at hq
      rw [hq] at hC
      have hge : ¬ S.length ≤ i := by omega
      refine hC.go [] 60 ?_
      simp [bsl, hge, h1, hb, k0]
theorem lit_ne {c d : UInt8} {z : Int} (hz : z = (c.toNat : Int)) (h : ¬ c = d) : ¬ z = (d.toNat : Int) := fun e => h (UInt8.toNat_inj.1 (by omega))
def closedI (S : Bs) (o : Int) (i : Nat) : Int := match cGo o (S.drop i) with
  | none => -1
  | some r => ix S r
theorem opnX_bd (o : Int) (c : UInt8) : o - 1 ≤ opnX o c ∧ opnX o c ≤ o + 1 := by
  unfold opnX
  split
  · omega
  · split <;> omega
set_option maxRecDepth 20000 in
set_option maxHeartbeats 4000000 in
theorem g86 (Gl : Granted) (S : Bs) (i : Nat) (hS : S.length ≤ 1000000) (hi : i ≤ S.length) : Fun Tryz.prog Gl 86 [vS (bs S), vI i] [] (vI (closedI S 0 i)) [] := by
  refine fun_of (T := T4) (n := 46) (rs := [.tmp 4]) Tryz.func86 (by kernel_rfl) rfl rfl rfl tok4 mixed (by simp) fun C hC => ?_
  refine hC.go [] 60 ?_
  simp
  refine go_loop (ι := {x : Nat × Int // x.1 ≤ S.length ∧ closedI S 0 i = closedI S x.2 x.1 ∧ -(x.1 : Int) ≤ x.2 ∧ x.2 ≤ x.1}) (fun x => ⟨[(0, vS (bs S)), (5, vI x.1.2), (6, vI x.1.1)], []⟩)
    (fun x => S.length - x.1.1) ⟨(i, 0), hi, rfl, by omega⟩ [] (by simp) fun x ih => ?_
  obtain ⟨⟨j, o⟩, hj, hn, ho1, ho2⟩ := x
  simp only at hj hn ho1 ho2 ih
  have hcl : closedI S o j = match cGo o (S.drop j) with
    | none => -1
    | some r => ix S r := rfl
  rw [hcl] at hn
  rcases drop_or S j with hd | ⟨c, t, hd⟩
  · have hge := drop_nil hd
    have hlt : ¬ j < S.length := by omega
    rw [hd, cGo_nil] at hn
    rw [hn] at hC
    refine hC.go [] 60 ?_
    simp [bsl, hlt]
  · obtain ⟨h1, h2, h3, _⟩ := drop_at hd
    have hw1 := wr64 ((j : Int) + 1) (by omega)
    by_cases hc : c = 34
    · subst hc
      have hb : byteAt (bs S) (j : Int) = 34 := by rw [h2]; rfl
      rw [hd, cGo_quoted] at hn
      have hqi : quotedI S j = match quotedGo t [] with
          | none => (-1, [])
          | some p => ((ix S p.2 : Int), p.1) := by
        have : quotedI S j = match quotedX (S.drop j) with
          | none => (-1, [])
          | some p => ((ix S p.2 : Int), p.1) := rfl
        rw [this, hd]
        simp only [quotedX, if_true]
      refine hC.go [] 60 ?_
      simp [bsl, h1, hb]
      refine hC.call [] (g85 Gl S j hS (by omega)) (by simp) ?_
      cases hq : quotedGo t [] with
      | none =>
        rw [hq] at hn hqi
        simp only at hn hqi
        rw [hn] at hC
        rw [hqi]
        refine hC.go [] 60 ?_
        simp
      | some p =>
        rw [hq] at hn hqi
        simp only at hn hqi
        have hps : p.2 <:+ S := (quotedGo_suf _ _ _ hq).trans (by rw [← h3]; exact List.drop_suffix _ _)
        have hdp := ix_drop hps
        have hple := ix_le S p.2
        have hpl := quotedGo_le _ _ _ hq
        have htl : t.length = S.length - (j + 1) := by rw [← h3, List.length_drop]
        have hix : j < ix S p.2 := by unfold ix; simp at hpl; omega
        have hnn : ¬ (ix S p.2 : Int) < 0 := by omega
        have hw2 := wr64 ((ix S p.2 : Int) - 1) (by omega)
        have e1 : (ix S p.2 : Int) - 1 + 1 = ix S p.2 := by omega
        have hw3 := wr64 (ix S p.2 : Int) (by omega)
        have hn2 : closedI S 0 i = closedI S o (ix S p.2) := by
          rw [hn]
          unfold closedI
          rw [hdp]
        rw [hqi]
        refine hC.go [] 60 ?_
        simp [hnn, hw2, e1, hw3]
        exact go_to [] (ih ⟨(ix S p.2, o), hple, hn2, by omega, by omega⟩ (by simp; omega)) (by simp)
    · have hb := lit_ne h2 hc
      have hb : ¬ byteAt (bs S) (j : Int) = 34 := hb
      have hbd := opnX_bd o c
      rw [hd, cGo_cons o c t hc] at hn
      obtain ⟨o', ho'⟩ : ∃ o', opnX o c = o' := ⟨_, rfl⟩
      rw [ho'] at hn hbd
      have hsuf : t <:+ S := by rw [← h3]; exact List.drop_suffix _ _
      have hix : (ix S t : Int) = (j : Int) + 1 := by
        have := congrArg List.length h3
        rw [List.length_drop] at this
        unfold ix
        omega
      have hcases : (byteAt (bs S) (j : Int) = 91 ∧ o' = o + 1) ∨ (¬ byteAt (bs S) (j : Int) = 91 ∧ byteAt (bs S) (j : Int) = 93 ∧ o' = o - 1) ∨ (¬ byteAt (bs S) (j : Int) = 91 ∧ ¬ byteAt (bs S) (j : Int) = 93 ∧ o' = o) := by
        by_cases e91 : c = 91
        · left; subst e91; exact ⟨by rw [h2]; rfl, by rw [← ho']; simp [opnX]⟩
        · have n91 : ¬ byteAt (bs S) (j : Int) = 91 := lit_ne h2 e91
          by_cases e93 : c = 93
          · right; left; subst e93; exact ⟨n91, by rw [h2]; rfl, by rw [← ho']; simp [opnX]⟩
          · right; right; exact ⟨n91, lit_ne h2 e93, by rw [← ho']; simp [opnX, e91, e93]⟩
      have hwo := wr64 (o + 1) (by omega)
      have hwo2 := wr64 (o - 1) (by omega)
      have hn0 : o' = 0 → closedI S 0 i = (j : Int) + 1 := fun h => by rw [hn, if_pos h]; simp only; exact hix
      have hn1 : ¬ o' = 0 → closedI S 0 i = closedI S o' (j + 1) := fun h => by
        rw [hn, if_neg h]
        unfold closedI
        rw [h3]
      rcases hcases with ⟨b1, rfl⟩ | ⟨b1, b2, rfl⟩ | ⟨b1, b2, rfl⟩
      · have b1' : ¬ byteAt (bs S) (j : Int) = 93 := by omega
        by_cases hz : o + 1 = 0
        · rw [hn0 hz] at hC
          refine hC.go [] 60 ?_
          simp [bsl, h1, b1, hwo, hz, hw1, wr64 0 (by omega)]
        · refine hC.go [] 60 ?_
          simp [bsl, h1, b1, hwo, hz, hw1]
          exact go_to [] (ih ⟨(j + 1, o + 1), by omega, hn1 hz, by dsimp only; omega, by dsimp only; omega⟩ (by simp; omega)) (by simp)
      · by_cases hz : o - 1 = 0
        · rw [hn0 hz] at hC
          refine hC.go [] 60 ?_
          simp [bsl, h1, b2, hwo2, hz, hw1, wr64 0 (by omega)]
        · refine hC.go [] 60 ?_
          simp [bsl, h1, b2, hwo2, hz, hw1]
          exact go_to [] (ih ⟨(j + 1, o - 1), by omega, hn1 hz, by dsimp only; omega, by dsimp only; omega⟩ (by simp; omega)) (by simp)
      · by_cases hz : o' = 0
        · rw [hn0 hz] at hC
          refine hC.go [] 60 ?_
          simp [bsl, h1, hb, b1, b2, hz, hw1]
        · refine hC.go [] 60 ?_
          simp [bsl, h1, hb, b1, b2, hz, hw1]
          exact go_to [] (ih ⟨(j + 1, o'), by omega, hn1 hz, by dsimp only; omega, by dsimp only; omega⟩ (by simp; omega)) (by simp)
end Go.Proofs.D
