/-
  THE READER: one item, sequences, alternatives.
-/
import Derived.Test.YtonomogpephfkaaDoorD4
set_option linter.unusedVariables false
set_option linter.unusedSimpArgs false
namespace Go.Proofs.D
open Go Go.Abs
attribute [local simp] VC stepV stepTop stepReg stepOp stMove stPick stBin stUn stConv stBox stAlloc stLoad stStore stFieldAddr stField stExtract stNilCheck stMakeFunc stIndexAddr stIndex stLen
  stBuild placesOf fillA stBuildSlice sliceCells repL chunks allPV toPV drawOk drawOk.go mayMakeO mayMake1 disjoint pairOk Oper.apart Oper.looksAt Op.operands Call.operands Region.binds stAppend appBase appTail unName stSlice bndA
  LS.ev LS.get LS.blk LS.put LS.app LS.upd lkS lkH setS setH Nm.eqb guardOf nexts okPair dstOk AV.cellsOf takeAt putAt lkT sliceE fieldT intK isStrT isBoolT abin newOk LS.freshB LS.freshB.go LS.freshB.goH notIn AV.ments AV.ments.mentsL Blk.ments makes upsMents LS.start startL exitTo T Nat.blt
  conv convS convH srcs srcOf blkOk leA leA.leL leB leP laid laidM isArg subH retP resAV resL res1 AV.frz AV.frz.frzL evL AV.ren AV.ren.renL Blk.ren renBs blksOf allSome nodupB onlyArgs blksMents callUps keyed inName inName.go backName callSide
def lowS : ByteArray := ⟨#[97, 98, 99, 100, 101, 102, 103, 104, 105, 106, 107, 108, 109, 110, 111, 112, 113, 114, 115, 116, 117, 118, 119, 120, 121, 122]⟩
def E.none : E := .mk 0 ⟨#[]⟩ []
def sfx (e : E) : List Int → St → E × St
  | [], s => (e, s)
  | o :: l, s => if hasPre s.left (Utf8.encode (wr .i32 o)) = true then (.mk o ⟨#[]⟩ [e], s.cut (Utf8.encode (wr .i32 o))) else sfx e l (s.cut (Utf8.encode (wr .i32 o)))
def baseF (tl : ByteArray → ByteArray) (alt : St → E × St) (s : St) : E × St :=
  if hasPre s.left ⟨#[40, 41]⟩ = true then (.mk 115 ⟨#[]⟩ [], s.cut ⟨#[40, 41]⟩)
  else
    let s2 := s.cut ⟨#[40, 41]⟩
    if hasPre s2.left ⟨#[40]⟩ = true then
      let r := alt (s2.cut ⟨#[40]⟩)
      (r.1, { left := cutPre r.2.left ⟨#[41]⟩, bad := !hasPre r.2.left ⟨#[41]⟩ || r.2.bad, many := r.2.many })
    else
      let s3 := s2.cut ⟨#[40]⟩
      (.mk 110 (s3.left.extract 0 (s3.left.size - (tl s3.left).size)) [], { s3 with left := tl s3.left })
def itemF (tl : ByteArray → ByteArray) (alt : St → E × St) (s : St) : E × St :=
  let s1 : St := { s with many := wr .i64 (s.many + 1) }
  if 48 < s1.many then (E.none, { s1 with bad := true })
  else sfx (baseF tl alt s1).1 [42, 43, 63] (baseF tl alt s1).2
set_option maxRecDepth 20000 in
theorem f82 (Gl : Granted) (tl : ByteArray → ByteArray) (h99 : ∀ s, Fun Tryd.prog Gl 99 [vS s, vS lowS] [] (vS (tl s)) []) (htl : ∀ s, (tl s).size ≤ s.size) (alt : St → E × St) (s : St) (hs9 : s.left.size ≤ 1000000000)
    (ha : ∀ r : St, wr .i64 (s.many + 1) = r.many → r.bad = s.bad → r.left.size ≤ s.left.size → ¬ 48 < r.many → Fun Tryd.prog Gl 28 [.ptr (.arg 0) 0] [some r.b] (alt r).1.av [some (alt r).2.b]) :
    Fun Tryd.prog Gl 82 [.ptr (.arg 0) 0] [some s.b] (itemF tl alt s).1.av [some (itemF tl alt s).2.b] := by
  refine fun_of (T := T) (n := 84) (rs := [.cell 2 25]) Tryd.func82 (by kernel_rfl) rfl rfl rfl tok mixed (by simp) fun C hC => ?_
  by_cases h48 : 48 < wr .i64 (s.many + 1)
  · refine hC.vc [] 100 ?_
    simp [h48, itemF, E.none, E.av, E.cells, E.op, E.name, E.kids]
  · refine hC.vc [] 30 ?_
    simp [h48]
    obtain ⟨e, r, hB⟩ : ∃ e r, baseF tl alt { s with many := wr .i64 (s.many + 1) } = (e, r) := ⟨_, _, rfl⟩
    have hit : itemF tl alt s = sfx e [42, 43, 63] r := by simp only [itemF, if_neg h48, hB]
    refine go_cut (ι := Unit) (fun _ => ⟨[(0, .ptr (.arg 0) 0), (2, .ptr (.loc 2) 0), (3, .ptr (.loc 3) 0)], [(.arg 0, some r.b), (.loc 2, some (.box 25 [.pv (.val (.int .u8 0)), .pv (.val (.string ⟨#[]⟩)), .pv (.nilS 3)])), (.loc 3, some (.box 25 e.cells))]⟩) (fun _ => ?_) (fun tail => ?_)
    · refine hC.vc [] 20 ?_
      simp [E.cells]
      refine go_first ?_
      refine hC.vc [] 40 ?_
      simp [E.cells, wr64]
      refine hC.call [.arg 0] (f81 Gl r.left (Utf8.encode (wr .i32 42)) r.bad r.many) (by simp [rdB, E.cells, St.cut]) ?_
      refine hC.vc [] 60 ?_
      cases p0 : hasPre r.left (Utf8.encode (wr .i32 42)) with
      | true =>
        simp [rdB, E.cells, E.av, hit, sfx, St.cut, E.op, E.name, E.kids, E.pv_eq, p0]
      | false =>
        simp [rdB, E.cells, St.cut, wr64]
        refine go_again ?_
        refine hC.vc [] 40 ?_
        simp [E.cells, wr64]
        refine hC.call [.arg 0] (f81 Gl (r.cut (Utf8.encode (wr .i32 42))).left (Utf8.encode (wr .i32 43)) (r.cut (Utf8.encode (wr .i32 42))).bad (r.cut (Utf8.encode (wr .i32 42))).many) (by simp [rdB, E.cells, St.cut]) ?_
        refine hC.vc [] 60 ?_
        cases p1 : hasPre (r.cut (Utf8.encode (wr .i32 42))).left (Utf8.encode (wr .i32 43)) with
        | true =>
          simp [St.cut] at p0 p1
          simp [rdB, E.cells, E.av, hit, sfx, St.cut, E.op, E.name, E.kids, E.pv_eq, p0, p1]
        | false =>
          simp [rdB, E.cells, St.cut, wr64]
          refine go_again ?_
          refine hC.vc [] 40 ?_
          simp [E.cells, wr64]
          refine hC.call [.arg 0] (f81 Gl ((r.cut (Utf8.encode (wr .i32 42))).cut (Utf8.encode (wr .i32 43))).left (Utf8.encode (wr .i32 63)) ((r.cut (Utf8.encode (wr .i32 42))).cut (Utf8.encode (wr .i32 43))).bad ((r.cut (Utf8.encode (wr .i32 42))).cut (Utf8.encode (wr .i32 43))).many) (by simp [rdB, E.cells, St.cut]) ?_
          refine hC.vc [] 60 ?_
          cases p2 : hasPre ((r.cut (Utf8.encode (wr .i32 42))).cut (Utf8.encode (wr .i32 43))).left (Utf8.encode (wr .i32 63)) with
          | true =>
            simp [St.cut] at p0 p1 p2
            simp [rdB, E.cells, E.av, hit, sfx, St.cut, E.op, E.name, E.kids, E.pv_eq, p0, p1, p2]
          | false =>
            simp [St.cut] at p0 p1 p2
            simp [rdB, E.cells, St.cut, wr64]
            refine go_again ?_
            refine hC.vc [] 60 ?_
            simp [rdB, E.cells, E.av, hit, sfx, St.cut, E.op, E.name, E.kids, E.pv_eq, p0, p1, p2]
    · refine hC.vc [] 20 ?_
      simp
      refine hC.call [.arg 0] (f81 Gl s.left ⟨#[40, 41]⟩ s.bad (wr .i64 (s.many + 1))) (by simp [rdB]) ?_
      cases hp : hasPre s.left ⟨#[40, 41]⟩ with
      | true =>
        simp [baseF, hp] at hB
        obtain ⟨rfl, rfl⟩ := hB
        refine hC.vc [] 8 ?_
        simp [rdB]
        exact go_to [] (tail ()) (by simp [E.cells, St.cut, E.op, E.name, E.kids])
      | false =>
        refine hC.vc [] 20 ?_
        simp [rdB]
        refine hC.call [.arg 0] (f81 Gl (cutPre s.left ⟨#[40, 41]⟩) ⟨#[40]⟩ s.bad (wr .i64 (s.many + 1))) (by simp [rdB]) ?_
        have hsz : (cutPre (cutPre s.left ⟨#[40, 41]⟩) ⟨#[40]⟩).size ≤ s.left.size := by
          simp [cutPre, hp]
          split
          · simp [ByteArray.size_extract]
          · exact Nat.le_refl _
        cases hp2 : hasPre (cutPre s.left ⟨#[40, 41]⟩) ⟨#[40]⟩ with
        | true =>
          simp [baseF, hp, hp2, St.cut] at hB
          refine hC.vc [] 20 ?_
          simp [rdB]
          refine hC.call [.arg 0] (ha ⟨cutPre (cutPre s.left ⟨#[40, 41]⟩) ⟨#[40]⟩, s.bad, wr .i64 (s.many + 1)⟩ rfl rfl hsz h48) (by simp [E.av, E.cells]) ?_
          generalize hal : alt ⟨cutPre (cutPre s.left ⟨#[40, 41]⟩) ⟨#[40]⟩, s.bad, wr .i64 (s.many + 1)⟩ = al at hB ⊢
          obtain ⟨rfl, rfl⟩ := hB
          refine hC.vc [] 20 ?_
          simp [E.av, E.cells]
          refine hC.call [.arg 0] (f81 Gl al.2.left ⟨#[41]⟩ al.2.bad al.2.many) (by simp [rdB]) ?_
          cases hp3 : hasPre al.2.left ⟨#[41]⟩ with
          | true =>
            refine hC.vc [] 12 ?_
            simp [rdB]
            exact go_to [] (tail ()) (by simp [E.cells, hp3])
          | false =>
            refine hC.vc [] 12 ?_
            simp [rdB]
            exact go_to [] (tail ()) (by simp [E.cells, hp3])
        | false =>
          simp [baseF, hp, hp2, St.cut] at hB
          obtain ⟨rfl, rfl⟩ := hB
          refine hC.vc [] 20 ?_
          simp [rdB]
          refine hC.call [] (h99 (cutPre (cutPre s.left ⟨#[40, 41]⟩) ⟨#[40]⟩)) (by simp [lowS]) ?_
          have hle := htl (cutPre (cutPre s.left ⟨#[40, 41]⟩) ⟨#[40]⟩)
          have hw := wr64 ((cutPre (cutPre s.left ⟨#[40, 41]⟩) ⟨#[40]⟩).size - (tl (cutPre (cutPre s.left ⟨#[40, 41]⟩) ⟨#[40]⟩)).size : Int) (by omega)
          refine hC.vc [] 28 ?_
          simp [hw]
          refine ⟨by omega, ?_⟩
          exact go_to [] (tail ()) (by simp [E.cells, E.op, E.name, E.kids])
end Go.Proofs.D
/-
  THE READER: sequences and alternatives.
-/
set_option linter.unusedVariables false
set_option linter.unusedSimpArgs false
namespace Go.Proofs.D
open Go Go.Abs
attribute [local simp] VC stepV stepTop stepReg stepOp stMove stPick stBin stUn stConv stBox stAlloc stLoad stStore stFieldAddr stField stExtract stNilCheck stMakeFunc stIndexAddr stIndex stLen
  stBuild placesOf fillA stBuildSlice sliceCells repL chunks allPV toPV drawOk drawOk.go mayMakeO mayMake1 disjoint pairOk Oper.apart Oper.looksAt Op.operands Call.operands Region.binds stAppend appBase appTail unName stSlice bndA
  LS.ev LS.get LS.blk LS.put LS.app LS.upd lkS lkH setS setH Nm.eqb guardOf nexts okPair dstOk AV.cellsOf takeAt putAt lkT sliceE fieldT intK isStrT isBoolT abin newOk LS.freshB LS.freshB.go LS.freshB.goH notIn AV.ments AV.ments.mentsL Blk.ments makes upsMents LS.start startL exitTo T Nat.blt
  conv convS convH srcs srcOf blkOk leA leA.leL leB leP laid laidM isArg subH retP resAV resL res1 AV.frz AV.frz.frzL evL AV.ren AV.ren.renL Blk.ren renBs blksOf allSome nodupB onlyArgs blksMents callUps keyed inName inName.go backName callSide
theorem f54 (Gl : Granted) (read : St → E × St) (I : St → Prop) (hr : ∀ s, I s → Fun Tryd.prog Gl 82 [.ptr (.arg 0) 0] [some s.b] (read s).1.av [some (read s).2.b]) (hle : ∀ s, I s → (read s).2.left.size ≤ s.left.size)
    (hI : ∀ s, I s → (read s).2.bad = false → I (read s).2) (hcut : ∀ s sign, I s → hasPre s.left sign = true → I (s.cut sign)) (s : St) (hs0 : I s) (hsz : s.left.size ≤ 1000000000) :
    Fun Tryd.prog Gl 54 [.ptr (.arg 0) 0] [some s.b] (several read 115 ⟨#[32]⟩ s).1.av [some (several read 115 ⟨#[32]⟩ s).2.b] := by
  refine fun_of (T := T) (n := 7) (rs := [.cell 2 25]) Tryd.func54 (by kernel_rfl) rfl rfl rfl tok mixed (by simp) fun C hC => ?_
  refine hC.vc [] 60 ?_
  simp
  refine hC.call [.arg 0] (f53 Gl read 115 ⟨#[32]⟩ 82 I hr hle hI (fun q => hcut q _) (by decide) s hs0 hsz) (by simp [E.av, E.cells]) ?_
  refine hC.vc [] 60 ?_
  simp [E.av, E.cells]
theorem f28 (Gl : Granted) (read : St → E × St) (I : St → Prop) (hr : ∀ s, I s → Fun Tryd.prog Gl 54 [.ptr (.arg 0) 0] [some s.b] (read s).1.av [some (read s).2.b]) (hle : ∀ s, I s → (read s).2.left.size ≤ s.left.size)
    (hI : ∀ s, I s → (read s).2.bad = false → I (read s).2) (hcut : ∀ s sign, I s → hasPre s.left sign = true → I (s.cut sign)) (s : St) (hs0 : I s) (hsz : s.left.size ≤ 1000000000) :
    Fun Tryd.prog Gl 28 [.ptr (.arg 0) 0] [some s.b] (several read 97 ⟨#[124]⟩ s).1.av [some (several read 97 ⟨#[124]⟩ s).2.b] := by
  refine fun_of (T := T) (n := 7) (rs := [.cell 2 25]) Tryd.func28 (by kernel_rfl) rfl rfl rfl tok mixed (by simp) fun C hC => ?_
  refine hC.vc [] 60 ?_
  simp
  refine hC.call [.arg 0] (f53 Gl read 97 ⟨#[124]⟩ 54 I hr hle hI (fun q => hcut q _) (by decide) s hs0 hsz) (by simp [E.av, E.cells]) ?_
  refine hC.vc [] 60 ?_
  simp [E.av, E.cells]
end Go.Proofs.D
