/-
  NODES: written into a builder; printed.
-/
import Derived.Test.YtonomogpephfkaaDoorK7
set_option linter.unusedVariables false
set_option linter.unusedSimpArgs false
set_option linter.unusedSimpArgs false
namespace Go.Proofs.D
open Go Go.Abs Go.RowKit
attribute [local simp] VC stepV stepTop stepReg stepOp stMove stPick stBin stUn stConv stBox stAlloc stLoad stStore stFieldAddr stField stExtract stNilCheck stMakeFunc stIndexAddr stIndex stLen
  stBuild placesOf fillA stBuildSlice sliceCells repL chunks allPV toPV drawOk drawOk.go mayMakeO mayMake1 disjoint pairOk Oper.apart Oper.looksAt Op.operands Call.operands Region.binds stAppend appBase appTail unName stSlice bndA
  LS.ev LS.get LS.blk LS.put LS.app LS.upd lkS lkH setS setH Nm.eqb guardOf nexts okPair dstOk AV.cellsOf takeAt putAt lkT sliceE fieldT intK isStrT isBoolT abin newOk LS.freshB LS.freshB.go LS.freshB.goH notIn AV.ments AV.ments.mentsL Blk.ments makes upsMents LS.start startL exitTo T T3 outs callSideO callSideD upsR backO freshAll argB onlyIO List.map List.append List.nil_append List.cons_append Nat.blt
  conv convS convH srcs srcOf blkOk leA leA.leL leB leP laid laidM isArg subH retP resAV resL res1 AV.frz AV.frz.frzL evL AV.ren AV.ren.renL Blk.ren renBs blksOf allSome nodupB onlyArgs blksMents callUps keyed inName inName.go backName callSide
theorem wgo_append : ∀ (l m : List N), N.w.go (l ++ m) = N.w.go l ++ N.w.go m
  | [], m => rfl
  | x :: l, m => by simp only [List.cons_append, N.w.go, wgo_append l m, List.append_assoc]
theorem wtgo_append : ∀ (l m : List N), N.wt.go (l ++ m) = N.wt.go l + N.wt.go m
  | [], m => by simp [N.wt.go]
  | x :: l, m => by simp only [List.cons_append, N.wt.go, wtgo_append l m, Nat.add_assoc]
theorem take_wt (l : List N) (i : Nat) : N.wt.go (l.take i) ≤ N.wt.go l := by
  have := wtgo_append (l.take i) (l.drop i)
  rw [List.take_append_drop] at this
  omega
theorem byteRow_bs (l m : Bs) : byteRow (l ++ (bs m).data.toList) = byteRow (l ++ m) := by rw [bs_list]
set_option maxRecDepth 20000 in
set_option maxHeartbeats 4000000 in
theorem f110 (ad : AV) (l : Bs) (n : N) (had : ad = nilPtr ∨ ad = ptr0) (hw : n.wt ≤ 100000) (hlen : l.length + 4 * n.wt ≤ 100000000) :
    FunO Tryd.prog tabs 110 [ptr0, n.av] [some (bldB ad (.own (.arg 1))), some (bytesB l)] (.tup []) [some (bldB ptr0 (.own (.out 0))), none] [bytesB (l ++ n.w)] := by
  obtain ⟨z1, z2, z3, z4, z5, z6, z7, z8⟩ := N.lim hw
  have hrec : ∀ x ∈ n.kids, ∀ m : Bs, m.length + 4 * x.wt ≤ 100000000 → FunO Tryd.prog tabs 110 [ptr0, x.av] [some (bldB ptr0 (.own (.arg 1))), some (bytesB m)] (.tup []) [some (bldB ptr0 (.own (.out 0))), none] [bytesB (m ++ x.w)] :=
    fun x hx m hm => f110 ptr0 m x (.inr rfl) (z5 x hx) hm
  have hwl := w_len n
  have hhl := head_len n
  have hww := N.w_head n
  refine funO_of (T := T3) (n := 35) (rs := []) Tryd.func110 (by kernel_rfl) rfl rfl rfl tok3 mixed (by simp) fun C hC => ?_
  have had' := had
  rcases had with hA | hA
  all_goals
    by_cases hk : n.kind = ⟨#[116, 101, 120, 116]⟩
    · rw [if_pos (show n.kind = textK from hk)] at hww
      rw [hww] at hC hwl
      rw [List.length_append] at hwl
      refine hC.vc [] 60 ?_
      simp [N.av, N.cells, hk, hA]
      refine hC.call [] (f65 n.text (by omega)) (by simp) ?_
      refine hC.vc [] 60 ?_
      simp [N.cells, hk, hA]
      refine hC.call [] (f134 n hw) (by simp [N.av, N.cells, hk, hA]) ?_
      have hs : bs (quoteB n.text.data.toList) ++ bs n.head = bs (quoteB n.text.data.toList ++ n.head) := bsExt (by simp [bs, ByteArray.data_append])
      refine hC.vc [] 2 ?_
      simp [bs_size, hs, hA]
      refine ⟨by omega, ?_⟩
      have hsz : l.length + (bs (quoteB n.text.data.toList ++ n.head)).size ≤ 140737488355328 := by rw [bs_size, List.length_append]; omega
      refine hC.callD [.arg 0, .arg 1] 16 (f38 tabs ad l (bs (quoteB n.text.data.toList ++ n.head)) had' hsz) (by simp [N.cells, hA]) ?_
      rw [bs_list]
      refine hC.vc [] 1 ?_
      simp
      exact go_to (M := ⟨[], [(.arg 0, some (bldB ptr0 (.own (.out 0)))), (.out 0, some (bytesB (l ++ (quoteB n.text.data.toList ++ n.head))))]⟩) [(.out 0, .nm (.loc 16))] (hC.vc [] 5 (by simp)) (by simp)
    · rw [if_neg (show ¬ n.kind = textK from hk)] at hww
      rw [hww] at hC hwl
      simp only [List.length_append, List.length_cons, List.length_nil] at hwl
      refine hC.vc [] 60 ?_
      simp [N.av, N.cells, hk, hA]
      refine hC.call [] (f134 n hw) (by simp [N.av, N.cells, hk, hA]) ?_
      have g1 : (⟨#[91]⟩ : ByteArray).size = 1 := rfl
      have hs : bs n.head ++ ⟨#[91]⟩ = bs (n.head ++ [91]) := bsExt (by simp [bs, ByteArray.data_append])
      refine hC.vc [] 2 ?_
      simp [bs_size, hs, g1, hA]
      refine ⟨by omega, ?_⟩
      have hsz : l.length + (bs (n.head ++ [91])).size ≤ 140737488355328 := by rw [bs_size, List.length_append]; simp; omega
      refine hC.callO [.arg 0, .arg 1] [.can 0] (f38 tabs ad l (bs (n.head ++ [91])) had' hsz) (by simp [N.cells, hA]) ?_
      rw [bs_list]
      refine hC.vc [] 60 ?_
      simp [N.cells]
      refine go_loop (ι := {i : Nat // i ≤ n.kids.length}) (fun x => ⟨[(0, ptr0), (23, .pv (nodes n.kids)), (24, vI n.kids.length), (25, vI x.1)], [(.arg 0, some (bldB ptr0 (.own (.can 0)))), (.can 0, some (bytesB (l ++ (n.head ++ [91]) ++ N.w.go (n.kids.take x.1))))]⟩)
        (fun x => n.kids.length - x.1) ⟨0, Nat.zero_le _⟩ [] (by simp [N.w.go]) fun x ih => ?_
      obtain ⟨i, hi⟩ := x
      simp only at hi ih
      refine hC.vc [] 60 ?_
      by_cases hlt : i < n.kids.length
      · have hw1 := wr64 ((i : Int) + 1) (by omega)
        have htk : N.w.go (n.kids.take (i + 1)) = N.w.go (n.kids.take i) ++ n.kids[i].w := by
          rw [List.take_add_one, List.getElem?_eq_getElem hlt, wgo_append]
          simp [N.w.go]
        have hg4 := go_len4 (n.kids.take i)
        have hhl2 : n.head.length + 1 + 4 * N.wt.go (n.kids.take i) + 4 * n.kids[i].wt ≤ 4 * n.wt := by
          have h1 := headA_len n.attrs
          have h2 : n.head.length = n.kind.size + (headA n.attrs).length := by
            rw [N.head, if_neg (show ¬ n.kind = textK from hk), List.length_append, bsz]
          have h3 := take_wt n.kids (i + 1)
          rw [List.take_add_one, List.getElem?_eq_getElem hlt, wtgo_append] at h3
          simp only [Option.toList_some, N.wt.go] at h3
          rw [N.wt_eq n]
          omega
        simp [hlt, N.pv_eq]
        refine hC.callO [.arg 0, .can 0] [.can 1] (hrec n.kids[i] (by simp) (l ++ (n.head ++ [91]) ++ N.w.go (n.kids.take i)) (by simp only [List.length_append, List.length_cons, List.length_nil]; omega)) (by simp [N.av, N.cells]) ?_
        refine hC.vc [] 60 ?_
        simp
        exact go_to [(.can 0, .nm (.can 1))] (ih ⟨i + 1, hlt⟩ (by simp; omega)) (by simp [hw1, htk])
      · have htk : n.kids.take i = n.kids := List.take_of_length_le (by omega)
        rw [htk]
        have hg4 := go_len4 n.kids
        have hfin : l ++ (n.head ++ [91]) ++ N.w.go n.kids ++ [93] = l ++ (n.head ++ 91 :: (N.w.go n.kids ++ [93])) := by simp
        simp [hlt]
        refine hC.callO [.arg 0, .can 0] [.out 0] (f38 tabs ptr0 (l ++ (n.head ++ [91]) ++ N.w.go n.kids) ⟨#[93]⟩ (.inr rfl) (by
          have : (⟨#[93]⟩ : ByteArray).size = 1 := rfl
          rw [this]
          simp only [List.length_append, List.length_cons, List.length_nil]; omega)) (by simp) ?_
        rw [show (⟨#[93]⟩ : ByteArray).data.toList = [93] from rfl, hfin]
        refine hC.vc [] 60 ?_
        simp
termination_by SizeOf.sizeOf n
decreasing_by exact N.kids_lt hx
end Go.Proofs.D
