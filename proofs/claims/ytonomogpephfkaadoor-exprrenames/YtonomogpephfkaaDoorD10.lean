/-
  EXPRESSIONS: with another name in the place of one.
-/
import Derived.Test.YtonomogpephfkaaDoorD18
set_option linter.unusedVariables false
set_option linter.unusedSimpArgs false
namespace Go.Proofs.D
open Go Go.Abs
attribute [local simp] VC stepV stepTop stepReg stepOp stMove stPick stBin stUn stConv stBox stAlloc stLoad stStore stFieldAddr stField stExtract stNilCheck stMakeFunc stIndexAddr stIndex stLen
  stBuild placesOf fillA stBuildSlice sliceCells repL chunks allPV toPV drawOk drawOk.go mayMakeO mayMake1 disjoint pairOk Oper.apart Oper.looksAt Op.operands Call.operands Region.binds stAppend appBase appTail unName stSlice bndA
  LS.ev LS.get LS.blk LS.put LS.app LS.upd lkS lkH setS setH Nm.eqb guardOf nexts okPair dstOk AV.cellsOf takeAt putAt lkT sliceE fieldT intK isStrT isBoolT abin newOk LS.freshB LS.freshB.go LS.freshB.goH notIn AV.ments AV.ments.mentsL Blk.ments makes upsMents LS.start startL exitTo T Nat.blt
  conv convS convH srcs srcOf blkOk leA leA.leL leB leP laid laidM isArg subH retP resAV resL res1 AV.frz AV.frz.frzL evL AV.ren AV.ren.renL Blk.ren renBs blksOf allSome nodupB onlyArgs blksMents callUps keyed inName inName.go backName callSide
def E.rename (a b : ByteArray) : E → E
  | .mk o n k => .mk o (if o = 110 ∧ n = a then b else n) (go k)
where go : List E → List E
  | [] => []
  | x :: l => x.rename a b :: go l
theorem rename_eq (a b : ByteArray) (e : E) : e.rename a b = .mk e.op (if e.op = 110 ∧ e.name = a then b else e.name) (e.kids.map (E.rename a b)) := by
  obtain ⟨o, n, k⟩ := e
  have : ∀ l, E.rename.go a b l = l.map (E.rename a b) := fun l => by induction l <;> simp [E.rename.go, *]
  simp only [E.rename, this]
  rfl
set_option maxRecDepth 20000 in
theorem f26k (Gl : Granted) (a b : ByteArray) (e : E) (hc : e.kids.length ≤ 1000000) (hk : ∀ k ∈ e.kids, Fun Tryd.prog Gl 26 [k.av, vS a, vS b] [] (k.rename a b).av []) : Fun Tryd.prog Gl 26 [e.av, vS a, vS b] [] (e.rename a b).av [] := by
  obtain ⟨n, hn⟩ : ∃ n, (if e.op = 110 ∧ e.name = a then b else e.name) = n := ⟨_, rfl⟩
  have hr := rename_eq a b e
  rw [hn] at hr
  rw [hr]
  refine fun_of (T := T) (n := 44) (rs := [.cell 6 25]) Tryd.func26 (by kernel_rfl) rfl rfl rfl tok mixed (by simp) fun C hC => ?_
  refine hC.vc [] 15 ?_
  simp [E.av, E.cells]
  refine go_cut (ι := Unit) (fun _ => ⟨[(1, vS a), (2, vS b), (3, .ptr (.loc 3) 0), (6, .ptr (.loc 6) 0), (7, .ptr (.loc 7) 0)], [(.loc 3, some (.box 25 e.cells)), (.loc 6, some (.box 25 [.pv (.val (.int .u8 0)), .pv (.val (.string ⟨#[]⟩)), .pv (.nilS 3)])), (.loc 7, some (.box 25 [.pv (.val (.int .u8 e.op)), .pv (.val (.string n)), .pv (.nilS 3)]))]⟩) (fun _ => ?_) (fun tail => ?_)
  · refine hC.vc [] 30 ?_
    simp [E.cells]
    refine go_len 27 3 (e.kids.map E.pv) (by simp) fun hl => ?_
    refine go_loop (ι := {i : Nat // i ≤ e.kids.length}) (fun x => ⟨[(1, vS a), (2, vS b), (6, .ptr (.loc 6) 0), (7, .ptr (.loc 7) 0), (27, .pv (.ro 3 (e.kids.map E.pv))), (28, vI e.kids.length), (29, vI x.1)],
        [(.loc 6, some (.box 25 [.pv (.val (.int .u8 0)), .pv (.val (.string ⟨#[]⟩)), .pv (.nilS 3)])), (.loc 7, some (.box 25 [.pv (.val (.int .u8 e.op)), .pv (.val (.string n)), .own (.can 0)])), (.can 0, some (.row 25 3 ((e.kids.map fun k => (k.rename a b).pv).take x.1)))]⟩)
      (fun x => e.kids.length - x.1) ⟨0, Nat.zero_le _⟩ [(.can 0, .nil)] (by simp [E.cells]) fun x ih => ?_
    obtain ⟨i, hi⟩ := x
    simp only at hi ih
    have hw1 := wr64 ((i : Int) + 1) (by omega)
    refine hC.vc [] 60 ?_
    by_cases hlt : i < e.kids.length
    · simp [hlt, E.pv_eq e.kids[i], E.cells]
      refine hC.call [] (hk e.kids[i] (by simp)) (by simp [E.av, E.cells]) ?_
      have htk : (e.kids.map fun k => (k.rename a b).pv).take (i + 1) = (e.kids.map fun k => (k.rename a b).pv).take i ++ [[.val (.int .u8 (e.kids[i].rename a b).op), .val (.string (e.kids[i].rename a b).name), .ro 3 ((e.kids[i].rename a b).kids.map E.pv)]] := by
        rw [List.take_add_one, List.getElem?_map, List.getElem?_eq_getElem hlt, Option.map_some, E.pv_eq (e.kids[i].rename a b)]
        rfl
      generalize e.kids[i].rename a b = r at htk ⊢
      refine hC.vc [] 60 ?_
      simp [E.av, E.cells]
      refine ⟨by omega, ?_⟩
      exact go_to [(.can 0, .nm (.loc 40))] (ih ⟨i + 1, hlt⟩ (by simp; omega)) (by simp [hw1, E.cells, htk])
    · simp [hlt, E.cells]
      have : (e.kids.map fun k => (k.rename a b).pv).take i = e.kids.map fun k => (k.rename a b).pv := List.take_of_length_le (by simp; omega)
      have hfin : (E.mk e.op n (e.kids.map (E.rename a b))).av = .agg [.pv (.val (.int .u8 e.op)), .pv (.val (.string n)), .pv (.ro 3 (e.kids.map fun k => (k.rename a b).pv))] := by
        show AV.agg [_, _, .pv (.ro 3 ((e.kids.map (E.rename a b)).map E.pv))] = _
        rw [List.map_map]
        rfl
      rw [hfin, this]
  · by_cases h1 : e.op = 110
    · by_cases h2 : e.name = a
      · have : n = b := by rw [← hn, if_pos ⟨h1, h2⟩]
        subst this
        refine hC.vc [] 18 ?_
        simp [h1, h2]
        exact go_to [] (tail ()) (by simp [E.cells, h1, h2])
      · have : n = e.name := by rw [← hn, if_neg (fun h => h2 h.2)]
        subst this
        refine hC.vc [] 14 ?_
        simp [h1, h2]
        exact go_to [] (tail ()) (by simp [E.cells, h1])
    · have : n = e.name := by rw [← hn, if_neg (fun h => h1 h.1)]
      subst this
      refine hC.vc [] 14 ?_
      simp [h1]
      exact go_to [] (tail ()) (by simp [E.cells])
theorem f26 (Gl : Granted) (a b : ByteArray) (e : E) (hc : e.cnt ≤ 1000000) : Fun Tryd.prog Gl 26 [e.av, vS a, vS b] [] (e.rename a b).av [] :=
  f26k Gl a b e (by have := kids_le e; omega) fun k hk => f26 Gl a b k (by have := cnt_kid hk; omega)
termination_by SizeOf.sizeOf e
decreasing_by exact E.kids_lt hk
end Go.Proofs.D
