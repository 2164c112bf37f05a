/-
  THE SECOND ANSWER: formed, right.
-/
import Derived.Test.YtonomogpephfkaaDoorD32
import Derived.Test.YtonomogpephfkaaDoorD3
set_option linter.unusedVariables false
set_option linter.unusedSimpArgs false
namespace Go.Proofs.D
open Go Go.Abs
attribute [local simp] VC stepV stepTop stepReg stepOp stMove stPick stBin stUn stConv stBox stAlloc stLoad stStore stFieldAddr stField stExtract stNilCheck stMakeFunc stIndexAddr stIndex stLen
  stBuild placesOf fillA stBuildSlice sliceCells repL chunks allPV toPV drawOk drawOk.go mayMakeO mayMake1 disjoint pairOk Oper.apart Oper.looksAt Op.operands Call.operands Region.binds stAppend appBase appTail unName stSlice bndA
  LS.ev LS.get LS.blk LS.put LS.app LS.upd lkS lkH setS setH Nm.eqb guardOf nexts okPair dstOk AV.cellsOf takeAt putAt lkT sliceE fieldT intK isStrT isBoolT abin newOk LS.freshB LS.freshB.go LS.freshB.goH notIn AV.ments AV.ments.mentsL Blk.ments makes upsMents LS.start startL exitTo T Nat.blt
  conv convS convH srcs srcOf blkOk leA leA.leL leB leP laid laidM isArg subH retP resAV resL res1 AV.frz AV.frz.frzL evL AV.ren AV.ren.renL Blk.ren renBs blksOf allSome nodupB onlyArgs blksMents callUps keyed inName inName.go backName callSide
def E.head (e : E) : Bool := decide (e.name = ⟨#[]⟩) && (if e.op = 115 then !decide ((e.kids.length : Int) = 1) else if e.op = 97 then decide (1 < (e.kids.length : Int)) else decide (e.op = 42 ∨ e.op = 43 ∨ e.op = 63) && decide ((e.kids.length : Int) = 1))
def E.bad (e k : E) : Bool := !k.ok || decide (k.op = e.op) || (e.suffix && k.suffix)
theorem ok_head (e : E) (h : ¬ e.op = 110) : e.ok = (e.head && !(e.kids.any e.bad)) := by
  rw [E.ok_eq, if_neg h]
  have hc : e.op = 115 ∨ e.op = 97 → e.suffix = false := fun h => by
    rcases h with h | h <;> simp [E.suffix, h]
  have hany : e.suffix = false → (e.kids.any e.bad) = (e.kids.any fun k => decide (k.op = e.op) || !k.ok) := fun hs => by
    congr 1
    funext k
    simp [E.bad, hs, Bool.or_comm]
  by_cases h1 : e.op = 115
  · rw [hany (hc (.inl h1))]
    simp [E.head, h1]
  · by_cases h2 : e.op = 97
    · rw [hany (hc (.inr h2))]
      simp [E.head, h2]
    · by_cases h3 : e.op = 42 ∨ e.op = 43 ∨ e.op = 63
      · by_cases h4 : (e.kids.length : Int) = 1
        · obtain ⟨k, hk⟩ : ∃ k, e.kids = [k] := List.length_eq_one_iff.1 (by omega)
          have hs : e.suffix = true := by rcases h3 with h | h | h <;> simp [E.suffix, h]
          simp [E.head, h1, h2, h3, h4, hk, E.bad, hs]
          cases k.ok <;> cases k.suffix <;> cases decide (k.op = e.op) <;> simp
        · simp [E.head, h1, h2, h3, h4]
      · simp [E.head, h1, h2, h3]
set_option maxRecDepth 20000 in
set_option maxHeartbeats 2000000 in
theorem f84 (Gl : Granted) (e : E) (hs : e.small) : Fun Tryd.prog Gl 84 [e.av] [] (vB e.ok) [] := by
  have hk : ∀ x ∈ e.kids, Fun Tryd.prog Gl 84 [x.av] [] (vB x.ok) [] := fun x hx => f84 Gl x (E.small_kids hs x hx)
  refine fun_of (T := T) (n := 98) (rs := [.tmp 2]) Tryd.func84 (by kernel_rfl) rfl rfl rfl tok mixed (by simp) fun C hC => ?_
  by_cases a : e.op = 110
  · by_cases hk : e.kids = []
    · refine hC.vc [] 200 ?_
      simp [E.av, E.cells, a, hk]
      refine hC.call [] (f100 Gl e.name (E.small_name hs)) (by simp) ?_
      refine hC.vc [] 200 ?_
      cases hn : isName e.name <;> simp [E.ok_eq e, a, hk, hn]
    · refine hC.vc [] 200 ?_
      simp [E.av, E.cells, a, hk, E.ok_eq e]
  · have hok := ok_head e a
    refine hC.vc [] 21 ?_
    simp [E.av, E.cells, a]
    refine go_cut (ι := PLift (e.head = true)) (fun _ => ⟨[(1, .ptr (.loc 1) 0), (3, vI e.kids.length)], [(.loc 1, some (.box 31 e.cells))]⟩) (fun hd => ?_) (fun tail => ?_)
    · obtain ⟨hd⟩ := hd
      rw [hd, Bool.true_and] at hok
      refine go_lenB (.loc 1) 31 e.cells 2 3 (e.kids.map E.pv) (by simp [E.cells]) (by simp [E.cells]) fun hl => ?_
      rw [List.length_map] at hl
      refine hC.vc [] 60 ?_
      simp [E.cells]
      refine go_loop (ι := {i : Nat // i ≤ e.kids.length ∧ e.kids.any e.bad = (e.kids.drop i).any e.bad}) (fun x => ⟨[(1, .ptr (.loc 1) 0), (3, vI e.kids.length), (4, vI x.1)], [(.loc 1, some (.box 31 e.cells))]⟩) (fun x => e.kids.length - x.1) ⟨0, by simp⟩ [] (by simp [E.cells]) fun x ih => ?_
      obtain ⟨i, hi, hn⟩ := x
      simp only at hi hn ih
      refine hC.vc [] 60 ?_
      simp [E.cells]
      by_cases hlt : i < e.kids.length
      · rw [List.drop_eq_getElem_cons hlt, List.any_cons] at hn
        simp [hlt, E.pv_eq e.kids[i]]
        refine hC.call [] (hk e.kids[i] (by simp)) (by simp [E.av, E.cells]) ?_
        refine hC.vc [] 60 ?_
        have hw := wr64 ((i : Int) + 1) (by omega)
        cases hko : e.kids[i].ok with
        | false =>
          have : e.ok = false := by rw [hok, hn]; simp [E.bad, hko]
          simp [E.cells, this]
        | true =>
          by_cases hop : e.kids[i].op = e.op
          · have : e.ok = false := by rw [hok, hn]; simp [E.bad, hop]
            simp [E.cells, hop, this]
          · simp [E.cells, hop]
            refine hC.call [] (f85 Gl e) (by simp [E.av, E.cells]) ?_
            refine hC.vc [] 60 ?_
            cases hsx : e.suffix with
            | false =>
              have hb : e.bad e.kids[i] = false := by simp [E.bad, hko, hop, hsx]
              rw [hb, Bool.false_or] at hn
              simp [E.cells]
              exact go_to [] (ih ⟨i + 1, hlt, hn⟩ (by simp; omega)) (by simp [hw, E.cells])
            | true =>
              simp [E.cells]
              refine hC.call [] (f85 Gl e.kids[i]) (by simp [E.av, E.cells, E.pv_eq e.kids[i]]) ?_
              refine hC.vc [] 60 ?_
              cases hsk : e.kids[i].suffix with
              | false =>
                have hb : e.bad e.kids[i] = false := by simp [E.bad, hko, hop, hsk]
                rw [hb, Bool.false_or] at hn
                simp [E.cells]
                exact go_to [] (ih ⟨i + 1, hlt, hn⟩ (by simp; omega)) (by simp [hw, E.cells])
              | true =>
                have : e.ok = false := by rw [hok, hn]; simp [E.bad, hsx, hsk]
                simp [E.cells, this]
      · rw [List.drop_eq_nil_of_le (by omega)] at hn
        simp [hlt, hok, hn]
    · have hf : e.head = false → e.ok = false := fun h => by rw [hok, h]; rfl
      by_cases hn : e.name = ⟨#[]⟩
      · by_cases h1 : e.op = 115
        · by_cases h2 : (e.kids.length : Int) = 1
          · have := hf (by simp [E.head, h1, h2])
            refine hC.vc [] 60 ?_
            simp [h1, h2, hn, this]
          · refine hC.vc [] 48 ?_
            simp [h1, h2, hn]
            refine hC.call [] (f85 Gl e) (by simp [E.av, E.cells, h1, hn]) ?_
            have hs0 : e.suffix = false := by simp [E.suffix, h1]
            rw [hs0]
            refine hC.vc [] 8 ?_
            simp
            exact go_to [] (tail ⟨by simp [E.head, h1, h2, hn]⟩) (by simp [E.cells, h1, hn])
        · by_cases h3 : e.op = 97
          · by_cases h2 : (e.kids.length : Int) < 2
            · have := hf (by simp [E.head, h1, h3]; omega)
              refine hC.vc [] 60 ?_
              simp [h3, h2, hn, this]
            · refine hC.vc [] 60 ?_
              simp [h3, h2, hn]
              refine hC.call [] (f85 Gl e) (by simp [E.av, E.cells, h3, hn]) ?_
              have hs0 : e.suffix = false := by simp [E.suffix, h3]
              rw [hs0]
              refine hC.vc [] 8 ?_
              simp
              exact go_to [] (tail ⟨by simp [E.head, h3, hn]; omega⟩) (by simp [E.cells, h3, hn])
          · cases hsx : e.suffix with
            | false =>
              have := hf (by simp [E.suffix] at hsx; simp [E.head, h1, h3, hsx])
              refine hC.vc [] 60 ?_
              simp [h1, h3, hn]
              refine hC.call [] (f85 Gl e) (by simp [E.av, E.cells, hn]) ?_
              rw [hsx]
              refine hC.vc [] 60 ?_
              simp [this]
            | true =>
              refine hC.vc [] 60 ?_
              simp [h1, h3, hn]
              refine hC.call [] (f85 Gl e) (by simp [E.av, E.cells, hn]) ?_
              rw [hsx]
              refine hC.vc [] 60 ?_
              simp [h1, h3, hn]
              refine hC.call [] (f85 Gl e) (by simp [E.av, E.cells, hn]) ?_
              rw [hsx]
              by_cases h2 : (e.kids.length : Int) = 1
              · refine hC.vc [] 8 ?_
                simp [h2]
                exact go_to [] (tail ⟨by simp [E.suffix] at hsx; simp [E.head, h1, h3, hn, h2]; omega⟩) (by simp [E.cells, hn, h2])
              · have := hf (by simp [E.head, h1, h3, h2])
                refine hC.vc [] 60 ?_
                simp [h2, this]
      · have := hf (by simp [E.head, hn])
        refine hC.vc [] 60 ?_
        simp [hn, this]
termination_by SizeOf.sizeOf e
decreasing_by exact E.kids_lt hx
end Go.Proofs.D
