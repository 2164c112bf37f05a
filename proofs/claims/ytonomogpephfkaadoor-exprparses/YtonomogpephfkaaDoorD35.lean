/-
  THE SECOND ANSWER: an expression is written as the first one writes it.
-/
import Derived.Test.YtonomogpephfkaaDoorD34
set_option linter.unusedVariables false
set_option linter.unusedSimpArgs false
set_option linter.unusedSimpArgs false
namespace Go.Proofs.D
open Go Go.Abs
attribute [local simp] VC stepV stepTop stepReg stepOp stMove stPick stBin stUn stConv stBox stAlloc stLoad stStore stFieldAddr stField stExtract stNilCheck stMakeFunc stIndexAddr stIndex stLen
  stBuild placesOf fillA stBuildSlice sliceCells repL chunks allPV toPV drawOk drawOk.go mayMakeO mayMake1 disjoint pairOk Oper.apart Oper.looksAt Op.operands Call.operands Region.binds stAppend appBase appTail unName stSlice bndA
  LS.ev LS.get LS.blk LS.put LS.app LS.upd lkS lkH setS setH Nm.eqb guardOf nexts okPair dstOk AV.cellsOf takeAt putAt lkT sliceE fieldT intK isStrT isBoolT abin newOk LS.freshB LS.freshB.go LS.freshB.goH notIn AV.ments AV.ments.mentsL Blk.ments makes upsMents LS.start startL exitTo T Nat.blt
  conv convS convH srcs srcOf blkOk leA leA.leL leB leP laid laidM isArg subH retP resAV resL res1 AV.frz AV.frz.frzL evL AV.ren AV.ren.renL Blk.ren renBs blksOf allSome nodupB onlyArgs blksMents callUps keyed inName inName.go backName callSide
set_option maxRecDepth 20000 in
set_option maxHeartbeats 2000000 in
theorem f57 (Gl : Granted) (e : E) (hok : e.ok = true) (hc : e.cnt ≤ 1000000) : Fun Tryd.prog Gl 57 [e.av] [] (vS (e.text false)) [] := by
  have hk : ∀ k ∈ e.kids, k.ok = true ∧ k.op ≠ e.op ∧ Fun Tryd.prog Gl 57 [k.av] [] (vS (k.text false)) [] := fun k hk => by
    have : k.ok = true ∧ k.op ≠ e.op := by
      by_cases h1 : e.op = 110
      · rw [E.ok_eq] at hok
        simp [h1] at hok
        rw [hok.1] at hk
        cases hk
      · rw [ok_head e h1] at hok
        simp at hok
        have := hok.2 k hk
        simp [E.bad] at this
        exact ⟨this.1.1, this.1.2⟩
    exact ⟨this.1, this.2, f57 Gl k this.1 (by have := cnt_kid hk; omega)⟩
  refine fun_of (T := T) (n := 89) (rs := [.tmp 2]) Tryd.func57 (by kernel_rfl) rfl rfl rfl tok mixed (by simp) fun C hC => ?_
  by_cases h1 : e.op = 110
  · have ht := text_eq e false
    rw [if_pos h1] at ht
    refine hC.vc [] 60 ?_
    simp [E.av, E.cells, h1, ht]
  · by_cases h2 : e.op = 115 ∧ e.kids = []
    · have ht := text_eq e false
      refine hC.vc [] 60 ?_
      simp [E.av, E.cells, h2, ht]
    · have ht := text_sep e h1 h2
      have h2' : e.op = 115 → ¬ e.kids = [] := fun a b => h2 ⟨a, b⟩
      obtain ⟨ts, hts⟩ : ∃ ts : List ByteArray, (e.kids.map fun k => k.text (!decide (e.op = 97))) = ts := ⟨_, rfl⟩
      have hjs : ∀ i, (joinB (ts.take i) e.sep).size ≤ 16000000 := fun i => by
        have := take_join e (fun k hk' b => text_size k b (hk k hk').1) i
        rw [hts] at this
        omega
      rw [hts] at ht
      have htl : ts.length = e.kids.length := by rw [← hts, List.length_map]
      refine hC.vc [] 14 ?_
      simp [E.av, E.cells, h1]
      refine go_cut (ι := Unit) (fun _ => ⟨[(1, .ptr (.loc 1) 0)], [(.loc 1, some (.box 31 e.cells))]⟩) (fun _ => ?_) (fun tail => ?_)
      · refine go_lenB (.loc 1) 31 e.cells 2 3 (e.kids.map E.pv) (by simp [E.cells]) (by simp [E.cells]) fun hl => ?_
        rw [List.length_map] at hl
        refine hC.vc [] 60 ?_
        simp [E.cells]
        refine go_loop (ι := {i : Nat // i ≤ e.kids.length}) (fun x => ⟨[(1, .ptr (.loc 1) 0), (3, vS (joinB (ts.take x.1) e.sep)), (4, vI x.1)], [(.loc 1, some (.box 31 e.cells))]⟩) (fun x => e.kids.length - x.1) ⟨0, Nat.zero_le _⟩ [] (by simp [E.cells, joinB_nil]) fun x ih => ?_
        obtain ⟨i, hi⟩ := x
        simp only at hi ih
        refine hC.vc [] 26 ?_
        simp [E.cells]
        by_cases hlt : i < e.kids.length
        · simp [hlt, E.pv_eq e.kids[i]]
          obtain ⟨hko, hop, hf⟩ := hk e.kids[i] (by simp)
          refine hC.call [] hf (by simp [E.av, E.cells]) ?_
          refine hC.vc [] 2 ?_
          simp
          have hti : ts[i]? = some (e.kids[i].text (!decide (e.op = 97))) := by rw [← hts, List.getElem?_map, List.getElem?_eq_getElem hlt]; rfl
          have htk : ts.take (i + 1) = ts.take i ++ [e.kids[i].text (!decide (e.op = 97))] := by rw [List.take_add_one, hti]; rfl
          have hsz := hjs (i + 1)
          have hsz0 := hjs i
          have htk' : joinB (ts.take (i + 1)) e.sep = (if ts.take i = [] then ⟨#[]⟩ else joinB (ts.take i) e.sep ++ e.sep) ++ e.kids[i].text (!decide (e.op = 97)) := by rw [htk, joinB_snoc]
          rw [htk'] at hsz
          have htz := text_size e.kids[i] false hko
          have hcz := cnt_kid (e := e) (k := e.kids[i]) (by simp)
          have ht1 : e.kids[i].text (!decide (e.op = 97)) = if e.kids[i].op = 97 ∨ (e.kids[i].op = 115 ∧ e.kids[i].kids ≠ [] ∧ e.op ≠ 97) then ⟨#[40]⟩ ++ e.kids[i].text false ++ ⟨#[41]⟩ else e.kids[i].text false := by
            by_cases h97 : e.op = 97
            · have : ¬ e.kids[i].op = 97 := fun h => hop (h.trans h97.symm)
              simp [h97, this]
            · simp [h97, text_par]
          have h0 : ts.take i = [] ↔ i = 0 := by
            constructor
            · intro h
              have := congrArg List.length h
              rw [List.length_take, htl, Nat.min_eq_left hi] at this
              exact this
            · intro h; subst h; rfl
          generalize e.kids[i].text (!decide (e.op = 97)) = t1 at ht1 hsz htk'
          generalize e.kids[i].text false = t0 at ht1 htz hC ⊢
          have hacc : i = 0 → joinB (ts.take i) e.sep = ⟨#[]⟩ := fun h => by subst h; rfl
          generalize joinB (ts.take i) e.sep = acc at hacc hsz hsz0 htk' ⊢
          have e0 : (⟨#[40]⟩ : ByteArray).size = 1 := rfl
          have e1 : (⟨#[41]⟩ : ByteArray).size = 1 := rfl
          have e2 : (⟨#[32]⟩ : ByteArray).size = 1 := rfl
          have e3 : (⟨#[124]⟩ : ByteArray).size = 1 := rfl
          refine go_cut (ι := Unit) (fun _ => ⟨[(1, .ptr (.loc 1) 0), (3, vS acc), (4, vI i), (6, vS t1)], [(.loc 1, some (.box 31 e.cells))]⟩) (fun _ => ?_) (fun tail => ?_)
          · obtain ⟨sp, hsp⟩ : ∃ sp, (if ts.take i = [] then (⟨#[]⟩ : ByteArray) else acc ++ e.sep) = sp := ⟨_, rfl⟩
            rw [hsp] at hsz htk'
            have hss : sp.size ≤ 16000001 := by rw [ByteArray.size_append] at hsz; omega
            have hsp0 : i = 0 → sp = acc := fun h => by rw [← hsp, if_pos (h0.2 h), hacc h]
            have hsp1 : ¬ i = 0 → sp = acc ++ e.sep := fun h => by rw [← hsp, if_neg (fun h' => h (h0.1 h'))]
            refine go_cut (ι := Unit) (fun _ => ⟨[(1, .ptr (.loc 1) 0), (3, vS (if e.op = 115 then sp else acc)), (4, vI i), (6, vS t1)], [(.loc 1, some (.box 31 e.cells))]⟩) (fun _ => ?_) (fun tail => ?_)
            · refine go_cut (ι := Unit) (fun _ => ⟨[(1, .ptr (.loc 1) 0), (3, vS sp), (4, vI i), (6, vS t1)], [(.loc 1, some (.box 31 e.cells))]⟩) (fun _ => ?_) (fun tail => ?_)
              · refine hC.vc [] 60 ?_
                simp
                rw [ByteArray.size_append] at hsz
                refine ⟨by omega, ?_⟩
                have hw1 := wr64 ((i : Int) + 1) (by omega)
                exact go_to [] (ih ⟨i + 1, hlt⟩ (by simp; omega)) (by simp [E.cells, hw1, htk'])
              · by_cases b0 : i = 0
                · have hq := hsp0 b0
                  refine hC.vc [] 12 ?_
                  simp [b0]
                  exact go_to [] (tail ()) (by simp [E.cells, b0, hq])
                · have hq := hsp1 b0
                  have b1 : 0 < i := by omega
                  by_cases b2 : e.op = 97
                  · have b3 : e.sep = ⟨#[124]⟩ := by simp [E.sep, b2]
                    rw [b3] at hq
                    refine hC.vc [] 16 ?_
                    simp [b1, b2, e3, E.cells]
                    refine ⟨by omega, ?_⟩
                    exact go_to [] (tail ()) (by simp [E.cells, b2, hq])
                  · refine hC.vc [] 12 ?_
                    simp [b1, b2, E.cells]
                    have hq2 : (if e.op = 115 then sp else acc) = sp := by
                      by_cases b4 : e.op = 115
                      · simp [b4]
                      · have b3 : e.sep = ⟨#[]⟩ := by simp [E.sep, b2, b4]
                        rw [b3] at hq
                        rw [if_neg b4, hq]
                        exact bytes_ext (by simp [ByteArray.data_append])
                    exact go_to [] (tail ()) (by simp [E.cells, hq2])
            · by_cases b0 : i = 0
              · have hq := hsp0 b0
                refine hC.vc [] 12 ?_
                simp [b0]
                exact go_to [] (tail ()) (by simp [E.cells, b0, hq])
              · have hq := hsp1 b0
                have b1 : 0 < i := by omega
                by_cases b2 : e.op = 115
                · have b3 : e.sep = ⟨#[32]⟩ := by simp [E.sep, b2]
                  rw [b3] at hq
                  refine hC.vc [] 16 ?_
                  simp [b1, b2, e2, E.cells]
                  refine ⟨by omega, ?_⟩
                  exact go_to [] (tail ()) (by simp [E.cells, b2, hq])
                · refine hC.vc [] 12 ?_
                  simp [b1, b2, E.cells]
                  exact go_to [] (tail ()) (by simp [E.cells, b2])
          · by_cases a1 : e.kids[i].op = 97
            · simp [a1] at ht1
              refine hC.vc [] 29 ?_
              simp [a1, e0, e1]
              refine ⟨by omega, by omega, ?_⟩
              exact go_to [] (tail ()) (by simp [E.cells, ht1])
            · by_cases a2 : e.kids[i].op = 115
              · by_cases a3 : e.kids[i].kids = []
                · simp [a1, a2, a3] at ht1
                  refine hC.vc [] 24 ?_
                  simp [a1, a2, a3]
                  exact go_to [] (tail ()) (by simp [E.cells, ht1])
                · have a3' : 0 < e.kids[i].kids.length := List.length_pos_iff.2 a3
                  by_cases a4 : e.op = 97
                  · simp [a1, a2, a3, a4] at ht1
                    refine hC.vc [] 24 ?_
                    simp [a1, a2, a3', a4]
                    exact go_to [] (tail ()) (by simp [E.cells, ht1, a4])
                  · simp [a1, a2, a3, a4] at ht1
                    refine hC.vc [] 29 ?_
                    simp [a1, a2, a3', a4, e0, e1]
                    refine ⟨by omega, by omega, ?_⟩
                    exact go_to [] (tail ()) (by simp [E.cells, ht1])
              · simp [a1, a2] at ht1
                refine hC.vc [] 24 ?_
                simp [a1, a2]
                exact go_to [] (tail ()) (by simp [E.cells, ht1])
        · simp [hlt]
          refine hC.call [] (f85 Gl e) (by simp [E.av, E.cells]) ?_
          have hi' : ts.take i = ts := List.take_of_length_le (by omega)
          have hsz := hjs i
          rw [hi'] at hsz ⊢
          have ha : ∀ s : ByteArray, s ++ ⟨#[]⟩ = s := fun s => bytes_ext (by simp [ByteArray.data_append])
          by_cases h5 : e.op = 115 ∨ e.op = 97
          · have hs0 : e.suffix = false := by rcases h5 with h | h <;> simp [E.suffix, h]
            rw [hs0]
            rw [if_pos h5, ha] at ht
            refine hC.vc [] 60 ?_
            simp [ht]
          · have h6 := E.ok_opsS hok h1 (fun h => h5 (.inl h)) (fun h => h5 (.inr h))
            rw [if_neg h5] at ht
            have hs0 : e.suffix = true := by rcases h6 with h | h | h <;> simp [E.suffix, h]
            rw [hs0]
            have hc : ByteArray.empty.push (UInt8.ofNat e.op.toNat) = Utf8.encode (wr .i32 e.op) := by
              rcases h6 with h | h | h <;> rw [h]
              · rw [enc42]; rfl
              · rw [enc43]; rfl
              · rw [enc63]; rfl
            have hcz : (ByteArray.empty.push (UInt8.ofNat e.op.toNat)).size = 1 := by
              rcases h6 with h | h | h <;> rw [h] <;> rfl
            refine hC.vc [] 60 ?_
            simp
            refine hC.byteStr rfl (e := 5) (b := e.op) (by simp) (by simp) ?_
            rw [← hc] at ht
            refine hC.vc [] 60 ?_
            simp [hcz, ht]
            omega
      · by_cases h3 : e.op = 115
        · have h4 := h2' h3
          refine hC.vc [] 14 ?_
          simp [h3, h4]
          exact go_to [] (tail ()) (by simp [E.cells, h3])
        · refine hC.vc [] 14 ?_
          simp [h3]
          exact go_to [] (tail ()) (by simp [E.cells, h3])
termination_by SizeOf.sizeOf e
decreasing_by exact E.kids_lt hk
end Go.Proofs.D
