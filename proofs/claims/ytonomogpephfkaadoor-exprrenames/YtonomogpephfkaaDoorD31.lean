/-
  THE LAW ExprRenames.
-/
import Derived.Test.YtonomogpephfkaaDoorD20
import Derived.Test.YtonomogpephfkaaDoorD25
import Derived.Test.YtonomogpephfkaaDoorD8
import Derived.Test.YtonomogpephfkaaDoorL9
set_option linter.unusedVariables false
set_option linter.unusedSimpArgs false
namespace Go.Proofs.D
open Go Go.Abs
attribute [local simp] VC stepV stepTop stepReg stepOp stMove stPick stBin stUn stConv stBox stAlloc stLoad stStore stFieldAddr stField stExtract stNilCheck stMakeFunc stIndexAddr stIndex stLen
  stBuild placesOf fillA stBuildSlice sliceCells repL chunks allPV toPV drawOk drawOk.go mayMakeO mayMake1 disjoint pairOk Oper.apart Oper.looksAt Op.operands Call.operands Region.binds stAppend appBase appTail unName stSlice bndA
  LS.ev LS.get LS.blk LS.put LS.app LS.upd lkS lkH setS setH Nm.eqb guardOf nexts okPair dstOk AV.cellsOf takeAt putAt lkT sliceE fieldT intK isStrT isBoolT abin newOk LS.freshB LS.freshB.go LS.freshB.goH notIn AV.ments AV.ments.mentsL Blk.ments makes upsMents LS.start startL exitTo T Nat.blt
  conv convS convH srcs srcOf blkOk leA leA.leL leB leP laid laidM isArg subH retP resAV resL res1 AV.frz AV.frz.frzL evL AV.ren AV.ren.renL Blk.ren renBs blksOf allSome nodupB onlyArgs blksMents callUps keyed inName inName.go backName callSide
attribute [local simp] Go.Abs.leB
theorem sameLr : ∀ (n : Nat) (l : List E), (l.map E.cnt).sum ≤ n → sameL l l = true
  | _, [], _ => by simp [sameL]
  | 0, x :: l, h => by have := cnt_eq x; simp at h; omega
  | n + 1, .mk o m k :: l, h => by
    have hc := cnt_eq (.mk o m k)
    simp only [E.kids] at hc
    simp only [List.map_cons, List.sum_cons] at h
    simp only [sameL, decide_true, Bool.true_and, Bool.and_eq_true]
    exact ⟨sameLr n k (by omega), sameLr n l (by omega)⟩
theorem same_self (e : E) : e.same e = true := sameLr _ [e] (Nat.le_refl _)
set_option maxRecDepth 20000 in
set_option maxHeartbeats 4000000 in
theorem f10 (Gl : Granted) (e : E) (hs : e.small) (a b : ByteArray) (w : Row) (ha : a.size ≤ 140737488355328) (hb : b.size ≤ 140737488355328) (hw : w.length ≤ 140737488355328) : Fun Tryd.prog Gl 10 [e.av, vS a, vS b, rowAV w] [] (vB true) [] := by
  refine fun_of (T := T) (n := 97) (rs := [.tmp 8]) Tryd.func10 (by kernel_rfl) rfl rfl rfl tok mixed (by simp) fun C hC => ?_
  refine hC.vc [] 60 ?_
  simp [E.av, E.cells]
  refine hC.call [] (f12 Gl) (by simp) ?_
  refine hC.vc [] 60 ?_
  simp
  refine hC.call [] (f16 Gl e 300) (by simp [E.av, E.cells]) ?_
  refine hC.vc [] 60 ?_
  rcases light_neg e 300 with hl | hl
  · simp [hl]
  · have hl' : ¬ e.light 300 < 0 := by omega
    by_cases h40 : 40 < (w.length : Int)
    · simp [hl', h40]
    · simp [hl', h40]
      have hcnt := light_cnt e hs 300 (by omega) (by omega) hl
      have hW : w.length + 1 < maxLen := by rw [show maxLen = 9223372036854775807 from rfl]; omega
      refine hC.call [] (f18 Gl e hs) (by simp [E.av, E.cells]) ?_
      cases hr : e.right with
      | false =>
        refine hC.vc [] 60 ?_
        simp
        refine hC.call [] (f20 Gl e hs w hW) (by simp [E.av, E.cells]) ?_
        rw [has_not hr]
        refine hC.vc [] 60 ?_
        simp
      | true =>
        have hok : e.ok = true := by simp [E.right] at hr; exact hr.2
        refine hC.vc [] 20 ?_
        simp
        refine hC.call [] (f25 Gl e hs (by omega)) (by simp [E.av, E.cells]) ?_
        obtain ⟨N, hN⟩ : ∃ N, e.names = N := ⟨_, rfl⟩
        rw [hN]
        refine hC.vc [] 2 ?_
        simp
        refine go_cut (ι := {u : Unit // b ∉ N}) (fun _ => ⟨[(1, vS a), (2, vS b), (3, rowAV w), (4, .ptr (.loc 4) 0)], [(.loc 4, some (.box 25 e.cells))]⟩) (fun z => ?_) (fun tail => ?_)
        · obtain ⟨_, hbN⟩ := z
          refine hC.vc [] 4 ?_
          simp
          obtain ⟨tw, htw⟩ : ∃ tw, w.map (phi a b) = tw := ⟨_, rfl⟩
          have htl : tw.length = w.length := by rw [← htw, List.length_map]
          have htg : ∀ i (h : i < w.length), tw[i]? = some (phi a b w[i]) := fun i h => by rw [← htw, List.getElem?_map, List.getElem?_eq_getElem h]; rfl
          refine go_cut (ι := {u : Unit // ∀ x ∈ w, x ≠ b}) (fun _ => ⟨[(1, vS a), (2, vS b), (3, rowAV w), (4, .ptr (.loc 4) 0), (12, rowAV tw)], [(.loc 4, some (.box 25 e.cells))]⟩) (fun z => ?_) (fun tail2 => ?_)
          · obtain ⟨_, hbw⟩ := z
            have hs1 := rename_small a b (by omega) e hs
            have hc1 := rename_cnt a b e
            have hc2 := rename_cnt b a (e.rename a b)
            have hback := rename_back a b e hok (fun h => hbN (hN ▸ (names_mem e b).2 h))
            have hhas : (e.rename a b).right = true → (e.rename a b).has tw = e.has w := fun h => by
              rw [← htw]; exact rename_has a b hr h (by rw [hN]; exact hbN) w hbw
            refine hC.vc [] 30 ?_
            simp [E.cells]
            refine hC.call [] (f26 Gl a b e (by omega)) (by simp [E.av, E.cells]) ?_
            generalize hre : e.rename a b = r at hs1 hc1 hc2 hback hhas
            refine hC.vc [] 30 ?_
            simp [E.av, E.cells]
            refine hC.call [] (f26 Gl b a r (by omega)) (by simp [E.av, E.cells]) ?_
            rw [hback]
            refine hC.vc [] 30 ?_
            simp [E.av, E.cells]
            refine hC.call [] (asE Gl e (by omega)) (by simp [E.av, E.cells]) ?_
            refine hC.vc [] 30 ?_
            simp [E.av, E.cells]
            refine hC.call [] (f15 Gl e e) (by simp [E.av, E.cells]) ?_
            rw [same_self]
            refine hC.vc [] 30 ?_
            simp
            refine hC.call [] (f18 Gl r hs1) (by simp [E.av, E.cells]) ?_
            cases hrr : r.right with
            | false =>
              refine hC.vc [] 60 ?_
              simp
            | true =>
              refine hC.vc [] 30 ?_
              simp
              refine hC.call [] (f20 Gl r hs1 tw (by rw [htl]; exact hW)) (by simp [E.av, E.cells]) ?_
              rw [hhas hrr]
              refine hC.vc [] 30 ?_
              simp
              refine hC.call [] (f20 Gl e hs w hW) (by simp [E.av, E.cells]) ?_
              refine hC.vc [] 60 ?_
              simp
          · refine hC.vc [] 20 ?_
            simp
            refine go_loop (ι := {i : Nat // i ≤ w.length ∧ ∀ k, k < i → w[k]? ≠ some b}) (fun x => ⟨[(1, vS a), (2, vS b), (3, rowAV w), (4, .ptr (.loc 4) 0), (12, .own (.can 0)), (13, vI x.1)], [(.loc 4, some (.box 25 e.cells)), (.can 0, some (.row 9 1 ((tw.map fun s => [PV.val (Value.string s)]).take x.1)))]⟩) (fun x => w.length - x.1) ⟨0, Nat.zero_le _, fun k hk => by omega⟩ [(.can 0, .nil)] (by simp [E.cells]) fun x ih => ?_
            obtain ⟨i, hi, hne⟩ := x
            simp only at hi hne ih
            by_cases hlt : i < w.length
            · have hw1 := wr64 ((i : Int) + 1) (by omega)
              have htk : (tw.map fun s => [PV.val (Value.string s)]).take (i + 1) = (tw.map fun s => [PV.val (Value.string s)]).take i ++ [[.val (.string (phi a b w[i]))]] := by
                rw [List.take_add_one, List.getElem?_map, htg i hlt]
                rfl
              refine hC.vc [] 60 ?_
              by_cases hx : w[i] = b
              · simp [hlt, hx]
              · have hne' : ∀ k, k < i + 1 → w[k]? ≠ some b := fun k hk => by
                  by_cases hki : k = i
                  · subst hki
                    rw [List.getElem?_eq_getElem hlt]
                    exact fun h => hx (Option.some.inj h)
                  · exact hne k (by omega)
                by_cases hy : w[i] = a
                · have hph : phi a b w[i] = b := by simp [phi, hy]
                  rw [hph] at htk
                  have hab : ¬ a = b := fun h => hx (hy.trans h)
                  simp [hlt, hy, hab, E.cells]
                  refine ⟨by omega, ?_⟩
                  exact go_to [(.can 0, .nm (.loc 71))] (ih ⟨i + 1, by omega, hne'⟩ (by simp; omega)) (by simp [hw1, htk, E.cells])
                · have hph : phi a b w[i] = w[i] := by simp [phi, hy]
                  rw [hph] at htk
                  simp [hlt, hx, hy, E.cells]
                  refine ⟨by omega, ?_⟩
                  exact go_to [(.can 0, .nm (.loc 71))] (ih ⟨i + 1, by omega, hne'⟩ (by simp; omega)) (by simp [hw1, htk, E.cells])
            · have hbw : ∀ x ∈ w, x ≠ b := fun x hm hxb => by
                obtain ⟨k, hk, hkb⟩ := List.getElem_of_mem hm
                exact hne k (by omega) (by rw [List.getElem?_eq_getElem hk, hkb, hxb])
              have : (tw.map fun s => [PV.val (Value.string s)]).take i = tw.map fun s => [PV.val (Value.string s)] := List.take_of_length_le (by simp; omega)
              refine hC.vc [] 10 ?_
              simp [hlt]
              exact go_to [] (tail2 ⟨(), hbw⟩) (by simp [E.cells, this])
        · refine hC.vc [] 20 ?_
          simp
          refine go_len 10 1 (N.map fun s => [.val (.string s)]) (by simp) fun hlen => ?_
          rw [List.length_map] at hlen
          refine go_loop (ι := {i : Nat // i ≤ N.length ∧ ∀ k, k < i → N[k]? ≠ some b}) (fun x => ⟨[(1, vS a), (2, vS b), (3, rowAV w), (4, .ptr (.loc 4) 0), (10, rowAV N), (11, vI x.1)], [(.loc 4, some (.box 25 e.cells))]⟩) (fun x => N.length - x.1) ⟨0, Nat.zero_le _, fun k hk => by omega⟩ [] (by simp [E.cells]) fun x ih => ?_
          obtain ⟨i, hi, hne⟩ := x
          simp only at hi hne ih
          by_cases hlt : i < N.length
          · have hw1 := wr64 ((i : Int) + 1) (by omega)
            refine hC.vc [] 60 ?_
            by_cases hx : N[i] = b
            · simp [hlt, hx]
            · simp [hlt, hx]
              exact go_to [] (ih ⟨i + 1, by omega, fun k hk => by
                by_cases hki : k = i
                · subst hki
                  rw [List.getElem?_eq_getElem hlt]
                  exact fun h => hx (Option.some.inj h)
                · exact hne k (by omega)⟩ (by simp; omega)) (by simp [hw1, E.cells])
          · have hbN : b ∉ N := fun hm => by
              obtain ⟨k, hk, hkb⟩ := List.getElem_of_mem hm
              exact hne k (by omega) (by rw [List.getElem?_eq_getElem hk, hkb])
            refine hC.vc [] 10 ?_
            simp [hlt]
            exact go_to [] (tail ⟨(), hbN⟩) (by simp [E.cells])
end Go.Proofs.D
