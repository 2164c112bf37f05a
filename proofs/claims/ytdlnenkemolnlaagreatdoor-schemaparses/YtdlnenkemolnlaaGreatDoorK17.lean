/-
  NODES: is one a text, do names rise, are two alike; what an entry says.
-/
import Derived.Test.YtdlnenkemolnlaaGreatDoorK3
import Derived.Test.YtdlnenkemolnlaaGreatDoorL0
import Derived.Test.YtdlnenkemolnlaaGreatDoorAbsP
import Derived.Test.YtdlnenkemolnlaaGreatDoorAbsK
import Derived.Test.YtdlnenkemolnlaaGreatDoorQ4
import Derived.Test.YtdlnenkemolnlaaGreatDoorAbsY
set_option linter.unusedVariables false
set_option linter.unusedSimpArgs false
namespace Go.Proofs.D
open Go Go.Abs Go.RowKit
attribute [local simp] VC VCS stepVS stepTopS firstId memN bigB unmark markT mkOff calmP keepT boundB stepV stepTop stepReg stepOp stMove stPick stBin stUn stConv stBox stAlloc stLoad stStore stFieldAddr stField stExtract stNilCheck stMakeFunc stIndexAddr stIndex stLen
  stBuild placesOf fillA stBuildSlice sliceCells repL chunks allPV toPV drawOk drawOk.go mayMakeO mayMake1 disjoint pairOk Oper.apart Oper.looksAt Op.operands Call.operands Region.binds stAppend appBase appTail unName stSlice bndA
  LS.ev LS.get LS.blk LS.put LS.app LS.upd lkS lkH setS setH Nm.eqb guardOf nexts okPair dstOk AV.cellsOf takeAt putAt lkT sliceE fieldT intK isStrT isBoolT abin newOk LS.freshB LS.freshB.go LS.freshB.goH notIn AV.ments AV.ments.mentsL Blk.ments makes upsMents LS.start startL exitTo T T3 outs callSideO callSideD upsR backO freshAll argB onlyIO List.map List.append List.nil_append List.cons_append Nat.blt
  conv convS convH srcs srcOf blkOk leA leA.leL Go.Abs.leB leP laid laidM laidG isArg subH retP resAV resL res1 AV.frz AV.frz.frzL evL AV.ren AV.ren.renL Blk.ren renBs blksOf allSome nodupB onlyArgs blksMents callUps keyed inName inName.go backName callSide
theorem f152 (Gl : Granted) (n : N) : Fun Tryz.prog Gl 198 [n.av] [] (vB n.isText) [] := by
  refine fun_of (T := T3) (n := 6) (rs := [.tmp 2]) Tryz.func198 (by kernel_rfl) rfl rfl rfl tok3 mixed (by simp) fun C hC => ?_
  refine hC.vc [] 60 ?_
  by_cases h : n.kind = ⟨#[116, 101, 120, 116]⟩ <;> simp [N.av, N.cells, N.isText, textK, h]
theorem f64 (Gl : Granted) (e : Ent) : Fun Tryz.prog Gl 68 [e.av] [] (vB e.none) [] := by
  refine fun_of (T := T3) (n := 12) (rs := [.tmp 2]) Tryz.func68 (by kernel_rfl) rfl rfl rfl tok3 mixed (by simp) fun C hC => ?_
  by_cases h : e.value = ⟨#[]⟩
  · by_cases h2 : (e.rest.length : Int) = 0
    · have h2' : e.rest.length = 0 := by omega
      refine hC.vc [] 60 ?_
      simp [Ent.av, Ent.cells, Ent.none, h, h2, h2']
    · have h2' : ¬ e.rest.length = 0 := by omega
      refine hC.vc [] 60 ?_
      simp [Ent.av, Ent.cells, Ent.none, h, h2, h2']
  · refine hC.vc [] 60 ?_
    simp [Ent.av, Ent.cells, Ent.none, h]
theorem f35 (Gl : Granted) (op : Int) (a b c : ByteArray) (v w : PV) (h : op = 97) : Fun Tryz.prog Gl 32 [.agg [.pv (.val (.int .u8 op)), vS a, vS b, vS c, .pv v, .pv w]] [] (vB true) [] := by
  refine fun_of (T := T3) (n := 21) (rs := [.tmp 2]) Tryz.func32 (by kernel_rfl) rfl rfl rfl tok3 mixed (by simp) fun C hC => ?_
  refine hC.vc [] 60 ?_
  simp [h]
theorem f154 (Gl : Granted) (a b : N) : Fun Tryz.prog Gl 200 [a.av, b.av] [] (vB (alike a b)) [] := by
  refine fun_of (T := T3) (n := 18) (rs := [.tmp 4]) Tryz.func200 (by kernel_rfl) rfl rfl rfl tok3 mixed (by simp) fun C hC => ?_
  refine hC.vc [] 60 ?_
  simp [N.av, N.cells]
  refine hC.call [] (f152 Gl a) (by simp [N.av, N.cells]) ?_
  refine hC.vc [] 60 ?_
  cases h1 : a.isText with
  | false => simp [alike, h1]
  | true =>
    simp
    refine hC.call [] (f152 Gl b) (by simp [N.av, N.cells]) ?_
    refine hC.vc [] 60 ?_
    cases h2 : b.isText with
    | false => simp [alike, h1, h2]
    | true =>
      simp
      refine hC.call [] (f70 Gl a.marks b.marks) (by simp) ?_
      refine hC.vc [] 60 ?_
      simp [alike, h1, h2]
def prevAt {α : Type} (l : List α) (i : Nat) : Option α := if i = 0 then none else l[i - 1]?
theorem prevAt_succ {α : Type} {l : List α} {i : Nat} (h : i < l.length) : prevAt l (i + 1) = some l[i] := by
  simp [prevAt, h]
set_option maxRecDepth 20000 in
theorem f153 (Gl : Granted) (l : List ByteArray) (hs : ∀ s ∈ l, s.size ≤ M47) : Fun Tryz.prog Gl 199 [.pv (strs l)] [] (vB (rise l)) [] := by
  refine fun_of (T := T3) (n := 29) (rs := [.tmp 2]) Tryz.func199 (by kernel_rfl) rfl rfl rfl tok3 mixed (by simp) fun C hC => ?_
  refine hC.vc [] 60 ?_
  simp
  refine go_len 0 1 (l.map fun s => [.val (.string s)]) (by simp) fun hk => ?_
  rw [List.length_map] at hk
  refine go_loop (ι := {i : Nat // i ≤ l.length ∧ rise l = riseFrom (prevAt l i) (l.drop i)}) (fun x => ⟨[(0, .pv (strs l)), (5, .pv (strs l)), (6, vI l.length), (7, vI x.1)], []⟩)
    (fun x => l.length - x.1) ⟨0, by simp [rise, prevAt]⟩ [] (by simp) fun x ih => ?_
  obtain ⟨i, hi, hn⟩ := x
  simp only at hi hn ih
  refine hC.vc [] 60 ?_
  by_cases hlt : i < l.length
  · rw [List.drop_eq_getElem_cons hlt] at hn
    simp only [riseFrom] at hn
    have hw := wr64 ((i : Int) + 1) (by omega)
    simp [hlt]
    refine hC.call [] (f58 Gl l[i] (by have := hs l[i] (by simp); simp only [M47] at this; omega)) (by simp) ?_
    refine hC.vc [] 60 ?_
    cases hnm : isName l[i] with
    | false =>
      simp [hn, hnm]
    | true =>
      rw [hnm, Bool.true_and] at hn
      by_cases h0 : 0 < (i : Int)
      · have hw2 := wr64 ((i : Int) - 1) (by omega)
        have hi1 : i - 1 < l.length := by omega
        have h0n : 0 < i := by omega
        have e1 : ((i : Int) - 1) = ((i - 1 : Nat) : Int) := by omega
        have hp : prevAt l i = some l[i - 1] := by
          unfold prevAt
          rw [if_neg (by omega), List.getElem?_eq_getElem hi1]
        rw [hp] at hn
        simp only at hn
        rw [e1] at hw2
        cases hu : notUp l[i] l[i - 1] with
        | true =>
          rw [hu] at hn
          have hu' : (Op.bytesLess l[i].toList l[i - 1].toList || decide (l[i] = l[i - 1])) = true := hu
          simp [h0n, hw2, e1, hi1, hu', hn]
        | false =>
          rw [hu] at hn
          have hu' : (Op.bytesLess l[i].toList l[i - 1].toList || decide (l[i] = l[i - 1])) = false := hu
          simp [h0n, hw2, e1, hi1, hu']
          exact go_to [] (ih ⟨i + 1, hlt, by rw [prevAt_succ hlt, hn]; simp⟩ (by simp; omega)) (by simp [hw])
      · have hi0 : i = 0 := by omega
        subst hi0
        simp only [prevAt, if_true, Bool.true_and] at hn
        simp
        exact go_to [] (ih ⟨1, hlt, by rw [hn]; simp [prevAt, List.getElem?_eq_getElem hlt]⟩ (by simp; omega)) (by simp [wr64 1 (by omega)])
  · rw [List.drop_eq_nil_of_le (by omega)] at hn
    simp [hlt, hn, riseFrom]
end Go.Proofs.D
/-
  strings.Builder.
-/
set_option linter.unusedVariables false
set_option linter.unusedSimpArgs false
namespace Go.Proofs.D
open Go Go.Abs Go.RowKit
attribute [local simp] VC VCS stepVS stepTopS firstId memN bigB unmark markT mkOff calmP keepT boundB stepV stepTop stepReg stepOp stMove stPick stBin stUn stConv stBox stAlloc stLoad stStore stFieldAddr stField stExtract stNilCheck stMakeFunc stIndexAddr stIndex stLen
  stBuild placesOf fillA stBuildSlice sliceCells repL chunks allPV toPV drawOk drawOk.go mayMakeO mayMake1 disjoint pairOk Oper.apart Oper.looksAt Op.operands Call.operands Region.binds stAppend appBase appTail unName stSlice bndA
  LS.ev LS.get LS.blk LS.put LS.app LS.upd lkS lkH setS setH Nm.eqb guardOf nexts okPair dstOk AV.cellsOf takeAt putAt lkT sliceE fieldT intK isStrT isBoolT abin newOk LS.freshB LS.freshB.go LS.freshB.goH notIn AV.ments AV.ments.mentsL Blk.ments makes upsMents LS.start startL exitTo T T3 outs callSideO callSideD upsR backO freshAll argB onlyIO List.map List.append List.nil_append List.cons_append Nat.blt
  conv convS convH srcs srcOf blkOk leA leA.leL Go.Abs.leB leP laid laidM laidG isArg subH retP resAV resL res1 AV.frz AV.frz.frzL evL AV.ren AV.ren.renL Blk.ren renBs blksOf allSome nodupB onlyArgs blksMents callUps keyed inName inName.go backName callSide
theorem lays240 : Go.Proofs.Lays.n240 Tryz.prog Tryz.lays156_ren := { Tryz.lays156 with }
abbrev ptr0 : AV := .ptr (.arg 0) 0
abbrev nilPtr : AV := .pv (.val (.pointer none))
/-- A builder that is handed on: what it says of itself, and its row. -/
abbrev bldB (ad buf : AV) : Blk := .box 91 [ad, buf]
abbrev bytesB (l : List UInt8) : Blk := .row 5 1 (byteRow l)
theorem setCell_rest (w : World) (a : Addr) (v : Value) : (w.setCell a v).os = w.os ∧ (w.setCell a v).tape = w.tape ∧ (w.setCell a v).output = w.output ∧ (w.setCell a v).heap.size = w.heap.size := ⟨rfl, rfl, rfl, by simp [World.setCell]⟩
theorem setCell_at {w : World} {k j : Nat} {v : Value} (h : j ≠ k) : (w.setCell ⟨k, 0, none⟩ v).heap[j]? = w.heap[j]? := by
  simp only [World.setCell, Array.getElem?_modify]
  rw [if_neg (fun e => h e.symm)]
theorem setCell_on {w : World} {k : Nat} {v : Value} {c : Array Value} {e : TypeId} {f : Nat × Nat} (h : w.heap[k]? = some (.cells c e f)) : (w.setCell ⟨k, 0, none⟩ v).heap[k]? = some (.cells (c.setIfInBounds 0 v) e f) := by
  simp [World.setCell, Array.getElem?_modify, h]
theorem f68 (Gl : Granted) (ad : AV) (l : List UInt8) (had : ad = nilPtr ∨ ad = ptr0) : Fun Tryz.prog Gl 71 [ptr0] [some (bldB ad (.own (.arg 1))), some (bytesB l)] (.tup []) [some (bldB ptr0 (.own (.arg 1))), some (bytesB l)] := by
  refine ⟨⟨_, Tryz.func71, by kernel_rfl, rfl⟩, fun w0 F0 hd0 cargs hg hl hlen hr => ?_⟩
  match cargs, hlen with
  | [c0], _ =>
    have h0 := hl.holds (.arg 0)
    simp [keyed, lkH, Nm.eqb] at h0
    obtain ⟨k, arr, p1, p2, p3, p4, p5⟩ := h0
    have hc0 : c0 = .pointer (some ⟨k, 0, none⟩) := by
      have := hr 0 _ c0 rfl rfl
      cases this with
      | ptr _ _ _ _ h => exact h k p1
    subst hc0
    have hlt0 : 0 < arr.size := by rw [p3]; simp
    obtain ⟨z0, ha0⟩ : ∃ z, arr[0]? = some z := ⟨_, Array.getElem?_eq_getElem hlt0⟩
    have hrep0 := p4 0 ad z0 rfl ha0
    have hcell : w0.cell? ⟨k, 0, none⟩ = some z0 := by simp [World.cell?, p2, ha0]
    have hleft0 : Go.Abs.Left w0 F0 hd0 w0 F0 hd0 := ⟨fun r k hk => .inr ⟨r, hk⟩, fun k hk => .inl hk, fun k hk => hk, fun i => .inl rfl, rfl, rfl, rfl, Nat.le_refl _, fun k _ _ => rfl⟩
    rcases had with rfl | rfl
    · have e0 : z0 = .pointer none := bool_of hrep0
      have hkF : ∀ j, F0 j → j ≠ k := fun j hj e => (hl.mine (.arg 0) k (by rw [p1]; exact rfl)).1 (e ▸ hj)
      rw [e0] at hcell
      have hc := Any.Builder_copyCheck_fresh lays240 Tryz.Builder_Extra_156.toX72 k w0 hcell (by simp [World.shape?, p2, p3]; rfl) (by simp [World.frozen?, p2])
      refine hc.mono fun e' w' he => ?_
      obtain ⟨rfl, rfl⟩ := he
      obtain ⟨f1, f2, f3, f4⟩ := setCell_rest w0 ⟨k, 0, none⟩ (.pointer (some ⟨k, 0, none⟩))
      have hF : ∀ j, F0 j → (w0.setCell ⟨k, 0, none⟩ (.pointer (some ⟨k, 0, none⟩))).heap[j]? = w0.heap[j]? := fun j hj => setCell_at (hkF j hj)
      refine ⟨.tuple #[], F0, hd0, rfl, .tup [] [] rfl (fun j c v h => by simp at h), ⟨fun j hj => by rw [f4]; exact hl.fin j hj, hl.sep, fun r j hj => by rw [f4]; exact hl.mine r j hj, fun r => ?_⟩, ⟨fun r j hj => .inr ⟨r, hj⟩, fun j hj => .inl hj, fun j hj => hj, fun i => .inl rfl, f1, f2, f3, by rw [f4]; exact Nat.le_refl _, fun j hj hn => setCell_at fun e => hn ⟨.arg 0, by rw [p1, e]; exact rfl⟩⟩⟩
      by_cases r0 : r = .arg 0
      · subst r0
        simp [keyed, lkH, Nm.eqb]
        refine ⟨k, _, p1, setCell_on p2, by simpa using p3, fun j c v hj hv => ?_, fun v hv => ?_⟩
        · match j, hj with
          | 0, hj =>
            simp at hj
            subst hj
            simp [Array.getElem?_setIfInBounds] at hv
            rw [← hv.2]
            exact .ptr _ _ _ rfl fun k' hk' => by rw [p1] at hk'; cases hk'; rfl
          | 1, hj =>
            simp at hj
            subst hj
            rw [Array.getElem?_setIfInBounds] at hv
            simp at hv
            exact (p4 1 _ v rfl (by simpa using hv)).mono hF (fun _ h => h) fun s hs => .inl rfl
        · simp only [Array.toList_setIfInBounds] at hv
          rcases List.mem_or_eq_of_mem_set hv with h | h
          · exact p5 v h
          · subst h; rfl
      · have h2 := hl.holds r
        have h3 : lkH (keyed 0 [some (bldB nilPtr (.own (.arg 1))), some (bytesB l)]) r = lkH (keyed 0 [some (bldB ptr0 (.own (.arg 1))), some (bytesB l)]) r := by
          have e0 : (Nm.arg 0).eqb r = false := by
            cases hh : (Nm.arg 0).eqb r with
            | false => rfl
            | true => exact absurd ((Nm.eqb_iff _ _).1 hh).symm r0
          simp only [keyed, lkH, e0, Bool.false_eq_true, if_false]
        rw [h3] at h2
        exact h2.mono hF (fun _ h => h) rfl (fun j hj => setCell_at fun e => hl.sep r (.arg 0) k r0 (e ▸ hj) (by rw [p1]; exact rfl)) fun c hc s hs => .inl rfl
    · have e0 : z0 = .pointer (some ⟨k, 0, none⟩) := by
        cases hrep0 with
        | ptr _ _ _ _ h => exact h k p1
      rw [e0] at hcell
      refine (Any.Builder_copyCheck_used lays240 Tryz.Builder_Extra_156.toX72 k w0 hcell).mono fun e' w' he => ?_
      obtain ⟨rfl, rfl⟩ := he
      exact ⟨.tuple #[], F0, hd0, rfl, .tup [] [] rfl (fun j c v h => by simp at h), hl, hleft0⟩
theorem info5 : ∃ iF, Tryz.prog.info? 5 = some iF ∧ iF.size = 1 ∧ iF.bytes = 1 ∧ iF.zero = some (.int .u8 0) := by
  have h : (Tryz.prog.info? 5).map (fun i => (i.size, i.bytes, i.zero)) = some (1, 1, some (.int .u8 0)) := by kernel_rfl
  cases hi : Tryz.prog.info? 5 with
  | none => rw [hi] at h; cases h
  | some i =>
    rw [hi] at h
    simp only [Option.map_some, Option.some.injEq, Prod.mk.injEq] at h
    exact ⟨i, rfl, h.1, h.2.1, h.2.2⟩
abbrev nilErr : AV := .pv (.val .nilIface)
set_option maxRecDepth 20000 in
theorem f38 (Gl : Granted) (ad : AV) (l : List UInt8) (s : ByteArray) (had : ad = nilPtr ∨ ad = ptr0) (hlen : l.length + s.size ≤ 140737488355328) :
    FunO Tryz.prog Gl 35 [ptr0, vS s] [some (bldB ad (.own (.arg 1))), some (bytesB l)] (.tup [vI s.size, nilErr]) [some (bldB ptr0 (.own (.out 0))), none] [bytesB (l ++ s.data.toList)] := by
  refine funO_of (T := T3) (n := 19) (rs := [.tmp 4, .tmp 5]) Tryz.func35 (by kernel_rfl) rfl rfl rfl tok3 mixed (by simp) fun C hC => ?_
  refine hC.vc [] 60 ?_
  simp
  refine hC.call [.arg 0, .arg 1] (f68 Gl ad l had) (by rcases had with rfl | rfl <;> simp) ?_
  refine hC.vc [] 60 ?_
  simp
  refine hC.appStr (r := .arg 1) (l := l) (s := s) (e := 5) info5 rfl rfl rfl rfl rfl (by simp) (by simp) hlen ?_
  refine hC.vc [] 11 ?_
  simp
  refine go_to (M := ⟨[(4, vI s.size), (5, nilErr)], [(.arg 0, some (bldB ptr0 (.own (.out 0)))), (.out 0, some (bytesB (l ++ s.data.toList)))]⟩) [(.out 0, .nm (.loc 14))] (hC.vc [] 5 (by simp)) (by simp)
theorem f40 (Gl : Granted) (ad : AV) (l : List UInt8) (had : ad = nilPtr ∨ ad = ptr0) : Fun Tryz.prog Gl 37 [ptr0] [some (bldB ad (.own (.arg 1))), some (bytesB l)] (vS ⟨l.toArray⟩) [none, none] := by
  refine fun_of (T := T3) (n := 14) (rs := [.tmp 2]) Tryz.func37 (by kernel_rfl) rfl rfl rfl tok3 mixed (by simp) fun C hC => ?_
  by_cases hl : l = []
  · subst hl
    refine hC.vc [] 11 ?_
    simp
    refine hC.sliceData0 (r := .arg 1) (e := 5) (e' := 5) Tryz.underlying140 rfl rfl rfl (by simp) ?_
    refine hC.vc [] 60 ?_
    simp
    refine hC.unsafeStr0 rfl rfl rfl rfl (by simp) ?_
    refine hC.vc [] 2 ?_
    simp
    exact go_to (M := ⟨[(2, vS ⟨#[]⟩)], []⟩) [] (hC.vc [] 5 (by simp)) (by simp)
  · refine hC.vc [] 11 ?_
    simp
    refine hC.sliceData (r := .arg 1) (e := 5) (l := l) hl rfl rfl rfl (by simp) ?_
    refine hC.vc [] 60 ?_
    simp
    refine hC.unsafeStr (r := .arg 1) (e := 5) (l := l) hl Tryz.underlying140 (by kernel_rfl) rfl rfl rfl rfl (by simp) ?_
    refine hC.vc [] 2 ?_
    simp
    exact go_to (M := ⟨[(2, vS ⟨l.toArray⟩)], []⟩) [] (hC.vc [] 5 (by simp)) (by simp)
end Go.Proofs.D
/-
  THE READER OF NODES: signs, names, texts.
-/
set_option linter.unusedVariables false
set_option linter.unusedSimpArgs false
namespace Go.Proofs.D
open Go Go.Abs Go.RowKit
attribute [local simp] VC VCS stepVS stepTopS firstId memN bigB unmark markT mkOff calmP keepT boundB stepV stepTop stepReg stepOp stMove stPick stBin stUn stConv stBox stAlloc stLoad stStore stFieldAddr stField stExtract stNilCheck stMakeFunc stIndexAddr stIndex stLen
  stBuild placesOf fillA stBuildSlice sliceCells repL chunks allPV toPV drawOk drawOk.go mayMakeO mayMake1 disjoint pairOk Oper.apart Oper.looksAt Op.operands Call.operands Region.binds stAppend appBase appTail unName stSlice bndA
  LS.ev LS.get LS.blk LS.put LS.app LS.upd lkS lkH setS setH Nm.eqb guardOf nexts okPair dstOk AV.cellsOf takeAt putAt lkT sliceE fieldT intK isStrT isBoolT abin newOk LS.freshB LS.freshB.go LS.freshB.goH notIn AV.ments AV.ments.mentsL Blk.ments makes upsMents LS.start startL exitTo T T3 outs callSideO callSideD upsR backO freshAll argB onlyIO List.map List.append List.nil_append List.cons_append Nat.blt
  conv convS convH srcs srcOf blkOk leA leA.leL Go.Abs.leB leP laid laidM laidG isArg subH retP resAV resL res1 AV.frz AV.frz.frzL evL AV.ren AV.ren.renL Blk.ren renBs blksOf allSome nodupB onlyArgs blksMents callUps keyed inName inName.go backName callSide
abbrev sgn (c : UInt8) : ByteArray := ⟨#[c]⟩
theorem hasPre_byte (c : UInt8) (l : Bs) : hasPre (bytesOf l) (sgn c) = (takesB c l).1 := by
  have h1 : (sgn c).size = 1 := rfl
  cases l with
  | nil => rfl
  | cons x l =>
    have he : (bytesOf (x :: l)).extract 0 1 = sgn x := bsExt (by simp [bytesOf, ByteArray.data_extract, sgn])
    unfold hasPre
    rw [h1, he, bytesOf_size]
    simp only [takesB]
    by_cases hx : x = c
    · subst hx; simp
    · have : ¬ sgn x = sgn c := fun e => hx (by have := congrArg (fun s : ByteArray => s.data.toList) e; simpa [sgn] using this)
      simp [this, hx]
theorem cutPre_byte (c : UInt8) (l : Bs) : cutPre (bytesOf l) (sgn c) = bytesOf (takesB c l).2 := by
  unfold cutPre
  rw [hasPre_byte]
  cases l with
  | nil => rfl
  | cons x l =>
    simp only [takesB]
    by_cases hx : x = c
    · subst hx
      simp only [if_true]
      exact bsExt (by
        have h1 : (sgn x).size = 1 := rfl
        simp [bytesOf, ByteArray.data_extract, h1, bytesOf_size, ByteArray.size])
    · simp [hx]
/-- The reader. -/
abbrev rdN (l : Bs) (b : Bool) : Blk := .box 210 [vS (bytesOf l), vB b]
abbrev vT (l : Bs) : AV := vS (bytesOf l)
theorem f143 (Gl : Granted) (c : UInt8) (l : Bs) (b : Bool) : Fun Tryz.prog Gl 180 [.ptr (.arg 0) 0, vS (sgn c)] [some (rdN l b)] (vB (takesB c l).1) [some (rdN (takesB c l).2 b)] := by
  refine fun_of (T := T3) (n := 21) (rs := [.tmp 4]) Tryz.func180 (by kernel_rfl) rfl rfl rfl tok3 mixed (by simp) fun C hC => ?_
  refine hC.vc [] 60 ?_
  simp
  refine hC.call [] (f50 Gl (bytesOf l) (sgn c)) (by simp) ?_
  rw [hasPre_byte, cutPre_byte]
  refine hC.vc [] 60 ?_
  simp
theorem f144 (Gl : Granted) (c : UInt8) (l : Bs) (b : Bool) : Fun Tryz.prog Gl 181 [.ptr (.arg 0) 0, vS (sgn c)] [some (rdN l b)] (.tup []) [some (rdN (wantB c (l, b)).1 (wantB c (l, b)).2)] := by
  refine fun_of (T := T3) (n := 17) (rs := []) Tryz.func181 (by kernel_rfl) rfl rfl rfl tok3 mixed (by simp) fun C hC => ?_
  refine hC.vc [] 60 ?_
  simp
  refine hC.call [.arg 0] (f143 Gl c l b) (by simp) ?_
  refine hC.vc [] 60 ?_
  cases ht : (takesB c l).1 <;> simp [wantB, ht]
theorem trimLeft_low (l : Bs) : (⟨(Lib.trimLeftS (bytesOf l).data.toList low.data.toList).toArray⟩ : ByteArray) = bytesOf (nameB l).2 := by
  have : (bytesOf l).data.toList = l := by simp [bytesOf]
  rw [this]
  unfold Lib.trimLeftS nameB bytesOf
  congr 2
  congr 1
  funext b
  rw [low_contains]
  rfl
theorem f142 (Gl : Granted) (l : Bs) (b : Bool) (hl : l.length ≤ 9000000) : Fun Tryz.prog Gl 179 [.ptr (.arg 0) 0] [some (rdN l b)] (vT (nameB l).1) [some (rdN (nameB l).2 b)] := by
  refine fun_of (T := T3) (n := 28) (rs := [.tmp 2]) Tryz.func179 (by kernel_rfl) rfl rfl rfl tok3 mixed (by simp) fun C hC => ?_
  refine hC.vc [] 60 ?_
  simp
  refine hC.call [] (f99 Gl (bytesOf l)) (by simp [low]) ?_
  rw [trimLeft_low]
  have hle := name_le l
  have hw := wr64 ((l.length : Int) - (nameB l).2.length) (by omega)
  have hi : ((l.length : Int) - (nameB l).2.length).toNat = l.length - (nameB l).2.length := by omega
  have hex : (bytesOf l).extract 0 (l.length - (nameB l).2.length) = bytesOf (nameB l).1 := bsExt (by
    have h1 : l.length - (nameB l).2.length = (nameB l).1.length := by omega
    have h2 : (nameB l).1 ++ (nameB l).2 = l := List.takeWhile_append_dropWhile
    have h3 : l.take (nameB l).1.length = (nameB l).1 := by
      have := List.take_left (l₁ := (nameB l).1) (l₂ := (nameB l).2)
      rw [h2] at this
      exact this
    rw [h1]
    simp [bytesOf, ByteArray.data_extract, h3])
  refine hC.vc [] 60 ?_
  simp [bytesOf_size, hw, hi, hex]
  omega
end Go.Proofs.D
/-
  THE LAW'S OWN FUNCTIONS: how heavy a node, a complement is.
-/
set_option linter.unusedVariables false
set_option linter.unusedSimpArgs false
namespace Go.Proofs.D
open Go Go.Abs Go.RowKit
attribute [local simp] VC VCS stepVS stepTopS firstId memN bigB unmark markT mkOff calmP keepT boundB stepV stepTop stepReg stepOp stMove stPick stBin stUn stConv stBox stAlloc stLoad stStore stFieldAddr stField stExtract stNilCheck stMakeFunc stIndexAddr stIndex stLen
  stBuild placesOf fillA stBuildSlice sliceCells repL chunks allPV toPV drawOk drawOk.go mayMakeO mayMake1 disjoint pairOk Oper.apart Oper.looksAt Op.operands Call.operands Region.binds stAppend appBase appTail unName stSlice bndA
  LS.ev LS.get LS.blk LS.put LS.app LS.upd lkS lkH setS setH Nm.eqb guardOf nexts okPair dstOk AV.cellsOf takeAt putAt lkT sliceE fieldT intK isStrT isBoolT abin newOk LS.freshB LS.freshB.go LS.freshB.goH notIn AV.ments AV.ments.mentsL Blk.ments makes upsMents LS.start startL exitTo T T3 outs callSideO callSideD upsR backO freshAll argB onlyIO List.map List.append List.nil_append List.cons_append Nat.blt
  conv convS convH srcs srcOf blkOk leA leA.leL Go.Abs.leB leP laid laidM laidG isArg subH retP resAV resL res1 AV.frz AV.frz.frzL evL AV.ren AV.ren.renL Blk.ren renBs blksOf allSome nodupB onlyArgs blksMents callUps keyed inName inName.go backName callSide
/-- What is left of left behind a weight. -/
def lessB (left : Int) (w : Nat) : Int := if left - w < 1 then -1 else left - w
theorem names1_drop {l : List ByteArray} {i : Nat} (h : i < l.length) : names1 (l.drop i) = 1 + l[i].size + names1 (l.drop (i + 1)) := by
  rw [List.drop_eq_getElem_cons h]; simp [names1]
theorem attrs1_drop {l : List (ByteArray × ByteArray)} {i : Nat} (h : i < l.length) : attrs1 (l.drop i) = 1 + l[i].1.size + l[i].2.size + attrs1 (l.drop (i + 1)) := by
  rw [List.drop_eq_getElem_cons h]; simp [attrs1]
theorem wtgo_drop {l : List N} {i : Nat} (h : i < l.length) : N.wt.go (l.drop i) = l[i].wt + N.wt.go (l.drop (i + 1)) := by
  rw [List.drop_eq_getElem_cons h]; simp [N.wt.go]
set_option maxRecDepth 20000 in
set_option maxHeartbeats 2000000 in
theorem f36 (Gl : Granted) (n : N) (left : Int) (hs : n.small) (h1 : -1000000000000000 ≤ left) (h2 : left ≤ 1000000) : Fun Tryz.prog Gl 33 [n.av, vI left] [] (vI (lessB left n.wt)) [] := by
  obtain ⟨s1, s2, s3, s4, s5⟩ := (N.small_eq n).1 hs
  have hrec : ∀ x ∈ n.kids, ∀ l : Int, -1000000000000000 ≤ l → l ≤ 1000000 → Fun Tryz.prog Gl 33 [x.av, vI l] [] (vI (lessB l x.wt)) [] := fun x hx l a b => f36 Gl x l (s5 x hx) a b
  have hwt := N.wt_eq n
  have e47 : M47 = 140737488355328 := rfl
  rw [e47] at s1 s2 s3 s4
  have w1 := wr64 (left - 1) (by omega)
  have w2 := wr64 (left - 1 - n.kind.size) (by omega)
  have w3 := wr64 (left - 1 - n.kind.size - n.text.size) (by omega)
  refine fun_of (T := T3) (n := 88) (rs := [.tmp 4]) Tryz.func33 (by kernel_rfl) rfl rfl rfl tok3 mixed (by simp) fun C hC => ?_
  refine hC.vc [] 60 ?_
  simp [N.av, N.cells, w1, w2, w3]
  refine go_loop (ι := {x : Nat × Int // x.1 ≤ n.marks.length ∧ -1000000000000000 ≤ x.2 + 600000000000000 ∧ x.2 ≤ 1000000 ∧ (x.2 - names1 (n.marks.drop x.1) - attrs1 n.attrs - N.wt.go n.kids = left - n.wt)}) (fun x => ⟨[(1, vI x.1.2), (2, .ptr (.loc 2) 0), (5, vI x.1.1)], [(.loc 2, some (.box 87 n.cells))]⟩)
    (fun x => n.marks.length - x.1.1) ⟨(0, left - 1 - n.kind.size - n.text.size), by simp; omega⟩ [] (by simp [N.cells]) fun x ih => ?_
  obtain ⟨⟨i, l⟩, hi, hb1, hb2, hD⟩ := x
  simp only at hi hb1 hb2 hD ih
  refine go_lenB (.loc 2) 87 n.cells 2 1 (n.marks.map fun s => [.val (.string s)]) (by simp [N.cells]) (by simp [N.cells]) fun hl1 => ?_
  rw [List.length_map] at hl1
  refine go_lenB (.loc 2) 87 n.cells 3 2 (n.attrs.map fun p => [.val (.string p.1), .val (.string p.2)]) (by simp [N.cells]) (by simp [N.cells]) fun hl2 => ?_
  rw [List.length_map] at hl2
  refine go_lenB (.loc 2) 87 n.cells 4 5 (n.kids.map N.pv) (by simp [N.cells]) (by simp [N.cells]) fun hl3 => ?_
  rw [List.length_map] at hl3
  by_cases hgo : i < n.marks.length ∧ 0 < l
  · obtain ⟨hlt, hp⟩ := hgo
    have hwi := wr64 ((i : Int) + 1) (by omega)
    have hsz := s3 n.marks[i] (by simp)
    have v1 := wr64 (l - 1) (by omega)
    have v2 := wr64 (l - 1 - n.marks[i].size) (by omega)
    have hd := names1_drop hlt
    refine hC.vc [] 60 ?_
    simp [N.cells, hlt, hp, v1, v2]
    exact go_to [] (ih ⟨(i + 1, l - 1 - n.marks[i].size), by dsimp only; omega, by dsimp only; omega, by dsimp only; omega, by dsimp only; omega⟩ (by simp; omega)) (by simp [hwi, N.cells])
  · -- the attributes
    have hD2 : l - attrs1 n.attrs - N.wt.go n.kids = left - n.wt ∨ (l ≤ 0 ∧ left - n.wt < 1) := by
      by_cases hlt : i < n.marks.length
      · right; constructor <;> omega
      · left
        rw [List.drop_eq_nil_of_le (by omega)] at hD
        simp only [names1, List.map_nil, List.sum_nil] at hD
        omega
    refine hC.vc [] 60 ?_
    by_cases hlt : i < n.marks.length
    all_goals
      have hp' : i < n.marks.length → ¬ 0 < l := fun h h' => hgo ⟨h, h'⟩
      first
        | (have hp0 := hp' hlt
           simp [N.cells, hlt, hp0])
        | simp [N.cells, hlt]
      refine go_loop (ι := {x : Nat × Int // x.1 ≤ n.attrs.length ∧ -1000000000000000 ≤ x.2 + 600000000000000 ∧ x.2 ≤ 1000000 ∧ (x.2 - attrs1 (n.attrs.drop x.1) - N.wt.go n.kids = left - n.wt ∨ (x.2 ≤ 0 ∧ left - n.wt < 1))}) (fun x => ⟨[(1, vI x.1.2), (2, .ptr (.loc 2) 0), (6, vI x.1.1)], [(.loc 2, some (.box 87 n.cells))]⟩)
        (fun x => n.attrs.length - x.1.1) ⟨(0, l), by simpa using ⟨hb1, hb2, hD2⟩⟩ [] (by simp [N.cells]) fun x ih2 => ?_
      obtain ⟨⟨j, m⟩, hj, hc1, hc2, hE⟩ := x
      simp only at hj hc1 hc2 hE ih2
      by_cases hgo2 : j < n.attrs.length ∧ 0 < m
      · obtain ⟨hlj, hpm⟩ := hgo2
        have hwi := wr64 ((j : Int) + 1) (by omega)
        obtain ⟨hsz1, hsz2⟩ := s4 n.attrs[j] (by simp)
        have v1 := wr64 (m - 1) (by omega)
        have v2 := wr64 (m - 1 - n.attrs[j].1.size) (by omega)
        have v3 := wr64 (m - 1 - n.attrs[j].1.size - n.attrs[j].2.size) (by omega)
        have hd := attrs1_drop hlj
        refine hC.vc [] 60 ?_
        simp [N.cells, hlj, hpm, v1, v2, v3]
        exact go_to [] (ih2 ⟨(j + 1, m - 1 - n.attrs[j].1.size - n.attrs[j].2.size), by dsimp only; omega, by dsimp only; omega, by dsimp only; omega, by dsimp only; omega⟩ (by simp; omega)) (by simp [hwi, N.cells])
      · -- the kids
        have hE2 : m - N.wt.go n.kids = left - n.wt ∨ (m ≤ 0 ∧ left - n.wt < 1) := by
          rcases hE with hE | hE
          · by_cases hlj : j < n.attrs.length
            · right; constructor <;> omega
            · left
              rw [List.drop_eq_nil_of_le (by omega)] at hE
              simp only [attrs1, List.map_nil, List.sum_nil] at hE
              omega
          · exact .inr hE
        refine hC.vc [] 60 ?_
        by_cases hlj : j < n.attrs.length
        all_goals
          have hq' : j < n.attrs.length → ¬ 0 < m := fun h h' => hgo2 ⟨h, h'⟩
          first
            | (have hq0 := hq' hlj
               simp [N.cells, hlj, hq0])
            | simp [N.cells, hlj]
          refine go_loop (ι := {x : Nat × Int // x.1 ≤ n.kids.length ∧ -1000000000000000 ≤ x.2 + 600000000000000 ∧ x.2 ≤ 1000000 ∧ (x.2 - N.wt.go (n.kids.drop x.1) = left - n.wt ∨ (x.2 ≤ 0 ∧ left - n.wt < 1))}) (fun x => ⟨[(1, vI x.1.2), (2, .ptr (.loc 2) 0), (7, vI x.1.1)], [(.loc 2, some (.box 87 n.cells))]⟩)
            (fun x => n.kids.length - x.1.1) ⟨(0, m), by simpa using ⟨hc1, hc2, hE2⟩⟩ [] (by simp [N.cells]) fun x ih3 => ?_
          obtain ⟨⟨k, q⟩, hk, hd1, hd2, hG⟩ := x
          simp only at hk hd1 hd2 hG ih3
          by_cases hgo3 : k < n.kids.length ∧ 0 < q
          · obtain ⟨hlk, hpq⟩ := hgo3
            have hwi := wr64 ((k : Int) + 1) (by omega)
            have hd := wtgo_drop hlk
            have hkp := wt_pos n.kids[k]
            refine hC.vc [] 60 ?_
            simp [N.cells, hlk, hpq, N.pv_eq]
            refine hC.call [] (hrec n.kids[k] (by simp) q (by omega) hd2) (by simp [N.av, N.cells]) ?_
            obtain ⟨r, hr⟩ : ∃ r, lessB q n.kids[k].wt = r := ⟨_, rfl⟩
            rw [hr]
            have hr' := hr
            unfold lessB at hr'
            refine hC.vc [] 60 ?_
            simp
            refine go_to [] (ih3 ⟨(k + 1, r), by dsimp only; omega, ?_⟩ (by simp; omega)) (by simp [hwi, N.cells])
            dsimp only
            split at hr' <;> omega
          · have hfin : (q < 1 → lessB left n.wt = -1) ∧ (¬ q < 1 → lessB left n.wt = q) := by
              unfold lessB
              by_cases hlk : k < n.kids.length
              · have hq : ¬ 0 < q := fun h => hgo3 ⟨hlk, h⟩
                constructor
                · intro _
                  rw [if_pos (by omega)]
                · intro h; omega
              · rw [List.drop_eq_nil_of_le (by omega)] at hG
                simp only [N.wt.go] at hG
                constructor
                · intro h; rw [if_pos (by omega)]
                · intro h; rw [if_neg (by omega)]; omega
            refine hC.vc [] 60 ?_
            by_cases hlk : k < n.kids.length
            · have hq : ¬ 0 < q := fun h => hgo3 ⟨hlk, h⟩
              have hq1 : q < 1 := by omega
              simp [N.cells, hlk, hq, hq1, hfin.1 hq1]
            · by_cases hq1 : q < 1
              · simp [N.cells, hlk, hq1, hfin.1 hq1]
              · simp [N.cells, hlk, hq1, hfin.2 hq1]
termination_by SizeOf.sizeOf n
decreasing_by exact N.kids_lt hx
end Go.Proofs.D
/-
  THE READER OF NODES: quoted texts.
-/
set_option linter.unusedVariables false
set_option linter.unusedSimpArgs false
namespace Go.Proofs.D
open Go Go.Abs Go.RowKit
attribute [local simp] VC VCS stepVS stepTopS firstId memN bigB unmark markT mkOff calmP keepT boundB stepV stepTop stepReg stepOp stMove stPick stBin stUn stConv stBox stAlloc stLoad stStore stFieldAddr stField stExtract stNilCheck stMakeFunc stIndexAddr stIndex stLen
  stBuild placesOf fillA stBuildSlice sliceCells repL chunks allPV toPV drawOk drawOk.go mayMakeO mayMake1 disjoint pairOk Oper.apart Oper.looksAt Op.operands Call.operands Region.binds stAppend appBase appTail unName stSlice bndA
  LS.ev LS.get LS.blk LS.put LS.app LS.upd lkS lkH setS setH Nm.eqb guardOf nexts okPair dstOk AV.cellsOf takeAt putAt lkT sliceE fieldT intK isStrT isBoolT abin newOk LS.freshB LS.freshB.go LS.freshB.goH notIn AV.ments AV.ments.mentsL Blk.ments makes upsMents LS.start startL exitTo T T3 outs callSideO callSideD upsR backO freshAll argB onlyIO List.map List.append List.nil_append List.cons_append Nat.blt
  conv convS convH srcs srcOf blkOk leA leA.leL Go.Abs.leB leP laid laidM laidG isArg subH retP resAV resL res1 AV.frz AV.frz.frzL evL AV.ren AV.ren.renL Blk.ren renBs blksOf allSome nodupB onlyArgs blksMents callUps keyed inName inName.go backName callSide
theorem byteAt_of {l : Bs} {i : Nat} (h : i < l.length) : byteAt (bytesOf l) (i : Int) = ((l[i]).toNat : Int) := by
  rw [byteAt_eq]
  simp [bytesOf, h]
theorem u8_lit {c : UInt8} {z : Int} (hz : z = (c.toNat : Int)) (d : UInt8) : z = (d.toNat : Int) ↔ c = d := by
  subst hz
  constructor
  · intro h; exact UInt8.toNat_inj.1 (by omega)
  · intro h; rw [h]
theorem extract_drop (l : Bs) (i : Nat) : (bytesOf l).extract i l.length = bytesOf (l.drop i) := bsExt (by
  simp [bytesOf, ByteArray.data_extract]
  exact List.take_of_length_le (by simp))
set_option maxRecDepth 20000 in
set_option maxHeartbeats 2000000 in
theorem f145 (Gl : Granted) (l : Bs) (b : Bool) (hl : l.length ≤ 9000000) : Fun Tryz.prog Gl 182 [.ptr (.arg 0) 0] [some (rdN l b)] (vT (quotedB (l, b)).1) [some (rdN (quotedB (l, b)).2.1 (quotedB (l, b)).2.2)] := by
  have hle := (want_le 34 (l, b)).1
  have hq : quotedB (l, b) = if (wantB 34 (l, b)).2 = true then ([], ((wantB 34 (l, b)).1, true)) else match quotedGo (wantB 34 (l, b)).1 [] with
    | some (s, r) => (s, (r, false))
    | none => ([], ((wantB 34 (l, b)).1, true)) := rfl
  refine fun_of (T := T3) (n := 69) (rs := [.tmp 2]) Tryz.func182 (by kernel_rfl) rfl rfl rfl tok3 mixed (by simp) fun C hC => ?_
  refine hC.vc [] 60 ?_
  simp
  refine hC.call [.arg 0] (f144 Gl 34 l b) (by simp) ?_
  generalize wantB 34 (l, b) = st at hle hq ⊢
  obtain ⟨m, bd⟩ := st
  simp only at hle hq ⊢
  cases bd with
  | true =>
    simp only [if_true] at hq
    rw [hq] at hC
    refine hC.vc [] 60 ?_
    simp
    refine go_loop (ι := Unit) (fun _ => ⟨[(0, .ptr (.arg 0) 0), (4, vI 0)], [(.arg 0, some (rdN m true))]⟩) (fun _ => 0) () [] (by simp) fun _ _ => ?_
    refine hC.vc [] 60 ?_
    by_cases h0 : 0 < m.length
    · simp [bytesOf_size, h0]; rfl
    · simp [bytesOf_size, h0]; rfl
  | false =>
    simp only [Bool.false_eq_true, if_false] at hq
    refine hC.vc [] 110 ?_
    simp
    refine go_loop (ι := {x : Nat × Bs // x.1 ≤ m.length + 1 ∧ x.2.length ≤ x.1 ∧ quotedGo m [] = quotedGo (m.drop x.1) x.2}) (fun x => ⟨[(0, .ptr (.arg 0) 0), (3, .own (.can 0)), (4, vI x.1.1)], [(.arg 0, some (rdN m false)), (.can 0, some (.row 5 1 (byteRow x.1.2)))]⟩)
      (fun x => m.length + 2 - x.1.1) ⟨(0, []), by simp⟩ [(.can 0, .nil)] (by simp) fun x ih => ?_
    obtain ⟨⟨i, s⟩, hi, hsl, hn⟩ := x
    simp only at hi hsl hn ih
    by_cases hlt : i < m.length
    · have hz0 := byteAt_of hlt
      have hd : m.drop i = m[i] :: m.drop (i + 1) := List.drop_eq_getElem_cons hlt
      generalize m[i] = c at hz0 hd
      obtain ⟨z, hz⟩ : ∃ z, byteAt (bytesOf m) (i : Int) = z := ⟨_, rfl⟩
      rw [hz] at hz0
      have hw1 := wr64 ((i : Int) + 1) (by omega)
      have l34 := u8_lit hz0 34
      have l92 := u8_lit hz0 92
      change z = 34 ↔ c = 34 at l34
      change z = 92 ↔ c = 92 at l92
      by_cases h34 : z = 34
      · have hc := l34.1 h34
        have hr : quotedGo m [] = some (s, m.drop (i + 1)) := by
          rw [hn, hd, hc]
          cases m.drop (i + 1) with
          | nil => simp [quotedGo]
          | cons d t => simp [quotedGo]
        rw [hr] at hq
        simp only at hq
        rw [hq] at hC
        have e1 : ((i : Int) + 1).toNat = i + 1 := by omega
        have hex := extract_drop m (i + 1)
        refine hC.vc [] 110 ?_
        simp [bytesOf_size, hlt, hz, h34, hw1, e1, hex]
        refine ⟨by omega, ?_⟩
        refine hC.rowStr (e := 5) (r := .can 0) (l := s) rfl (by simp) (by simp) ?_
        refine hC.vc [] 110 ?_
        simp
        rfl
      · have hc : ¬ c = 34 := fun e => h34 (l34.2 e)
        by_cases h92 : z = 92
        · have hc2 := l92.1 h92
          have hw2 := wr64 ((i : Int) + 1 + 1) (by omega)
          by_cases hlt2 : i + 1 < m.length
          · have hy0 := byteAt_of hlt2
            have hd2 : m.drop (i + 1) = m[i + 1] :: m.drop (i + 2) := List.drop_eq_getElem_cons hlt2
            generalize m[i + 1] = d at hy0 hd2
            obtain ⟨y, hy⟩ : ∃ y, byteAt (bytesOf m) ((i : Int) + 1) = y := ⟨_, rfl⟩
            have hy0' : y = (d.toNat : Int) := by rw [← hy]; exact hy0
            have hr : quotedGo m [] = quotedGo (m.drop (i + 2)) (s ++ [d]) := by
              rw [hn, hd, hd2, quotedGo, if_neg hc, if_pos hc2]
            have hI : (i : Int) + 1 < m.length := by omega
            have hI0 : (0 : Int) ≤ (i : Int) + 1 := by omega
            refine hC.vc [] 110 ?_
            simp [bytesOf_size, hlt, hz, h92, hw1, hI, hI0, hy]
            refine ⟨by omega, ?_⟩
            exact go_to [(.can 0, .nm (.loc 65))] (ih ⟨(i + 2, s ++ [d]), by dsimp only; omega, by simp; omega, hr⟩ (by simp; omega)) (by simp [hw2, hy0']; omega)
          · have hr : quotedGo m [] = quotedGo (m.drop (i + 2)) s := by
              rw [hn, hd, List.drop_eq_nil_of_le (i := i + 1) (by omega), List.drop_eq_nil_of_le (i := i + 2) (by omega)]
              simp [quotedGo, hc]
            have hI : ¬ (i : Int) + 1 < m.length := by omega
            refine hC.vc [] 110 ?_
            simp [bytesOf_size, hlt, hz, h92, hw1, hI]
            exact go_to [] (ih ⟨(i + 2, s), by dsimp only; omega, by dsimp only; omega, hr⟩ (by simp; omega)) (by simp [hw2]; omega)
        · have hc2 : ¬ c = 92 := fun e => h92 (l92.2 e)
          have hr : quotedGo m [] = quotedGo (m.drop (i + 1)) (s ++ [c]) := by
            rw [hn, hd]
            cases hdd : m.drop (i + 1) with
            | nil => simp [quotedGo, hc]
            | cons d t => rw [quotedGo, if_neg hc, if_neg hc2]
          refine hC.vc [] 110 ?_
          simp [bytesOf_size, hlt, hz, h34, h92]
          refine ⟨by omega, ?_⟩
          exact go_to [(.can 0, .nm (.loc 65))] (ih ⟨(i + 1, s ++ [c]), by dsimp only; omega, by simp; omega, hr⟩ (by simp; omega)) (by simp [hw1, hz0])
    · have hr : quotedGo m [] = none := by rw [hn, List.drop_eq_nil_of_le (by omega)]; rfl
      rw [hr] at hq
      simp only at hq
      rw [hq] at hC
      refine hC.vc [] 110 ?_
      simp [bytesOf_size, hlt]
      rfl
end Go.Proofs.D
/-
  THE READER OF NODES: texts with marks.
-/
set_option linter.unusedVariables false
set_option linter.unusedSimpArgs false
namespace Go.Proofs.D
open Go Go.Abs Go.RowKit
attribute [local simp] VC VCS stepVS stepTopS firstId memN bigB unmark markT mkOff calmP keepT boundB stepV stepTop stepReg stepOp stMove stPick stBin stUn stConv stBox stAlloc stLoad stStore stFieldAddr stField stExtract stNilCheck stMakeFunc stIndexAddr stIndex stLen
  stBuild placesOf fillA stBuildSlice sliceCells repL chunks allPV toPV drawOk drawOk.go mayMakeO mayMake1 disjoint pairOk Oper.apart Oper.looksAt Op.operands Call.operands Region.binds stAppend appBase appTail unName stSlice bndA
  LS.ev LS.get LS.blk LS.put LS.app LS.upd lkS lkH setS setH Nm.eqb guardOf nexts okPair dstOk AV.cellsOf takeAt putAt lkT sliceE fieldT intK isStrT isBoolT abin newOk LS.freshB LS.freshB.go LS.freshB.goH notIn AV.ments AV.ments.mentsL Blk.ments makes upsMents LS.start startL exitTo T T3 outs callSideO callSideD upsR backO freshAll argB onlyIO List.map List.append List.nil_append List.cons_append Nat.blt
  conv convS convH srcs srcOf blkOk leA leA.leL Go.Abs.leB leP laid laidM laidG isArg subH retP resAV resL res1 AV.frz AV.frz.frzL evL AV.ren AV.ren.renL Blk.ren renBs blksOf allSome nodupB onlyArgs blksMents callUps keyed inName inName.go backName callSide
theorem f78 (Gl : Granted) (s p : ByteArray) : Fun Tryz.prog Gl 82 [vS s, vS p] [] (vB (hasPre s p)) [] := by
  refine fun_of (T := T3) (n := 8) (rs := [.tmp 4]) Tryz.func82 (by kernel_rfl) rfl rfl rfl tok3 mixed (by simp) fun C hC => ?_
  refine hC.vc [] 60 ?_
  simp
  refine hC.call [] (f96 Gl s p) (by simp) ?_
  refine hC.vc [] 60 ?_
  simp
theorem takes_false (c : UInt8) (l : Bs) : (takesB c l).1 = false → (takesB c l).2 = l := by
  cases l with
  | nil => intro _; rfl
  | cons x l =>
    simp only [takesB]
    split <;> simp
abbrev nmRow (ms : List Bs) : List (List PV) := ms.map fun s => [PV.val (.string (bytesOf s))]
set_option maxRecDepth 20000 in
set_option maxHeartbeats 2000000 in
theorem f141 (Gl : Granted) (l : Bs) (b : Bool) (hl : l.length ≤ 9000000) : Fun Tryz.prog Gl 178 [.ptr (.arg 0) 0] [some (rdN l b)] (textB (l, b)).1.av [some (rdN (textB (l, b)).2.1 (textB (l, b)).2.2)] := by
  have hql := (quoted_le (l, b)).1
  have htb : textB (l, b) = if (takesB 60 (quotedB (l, b)).2.1).1 = true then
    (.mk textK (bytesOf (quotedB (l, b)).1) ((marksGo (takesB 60 (quotedB (l, b)).2.1).2).1.map bytesOf) [] [], wantB 62 ((marksGo (takesB 60 (quotedB (l, b)).2.1).2).2, (quotedB (l, b)).2.2))
  else (.mk textK (bytesOf (quotedB (l, b)).1) [] [] [], (quotedB (l, b)).2) := rfl
  refine fun_of (T := T3) (n := 25) (rs := [.cell 2 87]) Tryz.func178 (by kernel_rfl) rfl rfl rfl tok3 mixed (by simp) fun C hC => ?_
  refine hC.vc [] 60 ?_
  simp
  refine hC.call [.arg 0] (f145 Gl l b hl) (by simp) ?_
  generalize quotedB (l, b) = qq at hql htb ⊢
  obtain ⟨q, l1, b1⟩ := qq
  simp only at hql htb ⊢
  refine hC.vc [] 60 ?_
  simp
  refine hC.call [.arg 0] (f143 Gl 60 l1 b1) (by simp) ?_
  have ht2 := (takes_le 60 l1).1
  have ht3 := takes_false 60 l1
  generalize takesB 60 l1 = tk at htb ht2 ht3 ⊢
  obtain ⟨ok, l2⟩ := tk
  simp only at htb ht2 ht3 ⊢
  cases ok with
  | false =>
    simp only [Bool.false_eq_true, if_false] at htb
    rw [htb] at hC
    obtain rfl := ht3 rfl
    refine hC.vc [] 8 ?_
    simp
    exact go_to (M := ⟨[(2, .ptr (.loc 2) 0)], [(.arg 0, some (rdN l2 b1)), (.loc 2, some (.box 87 (N.mk textK (bytesOf q) [] [] []).cells))]⟩) [] (hC.vc [] 5 (by simp [N.av, N.cells, N.kind, N.text, N.marks, N.attrs, N.kids])) (by simp [N.cells, N.kind, N.text, N.marks, N.attrs, N.kids, textK])
  | true =>
    simp only [if_true] at htb
    rw [htb] at hC
    refine hC.vc [] 60 ?_
    simp
    refine go_loop (ι := {x : Bool × List Bs × Bs // x.2.1.length + x.2.2.length ≤ l2.length + (if x.1 = true then 0 else 1) ∧ marksGo l2 = if x.1 = true then (x.2.1 ++ (marksGo x.2.2).1, (marksGo x.2.2).2) else x.2}) (fun x => ⟨[(0, .ptr (.arg 0) 0), (2, .ptr (.loc 2) 0), (3, .ptr (.loc 3) 0), (4, vB x.1.1)], [(.arg 0, some (rdN x.1.2.2 b1)), (.loc 2, some (.box 87 [vS ⟨#[]⟩, vS ⟨#[]⟩, .pv (.nilS 1), .pv (.nilS 2), .pv (.nilS 5)])), (.loc 3, some (.box 87 [vS textK, vT q, .own (.can 0), .pv (.nilS 2), .pv (.nilS 5)])), (.can 0, some (.row 9 1 (nmRow x.1.2.1)))]⟩)
      (fun x => if x.1.1 = true then x.1.2.2.length + 1 else 0) ⟨(true, [], l2), by simp⟩ [(.can 0, .nil)] (by simp [textK]) fun x ih => ?_
    obtain ⟨⟨sg, ms, m⟩, hm, hn⟩ := x
    simp only at hm hn ih
    cases sg with
    | false =>
      simp only [Bool.false_eq_true, if_false] at hn
      rw [hn] at hC
      refine hC.vc [] 60 ?_
      simp
      refine hC.call [.arg 0] (f144 Gl 62 m b1) (by simp) ?_
      refine hC.vc [] 6 ?_
      simp
      exact go_to (M := ⟨[(2, .ptr (.loc 2) 0)], [(.arg 0, some (rdN (wantB 62 (m, b1)).1 (wantB 62 (m, b1)).2)), (.loc 2, some (.box 87 (N.mk textK (bytesOf q) (ms.map bytesOf) [] []).cells))]⟩) [] (hC.vc [] 5 (by simp [N.av, N.cells, N.kind, N.text, N.marks, N.attrs, N.kids])) (by simp [N.cells, N.kind, N.text, N.marks, N.attrs, N.kids, textK])
    | true =>
      simp only [if_true, Nat.add_zero] at hn hm
      have h1 := name_le m
      obtain ⟨h2, h3⟩ := takes_le 44 (nameB m).2
      rw [marksGo.eq_def m] at hn
      refine hC.vc [] 60 ?_
      simp
      refine hC.call [.arg 0] (f142 Gl m b1 (by omega)) (by simp) ?_
      refine hC.vc [] 60 ?_
      simp
      refine ⟨⟨by omega, by omega⟩, ?_⟩
      refine hC.call [.arg 0] (f143 Gl 44 (nameB m).2 b1) (by simp) ?_
      generalize takesB 44 (nameB m).2 = tk at hn h2 h3 ⊢
      obtain ⟨ok, m2⟩ := tk
      simp only at hn h2 h3 ⊢
      cases ok with
      | true =>
        have h4 := h3 rfl
        rw [dif_pos rfl] at hn
        refine hC.vc [] 60 ?_
        simp
        exact go_to [(.can 0, .nm (.loc 20))] (ih ⟨(true, ms ++ [(nameB m).1], m2), by simp; omega, by rw [hn]; simp⟩ (by simp; omega)) (by simp)
      | false =>
        rw [dif_neg (by simp)] at hn
        refine hC.vc [] 60 ?_
        simp
        exact go_to [(.can 0, .nm (.loc 20))] (ih ⟨(false, ms ++ [(nameB m).1], m2), by simp; omega, by rw [hn]; simp⟩ (by simp)) (by simp)
end Go.Proofs.D
