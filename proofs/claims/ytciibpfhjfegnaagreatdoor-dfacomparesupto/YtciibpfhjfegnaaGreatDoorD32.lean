/-
  WHAT IS READ OF A SLICE, A TEXT.
-/
import Derived.Test.YtciibpfhjfegnaaGreatDoorLO
import Derived.Test.YtciibpfhjfegnaaGreatDoorAbsT
set_option linter.unusedVariables false
set_option linter.unusedSimpArgs false
namespace Go.Proofs.D
open Go Go.Abs Go.RowKit Go.ChangeShapes Go.WideShapes
section
variable {H : Type} {enc : TypeId × Value → H} {W : World}
abbrev allOf (W : World) (k : Nat) : Prop := k < W.heap.size
theorem cells9 : Tryz.prog.cellsOf 9 = 1 := by kernel_rfl
theorem again9 (n : Nat) : Again H enc Tryz.prog n 9 := again_string Tryz.underlying9 n
theorem add_add {a : Addr} (hs : a.spot = none) (p j : Nat) : (a.add p).add j = a.add (p + j) := by
  obtain ⟨b, o, s⟩ := a
  simp at hs
  subst hs
  rw [add_at, add_at, add_at, Nat.add_assoc]
theorem cell_lt {w : World} {a : Addr} {v : Value} (h : w.cell? a = some v) : a.block < w.heap.size ∧ a.spot = none := by
  unfold World.cell? at h
  cases hb : w.heap[a.block]? with
  | none => rw [hb] at h; cases h
  | some o =>
    refine ⟨(Array.getElem?_eq_some_iff.1 hb).1, ?_⟩
    rw [hb] at h
    cases o with
    | cells c t f =>
      simp only at h
      cases hs : a.spot with
      | none => rfl
      | some s => rw [hs] at h; simp at h
    | _ => cases h
theorem cells_get {w : World} {a : Addr} {n : Nat} {c : List Value} (h : w.cells? 0 a n = some c) : c.length = n ∧ ∀ j, j < n → w.cell? (a.add j) = c[j]? := by
  unfold World.cells? at h
  simp only [Nat.zero_le, if_true] at h
  exact ⟨by simpa using mapM_some_length h, fun j hj => mapM_some_get h j j (by simp [hj])⟩
instance : Inhabited ByteArray := ⟨⟨#[]⟩⟩
theorem str_of {sp : Nat → Bool} {held : Bool} {n : Nat} {cs : List Value} {x : DataW H × List MemPlace} (h : DataW.trod enc Tryz.prog W 0 sp held n 9 cs = some x) : ∃ s : ByteArray, cs = [.string s] ∧ s.size ≤ maxLen := by
  obtain ⟨s, h1, _, h2⟩ := DataW.trod_string Tryz.underlying9 h
  exact ⟨s, h1, h2⟩
abbrev noHd : Nm → Hd := fun _ => .dead
end
end Go.Proofs.D
namespace Go.Proofs.D
open Go Go.Abs
attribute [local simp] VC VCS stepVS stepTopS firstId memN bigB unmark markT mkOff calmP keepT boundB boundC stepV stepTop stepReg stepOp stMove stPick stBin stUn stConv stBox stAlloc stLoad stStore stFieldAddr stField stExtract stNilCheck stMakeFunc stIndexAddr stIndex stLen
  stBuild placesOf fillA stBuildSlice sliceCells repL chunks allPV toPV drawOk drawOk.go mayMakeO mayMake1 disjoint pairS Oper.apart Oper.looksAt Op.operands Call.operands Region.binds stAppend appBase appTail unName stSlice bndA
  LS.ev LS.get LS.blk LS.put LS.app LS.upd lkS lkH setS setH Nm.eqb guardOf nexts okPair dstOk AV.cellsOf takeAt putAt lkT sliceE fieldT intK isStrT isBoolT abin newOk LS.freshB LS.freshB.go LS.freshB.goH notIn AV.ments AV.ments.mentsL Blk.ments makes upsMents LS.start startL exitTo T Nat.blt
  conv convS convH srcs srcOf blkOk leA leA.leL Go.Abs.leB leP laid laidM laidG isArg subH retP resAV resL res1 AV.frz AV.frz.frzL evL AV.ren AV.ren.renL Blk.ren renBs blksOf allSome nodupB onlyArgs blksMents callUps keyed inName inName.go backName callSide
theorem f83 (Gl : Granted) (e : E) : Fun Tryz.prog Gl 104 [e.av] [] (vI e.many) [] := by
  refine fun_of (T := T) (n := 21) (rs := [.tmp 2]) Tryz.func104 (by kernel_rfl) rfl rfl rfl tok mixed (by simp) fun C hC => ?_
  refine hC.vc [] 60 ?_
  simp [E.av, E.cells]
  refine go_lenB (.loc 1) 54 e.cells 2 3 (e.kids.map E.pv) (by simp [E.cells]) (by simp [E.cells]) fun hk => ?_
  rw [List.length_map] at hk
  refine go_loop (ι := {p : Nat × Int // p.1 ≤ e.kids.length ∧ e.many = (e.kids.drop p.1).foldl (fun n x => wr .i64 (n + x.many)) p.2}) (fun x => ⟨[(1, .ptr (.loc 1) 0), (3, vI x.1.2), (4, vI x.1.1)], [(.loc 1, some (.box 54 e.cells))]⟩) (fun x => e.kids.length - x.1.1) ⟨(0, 1), by simp only [List.drop_zero]; exact ⟨Nat.zero_le _, E.many_eq e⟩⟩ [] (by simp [E.cells]) fun x ih => ?_
  obtain ⟨⟨i, n⟩, hi, hn⟩ := x
  simp only at hi hn ih
  refine hC.vc [] 60 ?_
  simp [E.cells]
  by_cases hlt : i < e.kids.length
  · rw [foldl_drop _ _ _ hlt] at hn
    simp [hlt, E.pv_eq e.kids[i]]
    refine hC.call [] (f83 Gl e.kids[i]) (by simp [E.av, E.cells]) ?_
    refine hC.vc [] 40 ?_
    simp
    have hw := wr64 ((i : Int) + 1) (by omega)
    exact go_to [] (ih ⟨(i + 1, _), hlt, hn⟩ (by simp; omega)) (by simp [hw, E.cells])
  · simp [hlt]
    rw [hn, List.drop_eq_nil_of_le (by omega)]; rfl
termination_by SizeOf.sizeOf e
decreasing_by exact E.kids_lt (by simp)
theorem f85 (Gl : Granted) (e : E) : Fun Tryz.prog Gl 144 [e.av] [] (vB e.suffix) [] := by
  refine fun_of (T := T) (n := 16) (rs := [.tmp 2]) Tryz.func144 (by kernel_rfl) rfl rfl rfl tok mixed (by simp) fun C hC => ?_
  refine hC.vc [] 60 ?_
  simp [E.av, E.cells, E.suffix]
  by_cases h1 : e.op = 42
  · simp [h1]
  · by_cases h2 : e.op = 43
    · simp [h2]
    · simp [h1, h2]
theorem byteAt_list (s : ByteArray) (i : Nat) (h : i < s.size) : byteAt s i = ((s.data.toList[i]'(by simpa using h)).toNat : Int) := by
  rw [byteAt_eq]
  simp only [Int.toNat_natCast]
  rw [List.getD_eq_getElem?_getD, List.getElem?_eq_getElem (by simpa using h)]
  rfl
def lowAll (l : List UInt8) : Bool := l.all (fun c => decide (97 ≤ c.toNat) && decide (c.toNat ≤ 122))
theorem lowAll_cons (c : UInt8) (l : List UInt8) : lowAll (c :: l) = (decide (97 ≤ (c.toNat : Int)) && decide ((c.toNat : Int) ≤ 122) && lowAll l) := by
  simp only [lowAll, List.all_cons]
  congr 2
  · exact decide_eq_decide.2 (by omega)
  · exact decide_eq_decide.2 (by omega)
theorem isName_low (s : ByteArray) : isName s = (decide (1 ≤ (s.size : Int)) && decide ((s.size : Int) ≤ 8) && lowAll s.data.toList && !decide (s = ⟨#[116, 101, 120, 116]⟩)) := by
  have e1 : decide (1 ≤ (s.size : Int)) = decide (1 ≤ s.size) := decide_eq_decide.2 (by omega)
  have e2 : decide ((s.size : Int) ≤ 8) = decide (s.size ≤ 8) := decide_eq_decide.2 (by omega)
  rw [e1, e2]
  rfl
theorem f100 (Gl : Granted) (s : ByteArray) (hs : s.size ≤ 9223372036854775807) : Fun Tryz.prog Gl 143 [vS s] [] (vB (isName s)) [] := by
  refine fun_of (T := T) (n := 32) (rs := [.tmp 2]) Tryz.func143 (by kernel_rfl) rfl rfl rfl tok mixed (by simp) fun C hC => ?_
  refine hC.vc [] 10 ?_
  simp
  refine go_loop (ι := {i : Nat // i ≤ s.size ∧ lowAll s.data.toList = lowAll (s.data.toList.drop i)}) (fun x => ⟨[(0, vS s), (3, vI x.1)], []⟩) (fun x => s.size - x.1) ⟨0, by simp⟩ [] (by simp) fun x ih => ?_
  obtain ⟨i, hi, hn⟩ := x
  simp only at hi hn ih
  have hnm := isName_low s
  by_cases hlt : i < s.size
  · have hll : i < s.data.toList.length := by simpa using hlt
    rw [List.drop_eq_getElem_cons hll, lowAll_cons, ← byteAt_list s i hlt] at hn
    by_cases h1 : byteAt s i < 97
    · refine hC.vc [] 60 ?_
      have h1' : ¬ 97 ≤ byteAt s i := by omega
      simp [hlt, h1, hnm, hn, h1']
    · by_cases h2 : 122 < byteAt s i
      · refine hC.vc [] 60 ?_
        have h2' : ¬ byteAt s i ≤ 122 := by omega
        simp [hlt, h1, h2, hnm, hn, h2']
      · refine hC.vc [] 60 ?_
        simp [hlt, h1, h2]
        have hw := wr64 ((i : Int) + 1) (by omega)
        have e1 : 97 ≤ byteAt s i := by omega
        have e2 : byteAt s i ≤ 122 := by omega
        simp only [e1, e2, decide_true, Bool.true_and] at hn
        exact go_to [] (ih ⟨i + 1, hlt, hn⟩ (by simp; omega)) (by simp [hw])
  · rw [List.drop_eq_nil_of_le (by simpa using hlt)] at hn
    have hn : lowAll s.data.toList = true := hn
    rw [hn] at hnm
    by_cases a : 1 ≤ (s.size : Int)
    · by_cases b : (s.size : Int) ≤ 8
      · refine hC.vc [] 60 ?_
        simp [hlt, a, b, hnm]
      · refine hC.vc [] 60 ?_
        simp [hlt, a, b, hnm]
    · refine hC.vc [] 60 ?_
      simp [hlt, a, hnm]
end Go.Proofs.D
