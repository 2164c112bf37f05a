/-
  EXPRESSIONS: right; the reader's loop.
-/
import Derived.Test.YtonomogpephfkaaDoorD3
set_option linter.unusedVariables false
set_option linter.unusedSimpArgs false
namespace Go.Proofs.D
open Go Go.Abs
attribute [local simp] VC stepV stepTop stepReg stepOp stMove stPick stBin stUn stConv stBox stAlloc stLoad stStore stFieldAddr stField stExtract stNilCheck stMakeFunc stIndexAddr stIndex stLen
  stBuild placesOf fillA stBuildSlice sliceCells repL chunks allPV toPV drawOk drawOk.go mayMakeO mayMake1 disjoint pairOk Oper.apart Oper.looksAt Op.operands Call.operands Region.binds stAppend appBase appTail unName stSlice bndA
  LS.ev LS.get LS.blk LS.put LS.app LS.upd lkS lkH setS setH Nm.eqb guardOf nexts okPair dstOk AV.cellsOf takeAt putAt lkT sliceE fieldT intK isStrT isBoolT abin newOk LS.freshB LS.freshB.go LS.freshB.goH notIn AV.ments AV.ments.mentsL Blk.ments makes upsMents LS.start startL exitTo T Nat.blt
  conv convS convH srcs srcOf blkOk leA leA.leL leB leP laid laidM isArg subH retP resAV resL res1 AV.frz AV.frz.frzL evL AV.ren AV.ren.renL Blk.ren renBs blksOf allSome nodupB onlyArgs blksMents callUps keyed inName inName.go backName callSide
def E.right (e : E) : Bool := decide (e.many ≤ 24) && e.ok
theorem f18 (Gl : Granted) (e : E) (hs : e.small) : Fun Tryd.prog Gl 18 [e.av] [] (vB e.right) [] := by
  refine fun_of (T := T) (n := 10) (rs := [.tmp 2]) Tryd.func18 (by kernel_rfl) rfl rfl rfl tok mixed (by simp) fun C hC => ?_
  refine hC.vc [] 60 ?_
  simp [E.av, E.cells]
  refine hC.call [] (f32 Gl e) (by simp [E.av, E.cells]) ?_
  refine hC.vc [] 60 ?_
  by_cases h : e.many ≤ 24
  · simp [h]
    refine hC.call [] (f33 Gl e hs) (by simp [E.av, E.cells]) ?_
    refine hC.vc [] 60 ?_
    simp [E.right, h]
  · simp [E.right, h]
structure St where
  left : ByteArray
  bad : Bool
  many : Int
abbrev St.b (s : St) : Blk := .box 59 [vS s.left, vB s.bad, vI s.many]
def St.cut (s : St) (sign : ByteArray) : St := { s with left := cutPre s.left sign }
/-- The rounds of a reader of several; n: how many rounds at most. -/
def rounds (read : St → E × St) (sign : ByteArray) : Nat → List E → St → List E × St
  | 0, l, s => (l, s)
  | n + 1, l, s => if s.bad = true then (l, s) else if hasPre s.left sign = true then rounds read sign n (l ++ [(read (s.cut sign)).1]) (read (s.cut sign)).2 else (l, s.cut sign)
def several (read : St → E × St) (op : Int) (sign : ByteArray) (s : St) : E × St :=
  let r := rounds read sign (s.left.size + 1) [(read s).1] (read s).2
  (match r.1 with
    | [e] => e
    | l => .mk op ⟨#[]⟩ l, r.2)
theorem cutPre_size (s p : ByteArray) (h : hasPre s p = true) : (cutPre s p).size = s.size - p.size := by
  simp [cutPre, h, ByteArray.size_extract]
theorem f53 (Gl : Granted) (read : St → E × St) (op : Int) (sign : ByteArray) (g : Nat) (I : St → Prop) (hr : ∀ s, I s → Fun Tryd.prog Gl g [.ptr (.arg 0) 0] [some s.b] (read s).1.av [some (read s).2.b])
    (hle : ∀ s, I s → (read s).2.left.size ≤ s.left.size) (hI : ∀ s, I s → (read s).2.bad = false → I (read s).2) (hcut : ∀ s, I s → hasPre s.left sign = true → I (s.cut sign)) (hsg : 1 ≤ sign.size) (s : St) (hs0 : I s) (hsz : s.left.size ≤ 1000000000) :
    Fun Tryd.prog Gl 53 [.ptr (.arg 0) 0, .pv (.val (.int .u8 op)), vS sign, .fn (.func g) [.ptr (.arg 0) 0] []] [some s.b] (several read op sign s).1.av [some (several read op sign s).2.b] := by
  refine fun_of (T := T) (n := 37) (rs := [.cell 8 25]) Tryd.func53 (by kernel_rfl) rfl rfl rfl tok mixed (by simp) fun C hC => ?_
  refine hC.vc [12] 60 ?_
  simp
  refine hC.call [.arg 0] (hr s hs0) (by simp [E.av, E.cells]) ?_
  refine hC.vc [12] 60 ?_
  simp [E.av, E.cells]
  obtain ⟨R, hR⟩ : ∃ R, rounds read sign (s.left.size + 1) [(read s).1] (read s).2 = R := ⟨_, rfl⟩
  have hsev : several read op sign s = (match R.1 with
    | [e] => e
    | l => .mk op ⟨#[]⟩ l, R.2) := by simp only [several, hR]
  refine go_loop (ι := {x : Nat × List E × St // (x.2.2.bad = false → I x.2.2) ∧ x.2.2.left.size < x.1 ∧ x.2.1.length + x.2.2.left.size ≤ s.left.size + 1 ∧ rounds read sign x.1 x.2.1 x.2.2 = R})
    (fun x => ⟨[(0, .ptr (.arg 0) 0), (1, .pv (.val (.int .u8 op))), (2, vS sign), (3, .fn (.func g) [.ptr (.arg 0) 0] []), (8, .ptr (.loc 8) 0), (9, .own (.can 0))],
      [(.arg 0, some x.1.2.2.b), (.loc 8, some (.box 25 [.pv (.val (.int .u8 0)), .pv (.val (.string ⟨#[]⟩)), .pv (.nilS 3)])), (.can 0, some (.row 25 3 (x.1.2.1.map E.pv)))]⟩)
    (fun x => x.1.1) ⟨(s.left.size + 1, [(read s).1], (read s).2), by have := hle s hs0; simp [hR]; exact ⟨hI s hs0, by omega, by omega⟩⟩ [(.can 0, .nm (.loc 12))] (by simp [E.pv_eq]) fun x ih => ?_
  obtain ⟨⟨n, l, r⟩, h0, h1, h2, h3⟩ := x
  simp only at h0 h1 h2 h3 ih
  obtain ⟨n, rfl⟩ : ∃ k, n = k + 1 := ⟨n - 1, by omega⟩
  simp only [rounds] at h3
  refine hC.vc [] 100 ?_
  have hleaf : ∀ (l : List E) (q : St), R = (l, q) → (∃ e, l = [e] ∧ several read op sign s = (e, q)) ∨ (¬ (l.length : Int) = 1 ∧ several read op sign s = (.mk op ⟨#[]⟩ l, q)) := by
    intro l q hq
    rw [hsev, hq]
    rcases l with _ | ⟨x, _ | ⟨y, l⟩⟩
    · exact .inr ⟨by simp, rfl⟩
    · exact .inl ⟨x, rfl, rfl⟩
    · exact .inr ⟨by simp; omega, rfl⟩
  by_cases hb : r.bad = true
  · rw [if_pos hb] at h3
    rcases hleaf l r h3.symm with ⟨e, rfl, hs⟩ | ⟨hl, hs⟩
    · simp [hb, E.pv_eq, hs, E.av, E.cells]
    · simp [hb, hl, hs, E.av, E.cells, E.op, E.name, E.kids]
  · rw [if_neg hb] at h3
    simp [hb]
    refine hC.call [.arg 0] (f81 Gl r.left sign r.bad r.many) (by simp [hb, rdB]) ?_
    refine hC.vc [] 100 ?_
    cases hp : hasPre r.left sign with
    | false =>
      rw [if_neg (by simp [hp])] at h3
      rcases hleaf l _ h3.symm with ⟨e, rfl, hs⟩ | ⟨hl, hs⟩
      · simp [rdB, E.pv_eq, hs, E.av, E.cells, St.cut]
      · simp [rdB, hl, hs, E.av, E.cells, E.op, E.name, E.kids, St.cut]
    | true =>
      rw [if_pos hp] at h3
      simp [rdB]
      have hIr := hcut r (h0 (by simpa using hb)) hp
      refine hC.call [.arg 0] (hr (r.cut sign) hIr) (by simp [E.av, E.cells, St.cut]) ?_
      refine hC.vc [] 100 ?_
      have hcs := cutPre_size r.left sign hp
      have hp1 := hasPre_le hp
      have hl2 := hle (r.cut sign) hIr
      simp [St.cut] at hl2
      simp [E.av, E.cells]
      refine ⟨by omega, ?_⟩
      exact go_to [(.can 0, .nm (.loc 27))] (ih ⟨(n, l ++ [(read (r.cut sign)).1], (read (r.cut sign)).2), hI _ hIr, by simp [St.cut]; omega, by simp [St.cut]; omega, h3⟩ (by simp)) (by simp [E.pv_eq])
end Go.Proofs.D
