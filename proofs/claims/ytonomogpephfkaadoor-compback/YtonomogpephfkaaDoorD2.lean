/-
  EXPRESSIONS: how many, whether formed.
-/
import Derived.Test.YtonomogpephfkaaDoorD1
set_option linter.unusedVariables false
set_option linter.unusedSimpArgs false
namespace Go.Proofs.D
open Go Go.Abs
attribute [local simp] VC stepV stepTop stepReg stepOp stMove stPick stBin stUn stConv stBox stAlloc stLoad stStore stFieldAddr stField stExtract stNilCheck stMakeFunc stIndexAddr stIndex stLen
  stBuild placesOf fillA stBuildSlice sliceCells repL chunks allPV toPV drawOk drawOk.go mayMakeO mayMake1 disjoint pairOk Oper.apart Oper.looksAt Op.operands Call.operands Region.binds stAppend appBase appTail unName stSlice bndA
  LS.ev LS.get LS.blk LS.put LS.app LS.upd lkS lkH setS setH Nm.eqb guardOf nexts okPair dstOk AV.cellsOf takeAt putAt lkT sliceE fieldT intK isStrT isBoolT abin newOk LS.freshB LS.freshB.go LS.freshB.goH notIn AV.ments AV.ments.mentsL Blk.ments makes upsMents LS.start startL exitTo T Nat.blt
  conv convS convH srcs srcOf blkOk leA leA.leL leB leP laid laidM isArg subH retP resAV resL res1 AV.frz AV.frz.frzL evL AV.ren AV.ren.renL Blk.ren renBs blksOf allSome nodupB onlyArgs blksMents callUps keyed inName inName.go backName callSide
inductive E where
  | mk (op : Int) (name : ByteArray) (kids : List E)
def E.op : E → Int | .mk a _ _ => a
def E.name : E → ByteArray | .mk _ a _ => a
def E.kids : E → List E | .mk _ _ a => a
theorem E.kids_lt {e x : E} (h : x ∈ e.kids) : SizeOf.sizeOf x < SizeOf.sizeOf e := by
  obtain ⟨op, name, kids⟩ := e
  have := List.sizeOf_lt_of_mem h
  have e : (E.mk op name kids).kids = kids := rfl
  rw [e] at this; simp; omega
def E.pv : E → List PV
  | .mk op name kids => [.val (.int .u8 op), .val (.string name), .ro 3 (kids.attach.map fun x => x.1.pv)]
termination_by e => SizeOf.sizeOf e
decreasing_by exact E.kids_lt (e := .mk op name kids) x.2
theorem E.pv_eq (e : E) : e.pv = [.val (.int .u8 e.op), .val (.string e.name), .ro 3 (e.kids.map E.pv)] := by
  cases e; simp [E.pv, E.op, E.name, E.kids]
def E.cells (e : E) : List AV := [.pv (.val (.int .u8 e.op)), .pv (.val (.string e.name)), .pv (.ro 3 (e.kids.map E.pv))]
def E.av (e : E) : AV := .agg e.cells
/-- No name is longer than a number tells. -/
def E.small : E → Prop
  | .mk _ name kids => name.size ≤ 9223372036854775807 ∧ go kids
where go : List E → Prop
  | [] => True
  | k :: l => k.small ∧ go l
theorem E.small_name {e : E} (h : e.small) : e.name.size ≤ 9223372036854775807 := by
  obtain ⟨o, n, k⟩ := e
  simp only [E.small] at h
  exact h.1
theorem E.small_kids {e : E} (h : e.small) : ∀ k ∈ e.kids, k.small := by
  obtain ⟨o, n, kids⟩ := e
  simp only [E.small] at h
  have : ∀ l : List E, E.small.go l → ∀ k ∈ l, k.small := by
    intro l
    induction l with
    | nil => intro _ k hk; cases hk
    | cons x l ih =>
      intro h k hk
      simp only [E.small.go] at h
      rcases List.mem_cons.1 hk with rfl | hk
      · exact h.1
      · exact ih h.2 k hk
  exact this kids h.2
theorem E.small_mk {o : Int} {n : ByteArray} {l : List E} (h1 : n.size ≤ 9223372036854775807) (h2 : ∀ k ∈ l, k.small) : (E.mk o n l).small := by
  simp only [E.small]
  refine ⟨h1, ?_⟩
  induction l with
  | nil => simp only [E.small.go]
  | cons x l ih =>
    simp only [E.small.go]
    exact ⟨h2 x (by simp), ih fun k hk => h2 k (by simp [hk])⟩
def E.many : E → Int
  | .mk a b kids => kids.attach.foldl (fun n x => wr .i64 (n + x.1.many)) 1
termination_by e => SizeOf.sizeOf e
decreasing_by exact E.kids_lt (e := .mk a b kids) x.2
theorem E.many_eq (e : E) : e.many = e.kids.foldl (fun n x => wr .i64 (n + x.many)) 1 := by
  cases e; simp [E.many, E.kids]
theorem f32 (Gl : Granted) (e : E) : Fun Tryd.prog Gl 32 [e.av] [] (vI e.many) [] := by
  refine fun_of (T := T) (n := 19) (rs := [.tmp 2]) Tryd.func32 (by kernel_rfl) rfl rfl rfl tok mixed (by simp) fun C hC => ?_
  refine hC.vc [] 60 ?_
  simp [E.av, E.cells]
  refine go_len 7 3 (e.kids.map E.pv) (by simp) fun hk => ?_
  rw [List.length_map] at hk
  refine go_loop (ι := {p : Nat × Int // p.1 ≤ e.kids.length ∧ e.many = (e.kids.drop p.1).foldl (fun n x => wr .i64 (n + x.many)) p.2}) (fun x => ⟨[(7, .pv (.ro 3 (e.kids.map E.pv))), (8, vI e.kids.length), (3, vI x.1.2), (9, vI x.1.1)], []⟩) (fun x => e.kids.length - x.1.1) ⟨(0, 1), by simp only [List.drop_zero]; exact ⟨Nat.zero_le _, E.many_eq e⟩⟩ [] (by simp) fun x ih => ?_
  obtain ⟨⟨i, n⟩, hi, hn⟩ := x
  simp only at hi hn ih
  refine hC.vc [] 60 ?_
  simp
  by_cases hlt : i < e.kids.length
  · rw [foldl_drop _ _ _ hlt] at hn
    simp [hlt, E.pv_eq]
    refine hC.call [] (f32 Gl e.kids[i]) (by simp [E.av, E.cells]) ?_
    refine hC.vc [] 40 ?_
    simp
    have hw := wr64 ((i : Int) + 1) (by omega)
    exact go_to [] (ih ⟨(i + 1, _), hlt, hn⟩ (by simp; omega)) (by simp [hw])
  · simp [hlt]
    rw [hn, List.drop_eq_nil_of_le (by omega)]; rfl
termination_by SizeOf.sizeOf e
decreasing_by exact E.kids_lt (by simp)
def E.suffix (e : E) : Bool := decide (e.op = 42) || decide (e.op = 43) || decide (e.op = 63)
theorem f59 (Gl : Granted) (e : E) : Fun Tryd.prog Gl 59 [e.av] [] (vB e.suffix) [] := by
  refine fun_of (T := T) (n := 16) (rs := [.tmp 2]) Tryd.func59 (by kernel_rfl) rfl rfl rfl tok mixed (by simp) fun C hC => ?_
  refine hC.vc [] 60 ?_
  simp [E.av, E.cells, E.suffix]
  by_cases h1 : e.op = 42
  · simp [h1]
  · by_cases h2 : e.op = 43
    · simp [h2]
    · simp [h1, h2]
/-- strings.Trim at small letters leaves nothing but what is no name. -/
def isName (s : ByteArray) : Bool := decide (1 ≤ s.size) && decide (s.size ≤ 8) && s.data.toList.all (fun c => decide (97 ≤ c.toNat) && decide (c.toNat ≤ 122)) && !decide (s = ⟨#[116, 101, 120, 116]⟩)
/-- Where the first one is, if there is one. -/
def firstIx (q : E → Bool) : List E → Nat → Int
  | [], _ => -1
  | x :: l, i => if q x = true then (i : Int) else firstIx q l (i + 1)
theorem firstIx_any (q : E → Bool) (l : List E) (i : Nat) : decide (firstIx q l i ≥ 0) = l.any q := by
  induction l generalizing i with
  | nil => simp [firstIx]
  | cons x l ih =>
    simp only [firstIx, List.any_cons]
    split
    · rename_i h; simp [h]
    · rename_i h; simp at h; simp only [h, Bool.false_or]; exact ih (i + 1)
theorem f87 (Gl : Granted) (l : List E) (e : E) (q : E → Bool) (hq : ∀ x ∈ l, Fun Tryd.prog Gl 60 [x.av, .ptr (.arg 0) 0] [some (.box 25 e.cells)] (vB (q x)) [some (.box 25 e.cells)]) :
    Fun Tryd.prog Gl 87 [.pv (.ro 3 (l.map E.pv)), .fn (.func 60) [] [.ptr (.arg 0) 0]] [some (.box 25 e.cells)] (vI (firstIx q l 0)) [some (.box 25 e.cells)] := by
  refine fun_of (T := T) (n := 19) (rs := [.tmp 4]) Tryd.func87 (by kernel_rfl) rfl rfl rfl tok mixed (by simp) fun C hC => ?_
  refine hC.vc [] 60 ?_
  simp [E.cells]
  refine go_len 6 3 (l.map E.pv) (by simp) fun hk => ?_
  rw [List.length_map] at hk
  refine go_loop (ι := {i : Nat // i ≤ l.length ∧ firstIx q l 0 = firstIx q (l.drop i) i}) (fun x => ⟨[(0, .pv (.ro 3 (l.map E.pv))), (1, .fn (.func 60) [] [.ptr (.arg 0) 0]), (6, .pv (.ro 3 (l.map E.pv))), (7, vI l.length), (8, vI x.1)], [(.arg 0, some (.box 25 e.cells))]⟩) (fun x => l.length - x.1) ⟨0, by simp⟩ [] (by simp [E.cells]) fun x ih => ?_
  obtain ⟨i, hi, hn⟩ := x
  simp only at hi hn ih
  refine hC.vc [] 60 ?_
  simp [E.cells]
  by_cases hlt : i < l.length
  · rw [List.drop_eq_getElem_cons hlt] at hn
    simp only [firstIx] at hn
    simp [hlt, E.pv_eq]
    refine hC.call [.arg 0] (hq l[i] (by simp)) (by simp [E.av, E.cells]) ?_
    refine hC.vc [] 40 ?_
    simp
    cases hqi : q l[i] with
    | true =>
      simp [hn, hqi, E.cells]
    | false =>
      simp
      have hw := wr64 ((i : Int) + 1) (by omega)
      exact go_to [] (ih ⟨i + 1, hlt, by simpa [hqi] using hn⟩ (by simp; omega)) (by simp [hw, E.cells])
  · simp [hlt]
    rw [hn, List.drop_eq_nil_of_le (by omega)]
    simp [firstIx, E.cells]
theorem f61 (Gl : Granted) (l : List E) (e : E) (q : E → Bool) (hq : ∀ x ∈ l, Fun Tryd.prog Gl 60 [x.av, .ptr (.arg 0) 0] [some (.box 25 e.cells)] (vB (q x)) [some (.box 25 e.cells)]) :
    Fun Tryd.prog Gl 61 [.pv (.ro 3 (l.map E.pv)), .fn (.func 60) [] [.ptr (.arg 0) 0]] [some (.box 25 e.cells)] (vB (l.any q)) [some (.box 25 e.cells)] := by
  refine fun_of (T := T) (n := 9) (rs := [.tmp 4]) Tryd.func61 (by kernel_rfl) rfl rfl rfl tok mixed (by simp) fun C hC => ?_
  refine hC.vc [] 60 ?_
  simp [E.cells]
  refine hC.call [.arg 0] (f87 Gl l e q hq) (by simp [E.cells]) ?_
  refine hC.vc [] 60 ?_
  simp [E.cells, firstIx_any]
def E.ok : E → Bool
  | .mk op name kids =>
    if op = 110 then decide (kids.length = 0) && (isName name || decide (name = ⟨#[116, 101, 120, 116]⟩))
    else (decide (name = ⟨#[]⟩) && (if op = 115 then !decide ((kids.length : Int) = 1) else if op = 97 then decide (1 < (kids.length : Int)) else decide (op = 42 ∨ op = 43 ∨ op = 63) && decide ((kids.length : Int) = 1) && !(kids.any E.suffix)))
      && !(kids.attach.any fun k => decide (k.1.op = op) || !k.1.ok)
termination_by e => SizeOf.sizeOf e
decreasing_by exact E.kids_lt (e := .mk op name kids) k.2
theorem f60 (Gl : Granted) (k e : E) (h : Fun Tryd.prog Gl 33 [k.av] [] (vB k.ok) []) : Fun Tryd.prog Gl 60 [k.av, .ptr (.arg 0) 0] [some (.box 25 e.cells)] (vB (decide (k.op = e.op) || !k.ok)) [some (.box 25 e.cells)] := by
  refine fun_of (T := T) (n := 14) (rs := [.tmp 3]) Tryd.func60 (by kernel_rfl) rfl rfl rfl tok mixed (by simp) fun C hC => ?_
  refine hC.vc [] 60 ?_
  simp [E.av, E.cells]
  by_cases h1 : k.op = e.op
  · simp [h1]
  · simp [h1]
    refine hC.call [] h (by simp [E.av, E.cells]) ?_
    refine hC.vc [] 60 ?_
    simp [h1, E.cells]
end Go.Proofs.D
