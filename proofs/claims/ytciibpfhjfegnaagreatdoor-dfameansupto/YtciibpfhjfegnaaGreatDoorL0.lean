/-
  THE LIBRARY'S FUNCTIONS, as the shelf has them.
-/
import Derived.Test.YtciibpfhjfegnaaGreatDoorLO
import Derived.Test.YtciibpfhjfegnaaGreatDoorAbsK
import Derived.Test.YtciibpfhjfegnaaGreatDoorShelf
import Derived.Shelf.Strings.SlTrimAscii
set_option linter.unusedVariables false
set_option linter.unusedSimpArgs false
namespace Go.Proofs.D
open Go Go.Abs
def low : ByteArray := ⟨#[97, 98, 99, 100, 101, 102, 103, 104, 105, 106, 107, 108, 109, 110, 111, 112, 113, 114, 115, 116, 117, 118, 119, 120, 121, 122]⟩
theorem low_ascii : ∀ (j : Nat) b, low.data.toList[j]? = some b → b.toNat < 128 := by
  intro j b h
  have : ∀ b ∈ low.data.toList, b.toNat < 128 := by decide
  exact this b (List.mem_of_getElem? h)
theorem f99 (Gl : Granted) (s : ByteArray) : Fun Tryz.prog Gl 190 [vS s, vS low] [] (vS ⟨(Lib.trimLeftS s.data.toList low.data.toList).toArray⟩) [] :=
  fun_vals [.string s, .string low] _ ⟨_, Tryz.func190, by kernel_rfl, rfl⟩ rfl fun w => Any.strings_TrimLeft_laid Tryz.lays161 (by kernel_rfl) s low w (by decide) low_ascii
theorem f86 (Gl : Granted) (s : ByteArray) (hs : s.size ≤ 9223372036854775807) : Fun Tryz.prog Gl 127 [vS s, vS low] [] (vS ⟨(Lib.trimS s.data.toList low.data.toList).toArray⟩) [] :=
  fun_vals [.string s, .string low] _ ⟨_, Tryz.func127, by kernel_rfl, rfl⟩ rfl fun w => Any.strings_Trim_laid Tryz.lays160 (by kernel_rfl) s low w hs (by decide) low_ascii
end Go.Proofs.D
/-
  WHAT IS A NAME.
-/
set_option linter.unusedVariables false
set_option linter.unusedSimpArgs false
namespace Go.Proofs.D
open Go Go.Abs
attribute [local simp] VC VCS stepVS stepTopS firstId memN bigB unmark markT mkOff calmP keepT boundB boundC stepV stepTop stepReg stepOp stMove stPick stBin stUn stConv stBox stAlloc stLoad stStore stFieldAddr stField stExtract stNilCheck stMakeFunc stIndexAddr stIndex stLen
  stBuild placesOf fillA stBuildSlice sliceCells repL chunks allPV toPV drawOk drawOk.go mayMakeO mayMake1 disjoint pairS Oper.apart Oper.looksAt Op.operands Call.operands Region.binds stAppend appBase appTail unName stSlice bndA
  LS.ev LS.get LS.blk LS.put LS.app LS.upd lkS lkH setS setH Nm.eqb guardOf nexts okPair dstOk AV.cellsOf takeAt putAt lkT sliceE fieldT intK isStrT isBoolT abin newOk LS.freshB LS.freshB.go LS.freshB.goH notIn AV.ments AV.ments.mentsL Blk.ments makes upsMents LS.start startL exitTo T Nat.blt
  conv convS convH srcs srcOf blkOk leA leA.leL Go.Abs.leB leP laid laidM laidG isArg subH retP resAV resL res1 AV.frz AV.frz.frzL evL AV.ren AV.ren.renL Blk.ren renBs blksOf allSome nodupB onlyArgs blksMents callUps keyed inName inName.go backName callSide
theorem dropWhile_nil {α : Type} (p : α → Bool) : ∀ l : List α, l.dropWhile p = [] ↔ ∀ x ∈ l, p x = true
  | [] => by simp
  | x :: l => by
    cases h : p x
    · simp [List.dropWhile, h]
    · simp [List.dropWhile, h, dropWhile_nil p l]
theorem trimS_nil (l cs : List UInt8) : Lib.trimS l cs = [] ↔ ∀ b ∈ l, cs.contains b = true := by
  unfold Lib.trimS Lib.trimLeftS Lib.trimRightS
  rw [dropWhile_nil]
  constructor
  · intro h b hb
    have e := List.takeWhile_append_dropWhile (p := (cs.contains ·)) (l := l.reverse)
    have hb' : b ∈ l.reverse := by simpa using hb
    rw [← e] at hb'
    rcases List.mem_append.1 hb' with h1 | h1
    · have : ∀ m : List UInt8, b ∈ m.takeWhile (cs.contains ·) → cs.contains b = true := by
        intro m
        induction m with
        | nil => simp
        | cons y m ih =>
          intro hm
          rw [List.takeWhile_cons] at hm
          cases hy : cs.contains y
          · rw [hy] at hm; simp at hm
          · rw [hy] at hm
            rcases List.mem_cons.1 hm with rfl | hm
            · exact hy
            · exact ih hm
      exact this _ h1
    · exact h b (by simpa using h1)
  · intro h b hb
    have : b ∈ l := by
      have := (List.dropWhile_sublist (cs.contains ·) (l := l.reverse)).subset (by simpa using hb)
      simpa using this
    exact h b this
theorem low_contains (b : UInt8) : low.data.toList.contains b = (decide (97 ≤ b.toNat) && decide (b.toNat ≤ 122)) := by
  have : (List.range 256).all (fun n => low.data.toList.contains (UInt8.ofNat n) == (decide (97 ≤ (UInt8.ofNat n).toNat) && decide ((UInt8.ofNat n).toNat ≤ 122))) = true := by decide +kernel
  have h := List.all_eq_true.1 this b.toNat (by simp; exact b.toNat_lt)
  simpa using h
theorem empty_iff (s : ByteArray) : s = ⟨#[]⟩ ↔ s.data.toList = [] := by
  obtain ⟨⟨l⟩⟩ := s
  simp
theorem f58 (Gl : Granted) (s : ByteArray) (hs : s.size ≤ 9223372036854775807) : Fun Tryz.prog Gl 86 [vS s] [] (vB (isName s)) [] := by
  refine fun_of (T := T) (n := 21) (rs := [.tmp 2]) Tryz.func86 (by kernel_rfl) rfl rfl rfl tok mixed (by simp) fun C hC => ?_
  refine hC.vc [] 60 ?_
  simp
  refine hC.call [] (f86 Gl s hs) (by simp [low]) ?_
  have h0 : (⟨(Lib.trimS s.data.toList low.data.toList).toArray⟩ : ByteArray) = ⟨#[]⟩ ↔ s.data.toList.all (fun c => decide (97 ≤ c.toNat) && decide (c.toNat ≤ 122)) = true := by
    rw [empty_iff, List.toList_toArray, trimS_nil, List.all_eq_true]
    exact forall_congr' fun b => imp_congr Iff.rfl (by rw [low_contains])
  have hsz : s = ⟨#[]⟩ ↔ ¬ 1 ≤ s.size := by
    rw [empty_iff]
    show _ ↔ ¬ 1 ≤ s.data.size
    rw [← Array.length_toList]
    cases s.data.toList <;> simp
  generalize (⟨(Lib.trimS s.data.toList low.data.toList).toArray⟩ : ByteArray) = t at h0 ⊢
  have hname : isName s = (decide (t = ⟨#[]⟩) && !decide (s = ⟨#[]⟩) && decide ((s.size : Int) ≤ 8) && !decide (s = ⟨#[116, 101, 120, 116]⟩)) := by
    rw [Bool.eq_iff_iff]
    simp only [isName, Bool.and_eq_true, Bool.not_eq_true', decide_eq_true_eq, decide_eq_false_iff_not, h0, hsz]
    constructor
    · rintro ⟨⟨⟨h1, h2⟩, h3⟩, h4⟩
      exact ⟨⟨⟨h3, fun h => h h1⟩, by omega⟩, h4⟩
    · rintro ⟨⟨⟨h3, h1⟩, h2⟩, h4⟩
      exact ⟨⟨⟨by omega, by omega⟩, h3⟩, h4⟩
  have e4 : (⟨#[116, 101, 120, 116]⟩ : ByteArray).size = 4 := rfl
  have e0 : (⟨#[]⟩ : ByteArray).size = 0 := rfl
  refine hC.vc [] 60 ?_
  by_cases a : t = ⟨#[]⟩
  · by_cases b : s = ⟨#[]⟩
    · have hr : isName s = false := by rw [hname]; simp [b]
      subst b
      simp [a, hr, e0]
    · by_cases c : (s.size : Int) ≤ 8
      · by_cases d : s = ⟨#[116, 101, 120, 116]⟩
        · have hr : isName s = false := by rw [hname]; simp [d]
          subst d
          simp [a, hr, e4]
        · simp [a, b, c, d, hname]
      · simp [a, b, c, hname]
  · simp [a, hname]
end Go.Proofs.D
/-
  THE LIBRARY'S FUNCTIONS: strings.Join.
-/
set_option linter.unusedVariables false
set_option linter.unusedSimpArgs false
namespace Go.Proofs.D
open Go Go.Abs Go.RowKit
def joinB (l : List ByteArray) (sep : ByteArray) : ByteArray := ⟨(Lib.join (l.map (·.data.toList)) sep.data.toList).toArray⟩
theorem str_cell {w : World} {F : Nat → Prop} {s : ByteArray} {v : Value} (h : RepP w F (.val (.string s)) v) : v = .string s := by
  cases h with
  | val _ _ => rfl
theorem f39 (Gl : Granted) (l : List ByteArray) (sep : ByteArray) (hN : l.length ≤ 140737488355328) (hlen : (joinB l sep).size ≤ 140737488355328) :
    Fun Tryz.prog Gl 72 [.pv (.ro 1 (l.map fun s => [.val (.string s)])), vS sep] [] (vS (joinB l sep)) [] := by
  refine fun_shelf ⟨_, Tryz.func72, by kernel_rfl, rfl⟩ fun w F cargs _ hF hlen' hr => ?_
  match cargs, hlen' with
  | [c0, c1], _ =>
    have h0 := hr 0 _ c0 rfl rfl
    have h1 := hr 1 _ c1 rfl rfl
    obtain rfl := bool_of h1
    cases h0 with
    | pv _ _ hp =>
      cases hp with
      | ro _ _ A cap u hA hc hm hl ha hrr =>
        by_cases hne : l = []
        · subst hne
          refine (Tryz.strings_Join_none A cap sep w).mono fun e w' ⟨he, hw⟩ => ⟨_, he, ?_, hw ▸ Below.refl _ _⟩
          exact .pv _ _ (.val _ rfl)
        · obtain ⟨ad, rfl, hs, hFa, hcell⟩ := ha (by simpa using hne)
          obtain ⟨bk, o, sp⟩ := ad
          simp only at hs
          subst hs
          have hl' : (l.map fun s => [PV.val (.string s)]).length = l.length := by simp
          rw [hl'] at hc ⊢
          refine (Tryz.strings_Join bk o cap l sep w (fun j x hx => ?_) (hF bk hFa) hN hc (by simpa [joinB, ByteArray.size] using hlen)).mono fun e w' ⟨he, hb⟩ => ⟨_, he, .pv _ _ (.val _ rfl), hb⟩
          have h2 := hcell j 0 [.val (.string x)] (.val (.string x)) (by simp [hx]) rfl
          have h3 := hrr j 0 [.val (.string x)] (.val (.string x)) (by simp [hx]) rfl
          rw [str_cell h3] at h2
          rw [← h2]
          congr 1
          unfold Addr.add
          split
          · rename_i h; simp at h; subst h; rfl
          · simp
end Go.Proofs.D
/-
  EXPRESSIONS: formed, right.
-/
set_option linter.unusedVariables false
set_option linter.unusedSimpArgs false
namespace Go.Proofs.D
open Go Go.Abs
attribute [local simp] VC VCS stepVS stepTopS firstId memN bigB unmark markT mkOff calmP keepT boundB boundC stepV stepTop stepReg stepOp stMove stPick stBin stUn stConv stBox stAlloc stLoad stStore stFieldAddr stField stExtract stNilCheck stMakeFunc stIndexAddr stIndex stLen
  stBuild placesOf fillA stBuildSlice sliceCells repL chunks allPV toPV drawOk drawOk.go mayMakeO mayMake1 disjoint pairS Oper.apart Oper.looksAt Op.operands Call.operands Region.binds stAppend appBase appTail unName stSlice bndA
  LS.ev LS.get LS.blk LS.put LS.app LS.upd lkS lkH setS setH Nm.eqb guardOf nexts okPair dstOk AV.cellsOf takeAt putAt lkT sliceE fieldT intK isStrT isBoolT abin newOk LS.freshB LS.freshB.go LS.freshB.goH notIn AV.ments AV.ments.mentsL Blk.ments makes upsMents LS.start startL exitTo T Nat.blt
  conv convS convH srcs srcOf blkOk leA leA.leL Go.Abs.leB leP laid laidM laidG isArg subH retP resAV resL res1 AV.frz AV.frz.frzL evL AV.ren AV.ren.renL Blk.ren renBs blksOf allSome nodupB onlyArgs blksMents callUps keyed inName inName.go backName callSide
theorem any_attach (f : E → Bool) (l : List E) : (l.attach.any fun k => f k.1) = l.any f := by
  have := List.any_map (l := l.attach) (f := Subtype.val) (p := f)
  rw [List.attach_map_subtype_val] at this
  exact this.symm
theorem E.ok_eq (e : E) : e.ok = if e.op = 110 then decide (e.kids.length = 0) && (isName e.name || decide (e.name = ⟨#[116, 101, 120, 116]⟩))
    else (decide (e.name = ⟨#[]⟩) && (if e.op = 115 then !decide ((e.kids.length : Int) = 1) else if e.op = 97 then decide (1 < (e.kids.length : Int)) else decide (e.op = 42 ∨ e.op = 43 ∨ e.op = 63) && decide ((e.kids.length : Int) = 1) && !(e.kids.any E.suffix)))
      && !(e.kids.any fun k => decide (k.op = e.op) || !k.ok) := by
  obtain ⟨op, name, kids⟩ := e
  rw [E.ok, any_attach fun k => decide (k.op = op) || !k.ok]
  rfl
set_option maxRecDepth 20000 in
set_option maxHeartbeats 1000000 in
theorem f33 (Gl : Granted) (e : E) (hs : e.small) : Fun Tryz.prog Gl 44 [e.av] [] (vB e.ok) [] := by
  have hcl : ∀ x ∈ e.kids, Fun Tryz.prog Gl 88 [x.av, .ptr (.arg 0) 0] [some (.box 24 e.cells)] (vB (decide (x.op = e.op) || !x.ok)) [some (.box 24 e.cells)] := fun x hx => f60 Gl x e (f33 Gl x (E.small_kids hs x hx))
  refine fun_of (T := T) (n := 72) (rs := [.tmp 2]) Tryz.func44 (by kernel_rfl) rfl rfl rfl tok mixed (by simp) fun C hC => ?_
  by_cases a : e.op = 110
  · by_cases hk : e.kids = []
    · refine hC.vc [] 200 ?_
      simp [E.av, E.cells, a, hk]
      refine hC.call [] (f58 Gl e.name (E.small_name hs)) (by simp) ?_
      refine hC.vc [] 200 ?_
      cases hn : isName e.name <;> simp [E.ok_eq e, a, hk, hn]
    · refine hC.vc [] 200 ?_
      simp [E.av, E.cells, a, hk, E.ok_eq e]
  · by_cases b : e.op = 115
    · skip
      by_cases hn : e.name = ⟨#[]⟩
      · by_cases hl : (e.kids.length : Int) = 1
        · skip
          refine hC.vc [] 200 ?_
          simp [E.av, E.cells, b, hn, hl, E.ok_eq e]
        · skip
          refine hC.vc [] 200 ?_
          simp [E.av, E.cells, b, hn, hl]
          refine hC.call [.loc 1] (f61 Gl e.kids e _ hcl) (by simp [E.cells, b, hn, hl]) ?_
          refine hC.vc [] 200 ?_
          simp [E.ok_eq e, b, hn, hl]
      · skip
        refine hC.vc [] 200 ?_
        simp [E.av, E.cells, b, hn, E.ok_eq e]
    · by_cases c : e.op = 97
      · skip
        by_cases hn : e.name = ⟨#[]⟩
        · by_cases hl : 1 < (e.kids.length : Int)
          · skip
            refine hC.vc [] 200 ?_
            simp [E.av, E.cells, c, hn, hl]
            refine hC.call [.loc 1] (f61 Gl e.kids e _ hcl) (by simp [E.cells, c, hn, hl]) ?_
            refine hC.vc [] 200 ?_
            simp [E.ok_eq e, c, hn, hl]
          · skip
            refine hC.vc [] 200 ?_
            simp [E.av, E.cells, c, hn, hl, E.ok_eq e]
        · skip
          refine hC.vc [] 200 ?_
          simp [E.av, E.cells, c, hn, E.ok_eq e]
      · by_cases hs : e.op = 42 ∨ e.op = 43 ∨ e.op = 63
        · by_cases hn : e.name = ⟨#[]⟩
          · by_cases hl : (e.kids.length : Int) = 1
            · obtain ⟨k, hk⟩ : ∃ k, e.kids = [k] := List.length_eq_one_iff.1 (by omega)
              rw [hk] at hcl
              rcases hs with d | d | d
              · refine hC.vc [] 200 ?_
                simp [E.av, E.cells, d, hn, hk, E.pv_eq k]
                refine hC.call [] (f59 Gl k) (by simp [E.av, E.cells]) ?_
                refine hC.vc [] 200 ?_
                cases hsx : k.suffix
                · simp [E.pv_eq k]
                  refine hC.call [.loc 1] (f61 Gl [k] e _ hcl) (by simp [E.cells, d, hn, hk, E.pv_eq k]) ?_
                  refine hC.vc [] 200 ?_
                  simp [E.ok_eq e, d, hn, hk, hsx]
                · simp [E.ok_eq e, d, hn, hk, hsx]
              · refine hC.vc [] 200 ?_
                simp [E.av, E.cells, d, hn, hk, E.pv_eq k]
                refine hC.call [] (f59 Gl k) (by simp [E.av, E.cells]) ?_
                refine hC.vc [] 200 ?_
                cases hsx : k.suffix
                · simp [E.pv_eq k]
                  refine hC.call [.loc 1] (f61 Gl [k] e _ hcl) (by simp [E.cells, d, hn, hk, E.pv_eq k]) ?_
                  refine hC.vc [] 200 ?_
                  simp [E.ok_eq e, d, hn, hk, hsx]
                · simp [E.ok_eq e, d, hn, hk, hsx]
              · refine hC.vc [] 200 ?_
                simp [E.av, E.cells, d, hn, hk, E.pv_eq k]
                refine hC.call [] (f59 Gl k) (by simp [E.av, E.cells]) ?_
                refine hC.vc [] 200 ?_
                cases hsx : k.suffix
                · simp [E.pv_eq k]
                  refine hC.call [.loc 1] (f61 Gl [k] e _ hcl) (by simp [E.cells, d, hn, hk, E.pv_eq k]) ?_
                  refine hC.vc [] 200 ?_
                  simp [E.ok_eq e, d, hn, hk, hsx]
                · simp [E.ok_eq e, d, hn, hk, hsx]
            · rcases hs with d | d | d <;>
                (refine hC.vc [] 200 ?_; simp [E.av, E.cells, d, hn, hl, E.ok_eq e])
          · rcases hs with d | d | d <;>
              (refine hC.vc [] 200 ?_; simp [E.av, E.cells, d, hn, E.ok_eq e])
        · have d1 : ¬ e.op = 42 := fun h => hs (.inl h)
          have d2 : ¬ e.op = 43 := fun h => hs (.inr (.inl h))
          have d3 : ¬ e.op = 63 := fun h => hs (.inr (.inr h))
          refine hC.vc [] 200 ?_
          simp [E.av, E.cells, a, b, c, d1, d2, d3, E.ok_eq e]
termination_by SizeOf.sizeOf e
decreasing_by exact E.kids_lt hx
end Go.Proofs.D
/-
  EXPRESSIONS: right; the reader's loop.
-/
set_option linter.unusedVariables false
set_option linter.unusedSimpArgs false
namespace Go.Proofs.D
open Go Go.Abs
attribute [local simp] VC VCS stepVS stepTopS firstId memN bigB unmark markT mkOff calmP keepT boundB boundC stepV stepTop stepReg stepOp stMove stPick stBin stUn stConv stBox stAlloc stLoad stStore stFieldAddr stField stExtract stNilCheck stMakeFunc stIndexAddr stIndex stLen
  stBuild placesOf fillA stBuildSlice sliceCells repL chunks allPV toPV drawOk drawOk.go mayMakeO mayMake1 disjoint pairS Oper.apart Oper.looksAt Op.operands Call.operands Region.binds stAppend appBase appTail unName stSlice bndA
  LS.ev LS.get LS.blk LS.put LS.app LS.upd lkS lkH setS setH Nm.eqb guardOf nexts okPair dstOk AV.cellsOf takeAt putAt lkT sliceE fieldT intK isStrT isBoolT abin newOk LS.freshB LS.freshB.go LS.freshB.goH notIn AV.ments AV.ments.mentsL Blk.ments makes upsMents LS.start startL exitTo T Nat.blt
  conv convS convH srcs srcOf blkOk leA leA.leL Go.Abs.leB leP laid laidM laidG isArg subH retP resAV resL res1 AV.frz AV.frz.frzL evL AV.ren AV.ren.renL Blk.ren renBs blksOf allSome nodupB onlyArgs blksMents callUps keyed inName inName.go backName callSide
def E.right (e : E) : Bool := decide (e.many ≤ 24) && e.ok
theorem f18 (Gl : Granted) (e : E) (hs : e.small) : Fun Tryz.prog Gl 16 [e.av] [] (vB e.right) [] := by
  refine fun_of (T := T) (n := 10) (rs := [.tmp 2]) Tryz.func16 (by kernel_rfl) rfl rfl rfl tok mixed (by simp) fun C hC => ?_
  refine hC.vc [] 60 ?_
  simp [E.av, E.cells]
  refine hC.call [] (f32 Gl e) (by simp [E.av, E.cells]) ?_
  refine hC.vc [] 60 ?_
  by_cases h : e.many ≤ 24
  · simp [h]
    refine hC.call [] (f33 Gl e hs) (by simp [E.av, E.cells]) ?_
    refine hC.vc [] 60 ?_
    simp [E.right, h]
  · simp [E.right, h]
structure St where
  left : ByteArray
  bad : Bool
  many : Int
abbrev St.b (s : St) : Blk := .box 163 [vS s.left, vB s.bad, vI s.many]
def St.cut (s : St) (sign : ByteArray) : St := { s with left := cutPre s.left sign }
/-- The rounds of a reader of several; n: how many rounds at most. -/
def rounds (read : St → E × St) (sign : ByteArray) : Nat → List E → St → List E × St
  | 0, l, s => (l, s)
  | n + 1, l, s => if s.bad = true then (l, s) else if hasPre s.left sign = true then rounds read sign n (l ++ [(read (s.cut sign)).1]) (read (s.cut sign)).2 else (l, s.cut sign)
def several (read : St → E × St) (op : Int) (sign : ByteArray) (s : St) : E × St :=
  let r := rounds read sign (s.left.size + 1) [(read s).1] (read s).2
  (match r.1 with
    | [e] => e
    | l => .mk op ⟨#[]⟩ l, r.2)
theorem cutPre_size (s p : ByteArray) (h : hasPre s p = true) : (cutPre s p).size = s.size - p.size := by
  simp [cutPre, h, ByteArray.size_extract]
theorem f53 (Gl : Granted) (read : St → E × St) (op : Int) (sign : ByteArray) (g : Nat) (I : St → Prop) (hr : ∀ s, I s → Fun Tryz.prog Gl g [.ptr (.arg 0) 0] [some s.b] (read s).1.av [some (read s).2.b])
    (hle : ∀ s, I s → (read s).2.left.size ≤ s.left.size) (hI : ∀ s, I s → (read s).2.bad = false → I (read s).2) (hcut : ∀ s, I s → hasPre s.left sign = true → I (s.cut sign)) (hsg : 1 ≤ sign.size) (s : St) (hs0 : I s) (hsz : s.left.size ≤ 1000000000) :
    Fun Tryz.prog Gl 125 [.ptr (.arg 0) 0, .pv (.val (.int .u8 op)), vS sign, .fn (.func g) [.ptr (.arg 0) 0] []] [some s.b] (several read op sign s).1.av [some (several read op sign s).2.b] := by
  refine fun_of (T := T) (n := 37) (rs := [.cell 8 24]) Tryz.func125 (by kernel_rfl) rfl rfl rfl tok mixed (by simp) fun C hC => ?_
  refine hC.vc [12] 60 ?_
  simp
  refine hC.call [.arg 0] (hr s hs0) (by simp [E.av, E.cells]) ?_
  refine hC.vc [12] 60 ?_
  simp [E.av, E.cells]
  obtain ⟨R, hR⟩ : ∃ R, rounds read sign (s.left.size + 1) [(read s).1] (read s).2 = R := ⟨_, rfl⟩
  have hsev : several read op sign s = (match R.1 with
    | [e] => e
    | l => .mk op ⟨#[]⟩ l, R.2) := by simp only [several, hR]
  refine go_loop (ι := {x : Nat × List E × St // (x.2.2.bad = false → I x.2.2) ∧ x.2.2.left.size < x.1 ∧ x.2.1.length + x.2.2.left.size ≤ s.left.size + 1 ∧ rounds read sign x.1 x.2.1 x.2.2 = R})
    (fun x => ⟨[(0, .ptr (.arg 0) 0), (1, .pv (.val (.int .u8 op))), (2, vS sign), (3, .fn (.func g) [.ptr (.arg 0) 0] []), (8, .ptr (.loc 8) 0), (9, .own (.can 0))],
      [(.arg 0, some x.1.2.2.b), (.loc 8, some (.box 24 [.pv (.val (.int .u8 0)), .pv (.val (.string ⟨#[]⟩)), .pv (.nilS 3)])), (.can 0, some (.row 24 3 (x.1.2.1.map E.pv)))]⟩)
    (fun x => x.1.1) ⟨(s.left.size + 1, [(read s).1], (read s).2), by have := hle s hs0; simp [hR]; exact ⟨hI s hs0, by omega, by omega⟩⟩ [(.can 0, .nm (.loc 12))] (by simp [E.pv_eq]) fun x ih => ?_
  obtain ⟨⟨n, l, r⟩, h0, h1, h2, h3⟩ := x
  simp only at h0 h1 h2 h3 ih
  obtain ⟨n, rfl⟩ : ∃ k, n = k + 1 := ⟨n - 1, by omega⟩
  simp only [rounds] at h3
  refine hC.vc [] 100 ?_
  have hleaf : ∀ (l : List E) (q : St), R = (l, q) → (∃ e, l = [e] ∧ several read op sign s = (e, q)) ∨ (¬ (l.length : Int) = 1 ∧ several read op sign s = (.mk op ⟨#[]⟩ l, q)) := by
    intro l q hq
    rw [hsev, hq]
    rcases l with _ | ⟨x, _ | ⟨y, l⟩⟩
    · exact .inr ⟨by simp, rfl⟩
    · exact .inl ⟨x, rfl, rfl⟩
    · exact .inr ⟨by simp; omega, rfl⟩
  by_cases hb : r.bad = true
  · rw [if_pos hb] at h3
    rcases hleaf l r h3.symm with ⟨e, rfl, hs⟩ | ⟨hl, hs⟩
    · simp [hb, E.pv_eq, hs, E.av, E.cells]
    · simp [hb, hl, hs, E.av, E.cells, E.op, E.name, E.kids]
  · rw [if_neg hb] at h3
    simp [hb]
    refine hC.call [.arg 0] (f81 Gl r.left sign r.bad r.many) (by simp [hb, rdB]) ?_
    refine hC.vc [] 100 ?_
    cases hp : hasPre r.left sign with
    | false =>
      rw [if_neg (by simp [hp])] at h3
      rcases hleaf l _ h3.symm with ⟨e, rfl, hs⟩ | ⟨hl, hs⟩
      · simp [rdB, E.pv_eq, hs, E.av, E.cells, St.cut]
      · simp [rdB, hl, hs, E.av, E.cells, E.op, E.name, E.kids, St.cut]
    | true =>
      rw [if_pos hp] at h3
      simp [rdB]
      have hIr := hcut r (h0 (by simpa using hb)) hp
      refine hC.call [.arg 0] (hr (r.cut sign) hIr) (by simp [E.av, E.cells, St.cut]) ?_
      refine hC.vc [] 100 ?_
      have hcs := cutPre_size r.left sign hp
      have hp1 := hasPre_le hp
      have hl2 := hle (r.cut sign) hIr
      simp [St.cut] at hl2
      simp [E.av, E.cells]
      refine ⟨by omega, ?_⟩
      exact go_to [(.can 0, .nm (.loc 27))] (ih ⟨(n, l ++ [(read (r.cut sign)).1], (read (r.cut sign)).2), hI _ hIr, by simp [St.cut]; omega, by simp [St.cut]; omega, h3⟩ (by simp)) (by simp [E.pv_eq])
end Go.Proofs.D
/-
  EXPRESSIONS: as they are written.
-/
set_option linter.unusedVariables false
set_option linter.unusedSimpArgs false
namespace Go.Proofs.D
open Go Go.Abs
attribute [local simp] VC VCS stepVS stepTopS firstId memN bigB unmark markT mkOff calmP keepT boundB boundC stepV stepTop stepReg stepOp stMove stPick stBin stUn stConv stBox stAlloc stLoad stStore stFieldAddr stField stExtract stNilCheck stMakeFunc stIndexAddr stIndex stLen
  stBuild placesOf fillA stBuildSlice sliceCells repL chunks allPV toPV drawOk drawOk.go mayMakeO mayMake1 disjoint pairS Oper.apart Oper.looksAt Op.operands Call.operands Region.binds stAppend appBase appTail unName stSlice bndA
  LS.ev LS.get LS.blk LS.put LS.app LS.upd lkS lkH setS setH Nm.eqb guardOf nexts okPair dstOk AV.cellsOf takeAt putAt lkT sliceE fieldT intK isStrT isBoolT abin newOk LS.freshB LS.freshB.go LS.freshB.goH notIn AV.ments AV.ments.mentsL Blk.ments makes upsMents LS.start startL exitTo T Nat.blt
  conv convS convH srcs srcOf blkOk leA leA.leL Go.Abs.leB leP laid laidM laidG isArg subH retP resAV resL res1 AV.frz AV.frz.frzL evL AV.ren AV.ren.renL Blk.ren renBs blksOf allSome nodupB onlyArgs blksMents callUps keyed inName inName.go backName callSide
def par (b : Bool) (s : ByteArray) : ByteArray := if b = true then ⟨#[40]⟩ ++ s ++ ⟨#[41]⟩ else s
def E.text : E → Bool → ByteArray
  | .mk op name kids, b =>
    if op = 110 then name
    else if op = 115 then (if kids.length = 0 then ⟨#[40, 41]⟩ else par b (joinB (go (!decide (op = 97)) kids) ⟨#[32]⟩))
    else if op = 97 then par b (joinB (go (!decide (op = 97)) kids) ⟨#[124]⟩)
    else joinB (go (!decide (op = 97)) kids) ⟨#[]⟩ ++ Utf8.encode (wr .i32 op)
where go (b : Bool) : List E → List ByteArray
  | [] => []
  | k :: l => k.text b :: go b l
theorem text_go (b : Bool) (l : List E) : E.text.go b l = l.map fun k => k.text b := by
  induction l with
  | nil => rfl
  | cons x l ih => simp [E.text.go, ih]
theorem text_eq (e : E) (b : Bool) : e.text b = (if e.op = 110 then e.name
    else if e.op = 115 then (if e.kids.length = 0 then ⟨#[40, 41]⟩ else par b (joinB (e.kids.map fun k => k.text (!decide (e.op = 97))) ⟨#[32]⟩))
    else if e.op = 97 then par b (joinB (e.kids.map fun k => k.text (!decide (e.op = 97))) ⟨#[124]⟩)
    else joinB (e.kids.map fun k => k.text (!decide (e.op = 97))) ⟨#[]⟩ ++ Utf8.encode (wr .i32 e.op)) := by
  obtain ⟨o, n, k⟩ := e
  simp only [E.text, text_go]
  rfl
def E.cnt : E → Nat
  | .mk _ _ kids => 1 + go kids
where go : List E → Nat
  | [] => 0
  | k :: l => k.cnt + go l
theorem cnt_eq (e : E) : e.cnt = 1 + (e.kids.map E.cnt).sum := by
  obtain ⟨o, n, k⟩ := e
  have : ∀ l, E.cnt.go l = (l.map E.cnt).sum := fun l => by induction l <;> simp [E.cnt.go, *]
  simp only [E.cnt, this]
  rfl
theorem cnt_kid {e k : E} (h : k ∈ e.kids) : k.cnt < e.cnt := by
  rw [cnt_eq e]
  have : ∀ l : List E, k ∈ l → k.cnt ≤ (l.map E.cnt).sum := by
    intro l
    induction l with
    | nil => intro h; cases h
    | cons x l ih =>
      intro h
      rcases List.mem_cons.1 h with rfl | h
      · simp
      · have := ih h; simp; omega
  have := this _ h
  omega
theorem join_len (xs : List (List UInt8)) (sep : List UInt8) : (Lib.join xs sep).length ≤ (xs.map fun x => x.length + sep.length).sum := by
  cases xs with
  | nil => simp [Lib.join_nil]
  | cons x r =>
    rw [Lib.join_cons]
    have : (Lib.joinTail sep r).length = (r.map fun x => x.length + sep.length).sum := by
      induction r with
      | nil => simp [Lib.joinTail]
      | cons y r ih => simp [Lib.joinTail] at ih ⊢; try omega
    simp only [List.length_append, this, List.map_cons, List.sum_cons]
    omega
theorem sum_le {α : Type} (l : List α) (f g : α → Nat) (h : ∀ x ∈ l, f x ≤ g x) : (l.map f).sum ≤ (l.map g).sum := by
  induction l with
  | nil => simp
  | cons x l ih =>
    have h1 := h x (by simp)
    have h2 := ih fun y hy => h y (by simp [hy])
    simp
    omega
theorem sum_mul (l : List E) : (l.map fun k => 16 * k.cnt).sum = 16 * (l.map E.cnt).sum := by
  induction l with
  | nil => simp
  | cons x l ih => simp [ih]; omega
theorem par_size (b : Bool) (s : ByteArray) : (par b s).size ≤ s.size + 2 := by
  unfold par
  split
  · simp [ByteArray.size_append]
    have e1 : (⟨#[40]⟩ : ByteArray).size = 1 := rfl
    have e2 : (⟨#[41]⟩ : ByteArray).size = 1 := rfl
    omega
  · omega
theorem isName_size {s : ByteArray} (h : isName s = true) : s.size ≤ 8 := by
  simp [isName] at h
  exact h.1.1.2
theorem ok_name {e : E} (h : e.ok = true) : e.name.size ≤ 8 := by
  rw [E.ok_eq] at h
  by_cases h1 : e.op = 110
  · simp [h1] at h
    rcases h.2 with h | h
    · exact isName_size h
    · rw [h]; decide
  · simp [h1] at h
    rw [h.1.1]; decide
theorem join_size (l : List ByteArray) (sep : ByteArray) : (joinB l sep).size ≤ (l.map fun x => x.size + sep.size).sum := by
  have := join_len (l.map (·.data.toList)) sep.data.toList
  simp only [List.map_map] at this
  have e1 : (joinB l sep).size = (Lib.join (l.map (·.data.toList)) sep.data.toList).length := by simp [joinB, ByteArray.size]
  rw [e1]
  refine Nat.le_trans this (Nat.le_of_eq ?_)
  congr 1
theorem enc42 : Utf8.encode (wr .i32 42) = ⟨#[42]⟩ := by kernel_rfl
theorem enc43 : Utf8.encode (wr .i32 43) = ⟨#[43]⟩ := by kernel_rfl
theorem enc63 : Utf8.encode (wr .i32 63) = ⟨#[63]⟩ := by kernel_rfl
theorem E.ok_opsS {e : E} (h : e.ok = true) (h1 : ¬ e.op = 110) (h2 : ¬ e.op = 115) (h3 : ¬ e.op = 97) : e.op = 42 ∨ e.op = 43 ∨ e.op = 63 := by
  rw [E.ok_eq, if_neg h1] at h
  simp [h2, h3] at h
  exact h.1.2.1.1
theorem e40 : (⟨#[40]⟩ : ByteArray).size = 1 := rfl
theorem e41 : (⟨#[41]⟩ : ByteArray).size = 1 := rfl
theorem kids_le (e : E) : e.kids.length ≤ e.cnt := by
  have : ∀ l : List E, l.length ≤ (l.map E.cnt).sum := fun l => by
    induction l with
    | nil => simp
    | cons x l ih => have : 1 ≤ x.cnt := (by rw [cnt_eq]; omega); simp; omega
  have := this e.kids
  have := cnt_eq e
  omega
def E.szOk (e : E) : Prop := ∀ b, (e.text b).size + 8 ≤ 16 * e.cnt
theorem join_bound' (e : E) (hk : ∀ k ∈ e.kids, k.szOk) (sep : ByteArray) (hs : sep.size ≤ 1) : (joinB (e.kids.map fun k => k.text (!decide (e.op = 97))) sep).size ≤ 16 * (e.cnt - 1) := by
  refine Nat.le_trans (join_size _ _) ?_
  rw [List.map_map, cnt_eq e, Nat.add_sub_cancel_left, ← sum_mul]
  exact sum_le _ _ _ fun k hk' => by have := hk k hk' (!decide (e.op = 97)); simp; omega
theorem text_size (e : E) (b : Bool) (h : e.ok = true) : (e.text b).size + 8 ≤ 16 * e.cnt := by
  have hn := ok_name h
  have hc : 1 ≤ e.cnt := by rw [cnt_eq]; omega
  by_cases h1 : e.op = 110
  · rw [text_eq, if_pos h1]; omega
  · have hk : ∀ k ∈ e.kids, ∀ b, (k.text b).size + 8 ≤ 16 * k.cnt := fun k hk b => text_size k b (by
      rw [E.ok_eq, if_neg h1] at h
      simp at h
      exact (h.2 k hk).2)
    have hj : ∀ sep : ByteArray, sep.size ≤ 1 → (joinB (e.kids.map fun k => k.text (!decide (e.op = 97))) sep).size ≤ 16 * (e.cnt - 1) := fun sep hs => by
      refine Nat.le_trans (join_size _ _) ?_
      rw [List.map_map, cnt_eq e, Nat.add_sub_cancel_left, ← sum_mul]
      exact sum_le _ _ _ fun k hk' => by have := hk k hk' (!decide (e.op = 97)); simp; omega
    have hc1 : 16 * (e.cnt - 1) + 16 = 16 * e.cnt := by omega
    rw [text_eq, if_neg h1]
    split
    · split
      · have : (⟨#[40, 41]⟩ : ByteArray).size = 2 := rfl
        omega
      · have := hj ⟨#[32]⟩ (by decide)
        have := par_size b (joinB (e.kids.map fun k => k.text (!decide (e.op = 97))) ⟨#[32]⟩)
        omega
    · split
      · have := hj ⟨#[124]⟩ (by decide)
        have := par_size b (joinB (e.kids.map fun k => k.text (!decide (e.op = 97))) ⟨#[124]⟩)
        omega
      · rename_i h2 h3
        rw [E.ok_eq, if_neg h1] at h
        simp [h2, h3] at h
        have := hj ⟨#[]⟩ (by decide)
        have he : (Utf8.encode (wr .i32 e.op)).size ≤ 4 := by
          rcases h.1.2.1.1 with h | h | h <;> rw [h]
          · rw [enc42]; decide
          · rw [enc43]; decide
          · rw [enc63]; decide
        rw [ByteArray.size_append]
        omega
termination_by SizeOf.sizeOf e
decreasing_by exact E.kids_lt hk
theorem join_bound (e : E) (h : e.ok = true) (h1 : ¬ e.op = 110) (sep : ByteArray) (hs : sep.size ≤ 1) : (joinB (e.kids.map fun k => k.text (!decide (e.op = 97))) sep).size ≤ 16 * (e.cnt - 1) :=
  join_bound' e (fun k hk b => text_size k b (by
    rw [E.ok_eq, if_neg h1] at h
    simp at h
    exact (h.2 k hk).2)) sep hs
set_option maxRecDepth 20000 in
theorem f31 (Gl : Granted) (e : E) (b : Bool) (hok : e.ok = true) (hc : e.cnt ≤ 1000000) : Fun Tryz.prog Gl 112 [e.av, vB b] [] (vS (e.text b)) [] := by
  have hk : ∀ k ∈ e.kids, ∀ b, Fun Tryz.prog Gl 112 [k.av, vB b] [] (vS (k.text b)) [] := fun k hk b => f31 Gl k b (by
    rw [E.ok_eq] at hok
    by_cases h1 : e.op = 110
    · simp [h1] at hok
      rw [hok.1] at hk
      cases hk
    · rw [if_neg h1] at hok
      simp at hok
      exact (hok.2 k hk).2) (by have := cnt_kid hk; omega)
  refine fun_of (T := T) (n := 55) (rs := [.tmp 4]) Tryz.func112 (by kernel_rfl) rfl rfl rfl tok mixed (by simp) fun C hC => ?_
  refine hC.vc [] 9 ?_
  simp [E.av, E.cells]
  obtain ⟨ts, hts⟩ : ∃ ts : List ByteArray, (e.kids.map fun k => k.text (!decide (e.op = 97))) = ts := ⟨_, rfl⟩
  refine go_cut (ι := Unit) (fun _ => ⟨[(1, vB b), (2, .ptr (.loc 2) 0), (5, .pv (.ro 1 (ts.map fun s => [.val (.string s)])))], [(.loc 2, some (.box 24 e.cells))]⟩) (fun _ => ?_) (fun tail => ?_)
  · skip
    have hlen : ts.length ≤ 140737488355328 := by
      rw [← hts, List.length_map]
      have := kids_le e
      omega
    have hj : ¬ e.op = 110 → ∀ sep : ByteArray, sep.size ≤ 1 → (joinB ts sep).size ≤ 140737488355328 := fun h1 sep hs => by
      have := join_bound e hok h1 sep hs
      rw [hts] at this
      omega
    refine hC.vc [] 60 ?_
    have ht := text_eq e b
    rw [hts] at ht
    by_cases h1 : e.op = 110
    · rw [if_pos h1] at ht
      simp [E.cells, h1, ht]
    · by_cases h2 : e.op = 115
      · by_cases h0 : e.kids = []
        · simp [h0, h2] at ht
          simp [E.cells, h2, h0, ht]
        · rw [if_neg h1, if_pos h2, if_neg (by simpa using h0)] at ht
          simp [E.cells, h2, h0]
          refine hC.call [] (f39 Gl ts ⟨#[32]⟩ hlen (hj h1 _ (by decide))) (by simp) ?_
          refine hC.vc [] 60 ?_
          have := hj h1 ⟨#[32]⟩ (by decide)
          cases b <;> simp [ht, par, e40, e41]
          omega
      · rw [if_neg h1, if_neg h2] at ht
        by_cases h3 : e.op = 97
        · rw [if_pos h3] at ht
          simp [E.cells, h3]
          refine hC.call [] (f39 Gl ts ⟨#[124]⟩ hlen (hj h1 _ (by decide))) (by simp) ?_
          refine hC.vc [] 60 ?_
          have := hj h1 ⟨#[124]⟩ (by decide)
          cases b <;> simp [ht, par, e40, e41]
          omega
        · rw [if_neg h3] at ht
          simp [E.cells, h1, h2, h3]
          refine hC.call [] (f39 Gl ts ⟨#[]⟩ hlen (hj h1 _ (by decide))) (by simp) ?_
          refine hC.vc [] 60 ?_
          have := hj h1 ⟨#[]⟩ (by decide)
          have he : (Utf8.encode (wr .i32 e.op)).size ≤ 4 := by
            rcases E.ok_opsS hok h1 h2 h3 with h | h | h <;> rw [h]
            · rw [enc42]; decide
            · rw [enc43]; decide
            · rw [enc63]; decide
          simp [ht]
          omega
  · refine hC.vc [] 20 ?_
    simp
    refine go_len 10 3 (e.kids.map E.pv) (by simp) fun hl => ?_
    rw [List.length_map] at hl
    refine go_loop (ι := {i : Nat // i ≤ e.kids.length}) (fun x => ⟨[(1, vB b), (2, .ptr (.loc 2) 0), (5, .own (.can 0)), (10, .pv (.ro 3 (e.kids.map E.pv))), (11, vI e.kids.length), (12, vI x.1)],
        [(.loc 2, some (.box 24 e.cells)), (.can 0, some (.row 9 1 ((ts.take x.1).map fun s => [.val (.string s)])))]⟩) (fun x => e.kids.length - x.1) ⟨0, Nat.zero_le _⟩ [(.can 0, .nil)] (by simp [E.cells]) fun x ih => ?_
    obtain ⟨i, hi⟩ := x
    simp only at hi ih
    have htl : ts.length = e.kids.length := by rw [← hts, List.length_map]
    have hkl := kids_le e
    by_cases hlt : i < e.kids.length
    · have hti : ts[i]? = some (e.kids[i].text (!decide (e.op = 97))) := by rw [← hts, List.getElem?_map, List.getElem?_eq_getElem hlt]; rfl
      have htk : ts.take (i + 1) = ts.take i ++ [e.kids[i].text (!decide (e.op = 97))] := by rw [List.take_add_one, hti]; rfl
      have hw1 := wr64 ((i : Int) + 1) (by omega)
      refine hC.vc [] 60 ?_
      by_cases h97 : e.op = 97
      · simp [hlt, E.pv_eq, E.cells, h97]
        refine hC.call [] (hk e.kids[i] (by simp) false) (by simp [E.av, E.cells]) ?_
        refine hC.vc [] 60 ?_
        simp [h97] at htk
        simp
        refine ⟨by omega, ?_⟩
        exact go_to [(.can 0, .nm (.loc 23))] (ih ⟨i + 1, hlt⟩ (by simp; omega)) (by simp [hw1, E.cells, htk, h97])
      · simp [hlt, E.pv_eq, E.cells, h97]
        refine hC.call [] (hk e.kids[i] (by simp) true) (by simp [E.av, E.cells]) ?_
        refine hC.vc [] 60 ?_
        simp [h97] at htk
        simp
        refine ⟨by omega, ?_⟩
        exact go_to [(.can 0, .nm (.loc 23))] (ih ⟨i + 1, hlt⟩ (by simp; omega)) (by simp [hw1, E.cells, htk])
    · refine hC.vc [] 7 ?_
      simp [hlt]
      have : (ts.map fun s => [PV.val (.string s)]).take i = ts.map fun s => [PV.val (.string s)] := List.take_of_length_le (by simp; omega)
      exact go_to [] (tail ()) (by simp [this, E.cells])
termination_by SizeOf.sizeOf e
decreasing_by exact E.kids_lt hk
end Go.Proofs.D
/-
  WHAT A RIGHT EXPRESSION IS MADE OF.
-/
set_option linter.unusedVariables false
set_option linter.unusedSimpArgs false
namespace Go.Proofs.D
open Go Go.Abs
theorem E.ok_kids {e : E} (h : e.ok = true) (hop : ¬ e.op = 110) : ∀ k ∈ e.kids, k.ok = true ∧ k.op ≠ e.op := by
  rw [E.ok_eq, if_neg hop] at h
  simp at h
  intro k hk
  have := h.2 k hk
  exact ⟨this.2, this.1⟩
theorem E.ok_ops {e : E} (h : e.ok = true) : (e.op = 110 ∧ e.kids = []) ∨ (e.op = 115 ∧ e.name = ⟨#[]⟩ ∧ e.kids.length ≠ 1) ∨ (e.op = 97 ∧ e.name = ⟨#[]⟩ ∧ 1 < e.kids.length) ∨ ((e.op = 42 ∨ e.op = 43 ∨ e.op = 63) ∧ e.name = ⟨#[]⟩ ∧ ∃ k, e.kids = [k] ∧ k.suffix = false) := by
  rw [E.ok_eq] at h
  by_cases h1 : e.op = 110
  · simp [h1] at h
    exact .inl ⟨h1, h.1⟩
  · by_cases h2 : e.op = 115
    · simp [h2] at h
      exact .inr (.inl ⟨h2, h.1.1, fun hl => h.1.2 (by omega)⟩)
    · by_cases h3 : e.op = 97
      · simp [h3] at h
        exact .inr (.inr (.inl ⟨h3, h.1.1, by omega⟩))
      · simp [h1, h2, h3] at h
        obtain ⟨⟨a1, ⟨a2, a3⟩, a4⟩, _⟩ := h
        refine .inr (.inr (.inr ⟨a2, a1, ?_⟩))
        match hk : e.kids, a3, a4 with
        | [k], _, a4 => exact ⟨k, rfl, a4 k (by simp)⟩
        | [], a3, _ => simp at a3
        | _ :: _ :: _, a3, _ => simp at a3; omega
end Go.Proofs.D
/-
  THE READER: one item, sequences, alternatives.
-/
set_option linter.unusedVariables false
set_option linter.unusedSimpArgs false
namespace Go.Proofs.D
open Go Go.Abs
attribute [local simp] VC VCS stepVS stepTopS firstId memN bigB unmark markT mkOff calmP keepT boundB boundC stepV stepTop stepReg stepOp stMove stPick stBin stUn stConv stBox stAlloc stLoad stStore stFieldAddr stField stExtract stNilCheck stMakeFunc stIndexAddr stIndex stLen
  stBuild placesOf fillA stBuildSlice sliceCells repL chunks allPV toPV drawOk drawOk.go mayMakeO mayMake1 disjoint pairS Oper.apart Oper.looksAt Op.operands Call.operands Region.binds stAppend appBase appTail unName stSlice bndA
  LS.ev LS.get LS.blk LS.put LS.app LS.upd lkS lkH setS setH Nm.eqb guardOf nexts okPair dstOk AV.cellsOf takeAt putAt lkT sliceE fieldT intK isStrT isBoolT abin newOk LS.freshB LS.freshB.go LS.freshB.goH notIn AV.ments AV.ments.mentsL Blk.ments makes upsMents LS.start startL exitTo T Nat.blt
  conv convS convH srcs srcOf blkOk leA leA.leL Go.Abs.leB leP laid laidM laidG isArg subH retP resAV resL res1 AV.frz AV.frz.frzL evL AV.ren AV.ren.renL Blk.ren renBs blksOf allSome nodupB onlyArgs blksMents callUps keyed inName inName.go backName callSide
def lowS : ByteArray := ⟨#[97, 98, 99, 100, 101, 102, 103, 104, 105, 106, 107, 108, 109, 110, 111, 112, 113, 114, 115, 116, 117, 118, 119, 120, 121, 122]⟩
def E.none : E := .mk 0 ⟨#[]⟩ []
def sfx (e : E) : List Int → St → E × St
  | [], s => (e, s)
  | o :: l, s => if hasPre s.left (Utf8.encode (wr .i32 o)) = true then (.mk o ⟨#[]⟩ [e], s.cut (Utf8.encode (wr .i32 o))) else sfx e l (s.cut (Utf8.encode (wr .i32 o)))
def baseF (tl : ByteArray → ByteArray) (alt : St → E × St) (s : St) : E × St :=
  if hasPre s.left ⟨#[40, 41]⟩ = true then (.mk 115 ⟨#[]⟩ [], s.cut ⟨#[40, 41]⟩)
  else
    let s2 := s.cut ⟨#[40, 41]⟩
    if hasPre s2.left ⟨#[40]⟩ = true then
      let r := alt (s2.cut ⟨#[40]⟩)
      (r.1, { left := cutPre r.2.left ⟨#[41]⟩, bad := !hasPre r.2.left ⟨#[41]⟩ || r.2.bad, many := r.2.many })
    else
      let s3 := s2.cut ⟨#[40]⟩
      (.mk 110 (s3.left.extract 0 (s3.left.size - (tl s3.left).size)) [], { s3 with left := tl s3.left })
def itemF (tl : ByteArray → ByteArray) (alt : St → E × St) (s : St) : E × St :=
  let s1 : St := { s with many := wr .i64 (s.many + 1) }
  if 48 < s1.many then (E.none, { s1 with bad := true })
  else sfx (baseF tl alt s1).1 [42, 43, 63] (baseF tl alt s1).2
set_option maxRecDepth 20000 in
theorem f82 (Gl : Granted) (tl : ByteArray → ByteArray) (h99 : ∀ s, Fun Tryz.prog Gl 190 [vS s, vS lowS] [] (vS (tl s)) []) (htl : ∀ s, (tl s).size ≤ s.size) (alt : St → E × St) (s : St) (hs9 : s.left.size ≤ 1000000000)
    (ha : ∀ r : St, wr .i64 (s.many + 1) = r.many → r.bad = s.bad → r.left.size ≤ s.left.size → ¬ 48 < r.many → Fun Tryz.prog Gl 85 [.ptr (.arg 0) 0] [some r.b] (alt r).1.av [some (alt r).2.b]) :
    Fun Tryz.prog Gl 158 [.ptr (.arg 0) 0] [some s.b] (itemF tl alt s).1.av [some (itemF tl alt s).2.b] := by
  refine fun_of (T := T) (n := 84) (rs := [.cell 2 24]) Tryz.func158 (by kernel_rfl) rfl rfl rfl tok mixed (by simp) fun C hC => ?_
  by_cases h48 : 48 < wr .i64 (s.many + 1)
  · refine hC.vc [] 100 ?_
    simp [h48, itemF, E.none, E.av, E.cells, E.op, E.name, E.kids]
  · refine hC.vc [] 30 ?_
    simp [h48]
    obtain ⟨e, r, hB⟩ : ∃ e r, baseF tl alt { s with many := wr .i64 (s.many + 1) } = (e, r) := ⟨_, _, rfl⟩
    have hit : itemF tl alt s = sfx e [42, 43, 63] r := by simp only [itemF, if_neg h48, hB]
    refine go_cut (ι := Unit) (fun _ => ⟨[(0, .ptr (.arg 0) 0), (2, .ptr (.loc 2) 0), (3, .ptr (.loc 3) 0)], [(.arg 0, some r.b), (.loc 2, some (.box 24 [.pv (.val (.int .u8 0)), .pv (.val (.string ⟨#[]⟩)), .pv (.nilS 3)])), (.loc 3, some (.box 24 e.cells))]⟩) (fun _ => ?_) (fun tail => ?_)
    · refine hC.vc [] 20 ?_
      simp [E.cells]
      refine go_first ?_
      refine hC.vc [] 40 ?_
      simp [E.cells, wr64]
      refine hC.call [.arg 0] (f81 Gl r.left (Utf8.encode (wr .i32 42)) r.bad r.many) (by simp [rdB, E.cells, St.cut]) ?_
      refine hC.vc [] 60 ?_
      cases p0 : hasPre r.left (Utf8.encode (wr .i32 42)) with
      | true =>
        simp [rdB, E.cells, E.av, hit, sfx, St.cut, E.op, E.name, E.kids, E.pv_eq, p0]
      | false =>
        simp [rdB, E.cells, St.cut, wr64]
        refine go_again ?_
        refine hC.vc [] 40 ?_
        simp [E.cells, wr64]
        refine hC.call [.arg 0] (f81 Gl (r.cut (Utf8.encode (wr .i32 42))).left (Utf8.encode (wr .i32 43)) (r.cut (Utf8.encode (wr .i32 42))).bad (r.cut (Utf8.encode (wr .i32 42))).many) (by simp [rdB, E.cells, St.cut]) ?_
        refine hC.vc [] 60 ?_
        cases p1 : hasPre (r.cut (Utf8.encode (wr .i32 42))).left (Utf8.encode (wr .i32 43)) with
        | true =>
          simp [St.cut] at p0 p1
          simp [rdB, E.cells, E.av, hit, sfx, St.cut, E.op, E.name, E.kids, E.pv_eq, p0, p1]
        | false =>
          simp [rdB, E.cells, St.cut, wr64]
          refine go_again ?_
          refine hC.vc [] 40 ?_
          simp [E.cells, wr64]
          refine hC.call [.arg 0] (f81 Gl ((r.cut (Utf8.encode (wr .i32 42))).cut (Utf8.encode (wr .i32 43))).left (Utf8.encode (wr .i32 63)) ((r.cut (Utf8.encode (wr .i32 42))).cut (Utf8.encode (wr .i32 43))).bad ((r.cut (Utf8.encode (wr .i32 42))).cut (Utf8.encode (wr .i32 43))).many) (by simp [rdB, E.cells, St.cut]) ?_
          refine hC.vc [] 60 ?_
          cases p2 : hasPre ((r.cut (Utf8.encode (wr .i32 42))).cut (Utf8.encode (wr .i32 43))).left (Utf8.encode (wr .i32 63)) with
          | true =>
            simp [St.cut] at p0 p1 p2
            simp [rdB, E.cells, E.av, hit, sfx, St.cut, E.op, E.name, E.kids, E.pv_eq, p0, p1, p2]
          | false =>
            simp [St.cut] at p0 p1 p2
            simp [rdB, E.cells, St.cut, wr64]
            refine go_again ?_
            refine hC.vc [] 60 ?_
            simp [rdB, E.cells, E.av, hit, sfx, St.cut, E.op, E.name, E.kids, E.pv_eq, p0, p1, p2]
    · refine hC.vc [] 20 ?_
      simp
      refine hC.call [.arg 0] (f81 Gl s.left ⟨#[40, 41]⟩ s.bad (wr .i64 (s.many + 1))) (by simp [rdB]) ?_
      cases hp : hasPre s.left ⟨#[40, 41]⟩ with
      | true =>
        simp [baseF, hp] at hB
        obtain ⟨rfl, rfl⟩ := hB
        refine hC.vc [] 8 ?_
        simp [rdB]
        exact go_to [] (tail ()) (by simp [E.cells, St.cut, E.op, E.name, E.kids])
      | false =>
        refine hC.vc [] 20 ?_
        simp [rdB]
        refine hC.call [.arg 0] (f81 Gl (cutPre s.left ⟨#[40, 41]⟩) ⟨#[40]⟩ s.bad (wr .i64 (s.many + 1))) (by simp [rdB]) ?_
        have hsz : (cutPre (cutPre s.left ⟨#[40, 41]⟩) ⟨#[40]⟩).size ≤ s.left.size := by
          simp [cutPre, hp]
          split
          · simp [ByteArray.size_extract]
          · exact Nat.le_refl _
        cases hp2 : hasPre (cutPre s.left ⟨#[40, 41]⟩) ⟨#[40]⟩ with
        | true =>
          simp [baseF, hp, hp2, St.cut] at hB
          refine hC.vc [] 20 ?_
          simp [rdB]
          refine hC.call [.arg 0] (ha ⟨cutPre (cutPre s.left ⟨#[40, 41]⟩) ⟨#[40]⟩, s.bad, wr .i64 (s.many + 1)⟩ rfl rfl hsz h48) (by simp [E.av, E.cells]) ?_
          generalize hal : alt ⟨cutPre (cutPre s.left ⟨#[40, 41]⟩) ⟨#[40]⟩, s.bad, wr .i64 (s.many + 1)⟩ = al at hB ⊢
          obtain ⟨rfl, rfl⟩ := hB
          refine hC.vc [] 20 ?_
          simp [E.av, E.cells]
          refine hC.call [.arg 0] (f81 Gl al.2.left ⟨#[41]⟩ al.2.bad al.2.many) (by simp [rdB]) ?_
          cases hp3 : hasPre al.2.left ⟨#[41]⟩ with
          | true =>
            refine hC.vc [] 12 ?_
            simp [rdB]
            exact go_to [] (tail ()) (by simp [E.cells, hp3])
          | false =>
            refine hC.vc [] 12 ?_
            simp [rdB]
            exact go_to [] (tail ()) (by simp [E.cells, hp3])
        | false =>
          simp [baseF, hp, hp2, St.cut] at hB
          obtain ⟨rfl, rfl⟩ := hB
          refine hC.vc [] 20 ?_
          simp [rdB]
          refine hC.call [] (h99 (cutPre (cutPre s.left ⟨#[40, 41]⟩) ⟨#[40]⟩)) (by simp [lowS]) ?_
          have hle := htl (cutPre (cutPre s.left ⟨#[40, 41]⟩) ⟨#[40]⟩)
          have hw := wr64 ((cutPre (cutPre s.left ⟨#[40, 41]⟩) ⟨#[40]⟩).size - (tl (cutPre (cutPre s.left ⟨#[40, 41]⟩) ⟨#[40]⟩)).size : Int) (by omega)
          refine hC.vc [] 28 ?_
          simp [hw]
          refine ⟨by omega, ?_⟩
          exact go_to [] (tail ()) (by simp [E.cells, E.op, E.name, E.kids])
end Go.Proofs.D
/-
  EXPRESSIONS, NAME BY NAME: what may be left of one behind a name; all that may ever be left of it.
-/
set_option linter.unusedVariables false
set_option linter.unusedSimpArgs false
namespace Go.Proofs.D
open Go Go.Abs
abbrev Rest := List E
/-- May there be no name at all? -/
def E.nul : E → Bool
  | .mk op _ kids =>
    if op = 110 then false
    else if op = 97 then anyN kids
    else if op = 115 then allN kids
    else if op = 63 then true
    else if op = 42 then true
    else anyN kids
where
  anyN : List E → Bool
  | [] => false
  | k :: l => k.nul || anyN l
  allN : List E → Bool
  | [] => true
  | k :: l => k.nul && allN l
theorem nul_eq (e : E) : e.nul = if e.op = 110 then false else if e.op = 97 then E.nul.anyN e.kids else if e.op = 115 then E.nul.allN e.kids else if e.op = 63 then true else if e.op = 42 then true else E.nul.anyN e.kids := by
  obtain ⟨o, n, k⟩ := e
  rw [E.nul]
  rfl
def restL (r : Rest) : Row → Prop := E.L.seqL r
theorem restL_nil (w : Row) : restL [] w ↔ w = [] := Iff.rfl
theorem restL_cons (k : E) (r : Rest) (w : Row) : restL (k :: r) w ↔ ∃ u v, w = u ++ v ∧ k.L u ∧ restL r v := Iff.rfl
theorem restL_append (r s : Rest) (w : Row) : restL (r ++ s) w ↔ ∃ u v, w = u ++ v ∧ restL r u ∧ restL s v := by
  induction r generalizing w with
  | nil =>
    simp only [List.nil_append, restL_nil]
    exact ⟨fun h => ⟨[], w, rfl, rfl, h⟩, fun ⟨u, v, h1, h2, h3⟩ => by subst h2; simpa [h1] using h3⟩
  | cons k r ih =>
    simp only [List.cons_append, restL_cons, ih]
    constructor
    · rintro ⟨u, v, rfl, h1, u', v', rfl, h2, h3⟩
      exact ⟨u ++ u', v', by simp, ⟨u, u', rfl, h1, h2⟩, h3⟩
    · rintro ⟨u, v, rfl, ⟨u', v', rfl, h1, h2⟩, h3⟩
      exact ⟨u', v' ++ v, by simp, h1, v', v, rfl, h2, h3⟩
theorem restL_one (e : E) (w : Row) : restL [e] w ↔ e.L w := by
  simp only [restL_cons, restL_nil]
  exact ⟨fun ⟨u, v, h1, h2, h3⟩ => by subst h3; simpa [h1] using h2, fun h => ⟨w, [], by simp, h, rfl⟩⟩
theorem many_nil (p : Row → Prop) : Many p [] ↔ p [] := ⟨fun h => h.nil rfl, .one⟩
theorem ok_one {e : E} (h : e.ok = true) (h1 : e.op = 42 ∨ e.op = 43 ∨ e.op = 63) : ∃ k, e.kids = [k] := by
  rcases E.ok_ops h with ⟨g, _⟩ | ⟨g, _⟩ | ⟨g, _⟩ | ⟨_, _, x, g, _⟩
  · omega
  · omega
  · omega
  · exact ⟨x, g⟩
theorem ok_kid {e k : E} (h : e.ok = true) (hk : k ∈ e.kids) : k.ok = true := by
  by_cases h1 : e.op = 110
  · rcases E.ok_ops h with ⟨_, g⟩ | ⟨g, _⟩ | ⟨g, _⟩ | ⟨g, _⟩
    · rw [g] at hk; cases hk
    · omega
    · omega
    · omega
  · exact (E.ok_kids h h1 k hk).1
theorem ok_cases {e : E} (h : e.ok = true) : e.op = 110 ∨ e.op = 97 ∨ e.op = 115 ∨ e.op = 63 ∨ e.op = 42 ∨ e.op = 43 := by
  rcases E.ok_ops h with ⟨g, _⟩ | ⟨g, _⟩ | ⟨g, _⟩ | ⟨g, _⟩ <;> omega
theorem nul_iff (e : E) (hok : e.ok = true) : e.nul = true ↔ e.L [] := by
  have hA : ∀ l : List E, (∀ k ∈ l, (k.nul = true ↔ k.L [])) → (E.nul.anyN l = true ↔ E.L.altL l []) := by
    intro l
    induction l with
    | nil => intro _; simp [E.nul.anyN, E.L.altL]
    | cons k l ih =>
      intro h
      simp only [E.nul.anyN, E.L.altL, Bool.or_eq_true, h k (by simp), ih fun x hx => h x (by simp [hx])]
  have hS : ∀ l : List E, (∀ k ∈ l, (k.nul = true ↔ k.L [])) → (E.nul.allN l = true ↔ E.L.seqL l []) := by
    intro l
    induction l with
    | nil => intro _; simp [E.nul.allN, E.L.seqL]
    | cons k l ih =>
      intro h
      simp only [E.nul.allN, E.L.seqL, Bool.and_eq_true, h k (by simp), ih fun x hx => h x (by simp [hx])]
      constructor
      · exact fun ⟨a, b⟩ => ⟨[], [], rfl, a, b⟩
      · rintro ⟨u, v, h1, a, b⟩
        obtain ⟨rfl, rfl⟩ := List.append_eq_nil_iff.1 h1.symm
        exact ⟨a, b⟩
  have hk : ∀ k ∈ e.kids, (k.nul = true ↔ k.L []) := fun k hk => nul_iff k (ok_kid hok hk)
  rw [nul_eq]
  rcases ok_cases hok with h | h | h | h | h | h
  · rw [L_one h, h]; simp
  · rw [L_alt h, h]; simp [hA _ hk]
  · rw [L_seq h, h]; simp [hS _ hk]
  · rw [L_opt h, h]; simp
  · rw [L_rep (.inl h), h]; simp
  · obtain ⟨k, hkk⟩ := ok_one hok (by omega)
    rw [L_rep (.inr h), h, hkk]
    simp only [E.L.headL, many_nil, E.nul.anyN]
    rw [hkk] at hk
    simp [hk k (by simp)]
termination_by SizeOf.sizeOf e
decreasing_by exact E.kids_lt hk
/-- What may be left behind a name. -/
def E.beh (a : ByteArray) : E → List Rest
  | .mk op name kids =>
    if op = 110 then (if name = a then [[]] else [])
    else if op = 97 then altB kids
    else if op = 115 then seqB kids
    else if op = 63 then headB kids
    else (headB kids).map (· ++ [.mk 42 ⟨#[]⟩ kids])
where
  altB : List E → List Rest
  | [] => []
  | k :: l => k.beh a ++ altB l
  seqB : List E → List Rest
  | [] => []
  | k :: l => (k.beh a).map (· ++ l) ++ (if k.nul = true then seqB l else [])
  headB : List E → List Rest
  | [] => []
  | k :: _ => k.beh a
theorem beh_eq (a : ByteArray) (e : E) : e.beh a = if e.op = 110 then (if e.name = a then [[]] else []) else if e.op = 97 then E.beh.altB a e.kids else if e.op = 115 then E.beh.seqB a e.kids else if e.op = 63 then E.beh.headB a e.kids
    else (E.beh.headB a e.kids).map (· ++ [.mk 42 ⟨#[]⟩ e.kids]) := by
  obtain ⟨o, n, k⟩ := e
  rw [E.beh]
  rfl
def stepR (a : ByteArray) (r : Rest) : List Rest := E.beh.seqB a r
def nulR (r : Rest) : Bool := E.nul.allN r
theorem many_cons {p : Row → Prop} {a : ByteArray} {w : Row} : Many p (a :: w) ↔ ∃ u v, w = u ++ v ∧ p (a :: u) ∧ (v = [] ∨ Many p v) := by
  constructor
  · intro h
    have key : ∀ x, Many p x → ∀ w, x = a :: w → ∃ u v, w = u ++ v ∧ p (a :: u) ∧ (v = [] ∨ Many p v) := by
      intro x hx
      induction hx with
      | one h => intro w e; exact ⟨w, [], by simp, e ▸ h, .inl rfl⟩
      | @more u v h' hm ih =>
        intro w e
        cases u with
        | nil => exact ih w e
        | cons c u =>
          rw [List.cons_append, List.cons.injEq] at e
          obtain ⟨rfl, rfl⟩ := e
          exact ⟨u, v, rfl, h', .inr hm⟩
    exact key _ h w rfl
  · rintro ⟨u, v, rfl, h1, rfl | h2⟩
    · rw [List.append_nil]; exact .one h1
    · exact .more h1 h2
theorem seqB_L (a : ByteArray) : ∀ (l : List E), (∀ k ∈ l, k.ok = true ∧ ∀ w, (k.L (a :: w) ↔ ∃ r ∈ k.beh a, restL r w)) → ∀ w, restL l (a :: w) ↔ ∃ r ∈ E.beh.seqB a l, restL r w
  | [], _, w => by simp [restL_nil, E.beh.seqB]
  | k :: l, h, w => by
    obtain ⟨hk, hL⟩ := h k (by simp)
    have ih := seqB_L a l (fun x hx => h x (by simp [hx]))
    simp only [restL_cons, E.beh.seqB, List.mem_append, List.mem_map]
    constructor
    · rintro ⟨u, v, h1, h2, h3⟩
      cases u with
      | nil =>
        rw [List.nil_append] at h1
        subst h1
        obtain ⟨r, hr, hw⟩ := (ih w).1 h3
        exact ⟨r, .inr (by rw [if_pos ((nul_iff k hk).2 h2)]; exact hr), hw⟩
      | cons c u =>
        rw [List.cons_append, List.cons.injEq] at h1
        obtain ⟨rfl, rfl⟩ := h1
        obtain ⟨r, hr, hw⟩ := (hL u).1 h2
        exact ⟨r ++ l, .inl ⟨r, hr, rfl⟩, (restL_append r l _).2 ⟨u, v, rfl, hw, h3⟩⟩
    · rintro ⟨r, ⟨s, hs, rfl⟩ | hr, hw⟩
      · obtain ⟨u, v, rfl, h1, h2⟩ := (restL_append s l _).1 hw
        exact ⟨a :: u, v, rfl, (hL u).2 ⟨s, hs, h1⟩, h2⟩
      · split at hr
        · rename_i hn
          exact ⟨[], a :: w, rfl, (nul_iff k hk).1 hn, (ih w).2 ⟨r, hr, hw⟩⟩
        · cases hr
theorem beh_L (a : ByteArray) (e : E) (hok : e.ok = true) (w : Row) : e.L (a :: w) ↔ ∃ r ∈ e.beh a, restL r w := by
  have hk : ∀ k ∈ e.kids, k.ok = true ∧ ∀ w, (k.L (a :: w) ↔ ∃ r ∈ k.beh a, restL r w) := fun k hk => ⟨ok_kid hok hk, beh_L a k (ok_kid hok hk)⟩
  have hA : ∀ l : List E, (∀ k ∈ l, ∀ w, (k.L (a :: w) ↔ ∃ r ∈ k.beh a, restL r w)) → (E.L.altL l (a :: w) ↔ ∃ r ∈ E.beh.altB a l, restL r w) := by
    intro l
    induction l with
    | nil => intro _; simp [E.L.altL, E.beh.altB]
    | cons k l ih =>
      intro h
      simp only [E.L.altL, E.beh.altB, List.mem_append, h k (by simp) w, ih fun x hx => h x (by simp [hx])]
      constructor
      · rintro (⟨r, h1, h2⟩ | ⟨r, h1, h2⟩)
        · exact ⟨r, .inl h1, h2⟩
        · exact ⟨r, .inr h1, h2⟩
      · rintro ⟨r, h1 | h1, h2⟩
        · exact .inl ⟨r, h1, h2⟩
        · exact .inr ⟨r, h1, h2⟩
  rw [beh_eq]
  rcases ok_cases hok with h | h | h | h | h | h
  · rw [L_one h, h, if_pos rfl]
    split
    · rename_i hn
      simp [restL_nil, hn]
    · rename_i hn
      have hn' : ¬ a = e.name := fun h => hn h.symm
      simp [hn']
  · rw [L_alt h, h]
    simpa using hA _ fun k hk' => (hk k hk').2
  · rw [L_seq h, h]
    simpa [restL] using seqB_L a _ hk w
  · obtain ⟨k, hkk⟩ := ok_one hok (by omega)
    rw [hkk] at hk
    rw [L_opt h, h, hkk]
    simp only [E.L.headL, E.beh.headB]
    simpa using (hk k (by simp)).2 w
  all_goals
    obtain ⟨k, hkk⟩ := ok_one hok (by omega)
    rw [hkk] at hk
    rw [L_rep (by omega), h, hkk]
    simp only [E.L.headL, E.beh.headB]
    simp only [reduceCtorEq, and_false, false_or, many_cons]
    simp only [show ¬ ((42 : Int) = 110) from by decide, show ¬ ((42 : Int) = 97) from by decide, show ¬ ((42 : Int) = 115) from by decide, show ¬ ((42 : Int) = 63) from by decide, show ¬ ((43 : Int) = 110) from by decide, show ¬ ((43 : Int) = 97) from by decide, show ¬ ((43 : Int) = 115) from by decide, show ¬ ((43 : Int) = 63) from by decide, if_false, List.mem_map]
    constructor
    · rintro ⟨u, v, rfl, h1, h2⟩
      obtain ⟨r, hr, hw⟩ := ((hk k (by simp)).2 u).1 h1
      refine ⟨_, ⟨r, hr, rfl⟩, (restL_append r _ _).2 ⟨u, v, rfl, hw, (restL_one _ _).2 ?_⟩⟩
      rw [L_rep (.inl rfl)]
      simpa [E.op, E.kids, E.L.headL] using h2
    · rintro ⟨_, ⟨r, hr, rfl⟩, hw⟩
      obtain ⟨u, v, rfl, h1, h2⟩ := (restL_append r _ _).1 hw
      refine ⟨u, v, rfl, ((hk k (by simp)).2 u).2 ⟨r, hr, h1⟩, ?_⟩
      rw [restL_one, L_rep (.inl rfl)] at h2
      simpa [E.op, E.kids, E.L.headL] using h2
termination_by SizeOf.sizeOf e
decreasing_by all_goals exact E.kids_lt hk
theorem stepR_L (a : ByteArray) (r : Rest) (h : ∀ k ∈ r, k.ok = true) (w : Row) : restL r (a :: w) ↔ ∃ s ∈ stepR a r, restL s w := seqB_L a r (fun k hk => ⟨h k hk, beh_L a k (h k hk)⟩) w
theorem nulR_iff (r : Rest) (h : ∀ k ∈ r, k.ok = true) : nulR r = true ↔ restL r [] := by
  unfold nulR restL
  induction r with
  | nil => simp [E.nul.allN, E.L.seqL]
  | cons k l ih =>
    simp only [E.nul.allN, E.L.seqL, Bool.and_eq_true, nul_iff k (h k (by simp)), ih fun x hx => h x (by simp [hx])]
    constructor
    · exact fun ⟨a, b⟩ => ⟨[], [], rfl, a, b⟩
    · rintro ⟨u, v, h1, a, b⟩
      obtain ⟨rfl, rfl⟩ := List.append_eq_nil_iff.1 h1.symm
      exact ⟨a, b⟩
end Go.Proofs.D
/-
  REPEATED EXPRESSIONS: how many parts they have, how light they are.
-/
set_option linter.unusedVariables false
set_option linter.unusedSimpArgs false
namespace Go.Proofs.D
open Go Go.Abs
theorem many_cnt (e : E) (h : e.cnt ≤ 1000000000) : e.many = e.cnt := by
  have key : ∀ (l : List E) (n : Nat), (∀ k ∈ l, k.many = k.cnt) → n + (l.map E.cnt).sum ≤ 1000000000 → l.foldl (fun n x => wr .i64 (n + x.many)) (n : Int) = ((n + (l.map E.cnt).sum : Nat) : Int) := by
    intro l
    induction l with
    | nil => intro n _ _; simp
    | cons x l ih =>
      intro n hk hn
      simp at hn
      simp only [List.foldl_cons, List.map_cons, List.sum_cons]
      rw [hk x (by simp), wr64 _ (by omega)]
      have := ih (n + x.cnt) (fun k hk' => hk k (by simp [hk'])) (by omega)
      rw [Nat.add_assoc] at this
      simpa using this
  rw [E.many_eq]
  have hc := cnt_eq e
  have := key e.kids 1 (fun k hk => many_cnt k (by have := cnt_kid hk; omega)) (by omega)
  rw [hc]
  exact this
termination_by SizeOf.sizeOf e
decreasing_by exact E.kids_lt hk
end Go.Proofs.D
