/-
  THE READER: sequences and alternatives.
-/
import Derived.Test.YtciibpfhjfegnaaGreatDoorL0
set_option linter.unusedVariables false
set_option linter.unusedSimpArgs false
namespace Go.Proofs.D
open Go Go.Abs
attribute [local simp] VC VCS stepVS stepTopS firstId memN bigB unmark markT mkOff calmP keepT boundB boundC stepV stepTop stepReg stepOp stMove stPick stBin stUn stConv stBox stAlloc stLoad stStore stFieldAddr stField stExtract stNilCheck stMakeFunc stIndexAddr stIndex stLen
  stBuild placesOf fillA stBuildSlice sliceCells repL chunks allPV toPV drawOk drawOk.go mayMakeO mayMake1 disjoint pairS Oper.apart Oper.looksAt Op.operands Call.operands Region.binds stAppend appBase appTail unName stSlice bndA
  LS.ev LS.get LS.blk LS.put LS.app LS.upd lkS lkH setS setH Nm.eqb guardOf nexts okPair dstOk AV.cellsOf takeAt putAt lkT sliceE fieldT intK isStrT isBoolT abin newOk LS.freshB LS.freshB.go LS.freshB.goH notIn AV.ments AV.ments.mentsL Blk.ments makes upsMents LS.start startL exitTo T Nat.blt
  conv convS convH srcs srcOf blkOk leA leA.leL Go.Abs.leB leP laid laidM laidG isArg subH retP resAV resL res1 AV.frz AV.frz.frzL evL AV.ren AV.ren.renL Blk.ren renBs blksOf allSome nodupB onlyArgs blksMents callUps keyed inName inName.go backName callSide
theorem f54 (Gl : Granted) (read : St → E × St) (I : St → Prop) (hr : ∀ s, I s → Fun Tryz.prog Gl 158 [.ptr (.arg 0) 0] [some s.b] (read s).1.av [some (read s).2.b]) (hle : ∀ s, I s → (read s).2.left.size ≤ s.left.size)
    (hI : ∀ s, I s → (read s).2.bad = false → I (read s).2) (hcut : ∀ s sign, I s → hasPre s.left sign = true → I (s.cut sign)) (s : St) (hs0 : I s) (hsz : s.left.size ≤ 1000000000) :
    Fun Tryz.prog Gl 126 [.ptr (.arg 0) 0] [some s.b] (several read 115 ⟨#[32]⟩ s).1.av [some (several read 115 ⟨#[32]⟩ s).2.b] := by
  refine fun_of (T := T) (n := 7) (rs := [.cell 2 24]) Tryz.func126 (by kernel_rfl) rfl rfl rfl tok mixed (by simp) fun C hC => ?_
  refine hC.vc [] 60 ?_
  simp
  refine hC.call [.arg 0] (f53 Gl read 115 ⟨#[32]⟩ 158 I hr hle hI (fun q => hcut q _) (by decide) s hs0 hsz) (by simp [E.av, E.cells]) ?_
  refine hC.vc [] 60 ?_
  simp [E.av, E.cells]
theorem f28 (Gl : Granted) (read : St → E × St) (I : St → Prop) (hr : ∀ s, I s → Fun Tryz.prog Gl 126 [.ptr (.arg 0) 0] [some s.b] (read s).1.av [some (read s).2.b]) (hle : ∀ s, I s → (read s).2.left.size ≤ s.left.size)
    (hI : ∀ s, I s → (read s).2.bad = false → I (read s).2) (hcut : ∀ s sign, I s → hasPre s.left sign = true → I (s.cut sign)) (s : St) (hs0 : I s) (hsz : s.left.size ≤ 1000000000) :
    Fun Tryz.prog Gl 85 [.ptr (.arg 0) 0] [some s.b] (several read 97 ⟨#[124]⟩ s).1.av [some (several read 97 ⟨#[124]⟩ s).2.b] := by
  refine fun_of (T := T) (n := 7) (rs := [.cell 2 24]) Tryz.func85 (by kernel_rfl) rfl rfl rfl tok mixed (by simp) fun C hC => ?_
  refine hC.vc [] 60 ?_
  simp
  refine hC.call [.arg 0] (f53 Gl read 97 ⟨#[124]⟩ 126 I hr hle hI (fun q => hcut q _) (by decide) s hs0 hsz) (by simp [E.av, E.cells]) ?_
  refine hC.vc [] 60 ?_
  simp [E.av, E.cells]
end Go.Proofs.D
/-
  ALL THAT MAY EVER BE LEFT OF AN EXPRESSION, by the name that was met last: a list as long as its names' places.
-/
set_option linter.unusedVariables false
set_option linter.unusedSimpArgs false
namespace Go.Proofs.D
open Go Go.Abs
def again (kids : List E) : E := .mk 42 ⟨#[]⟩ kids
def E.pdy (y : ByteArray) : E → List Rest
  | .mk op name kids =>
    if op = 110 then (if name = y then [[]] else [])
    else if op = 97 then altP kids
    else if op = 115 then seqP kids
    else if op = 63 then headP kids
    else (headP kids).map (· ++ [.mk 42 ⟨#[]⟩ kids])
where
  altP : List E → List Rest
  | [] => []
  | k :: l => k.pdy y ++ altP l
  seqP : List E → List Rest
  | [] => []
  | k :: l => (k.pdy y).map (· ++ l) ++ seqP l
  headP : List E → List Rest
  | [] => []
  | k :: _ => k.pdy y
theorem pdy_eq (y : ByteArray) (e : E) : e.pdy y = if e.op = 110 then (if e.name = y then [[]] else []) else if e.op = 97 then E.pdy.altP y e.kids else if e.op = 115 then E.pdy.seqP y e.kids else if e.op = 63 then E.pdy.headP y e.kids
    else (E.pdy.headP y e.kids).map (· ++ [again e.kids]) := by
  obtain ⟨o, n, k⟩ := e
  rw [E.pdy]
  rfl
/-- How many places of names there are. -/
def E.leaves : E → Nat
  | .mk op _ kids => if op = 110 then 1 else go kids
where go : List E → Nat
  | [] => 0
  | k :: l => k.leaves + go l
theorem leaves_eq (e : E) : e.leaves = if e.op = 110 then 1 else E.leaves.go e.kids := by
  obtain ⟨o, n, k⟩ := e
  rw [E.leaves]
  rfl
theorem leaves_le (e : E) : e.leaves ≤ e.cnt ∧ (e.op = 110 ∨ e.leaves + 1 ≤ e.cnt) := by
  have hk : ∀ l : List E, (∀ k ∈ l, k.leaves ≤ k.cnt) → E.leaves.go l ≤ (l.map E.cnt).sum := by
    intro l
    induction l with
    | nil => intro _; simp [E.leaves.go]
    | cons x l ih =>
      intro h
      have h1 := h x (by simp)
      have h2 := ih fun y hy => h y (by simp [hy])
      simp [E.leaves.go]
      omega
  have := hk e.kids fun k hk => (leaves_le k).1
  rw [leaves_eq, cnt_eq]
  split <;> omega
termination_by SizeOf.sizeOf e
decreasing_by exact E.kids_lt hk
theorem stepR_append (a : ByteArray) (r s : Rest) : stepR a (r ++ s) = (stepR a r).map (· ++ s) ++ (if nulR r = true then stepR a s else []) := by
  unfold stepR nulR
  induction r with
  | nil => simp [E.beh.seqB, E.nul.allN]
  | cons k r ih =>
    simp only [List.cons_append, E.beh.seqB, E.nul.allN, ih]
    by_cases hk : k.nul = true
    · simp [hk]
    · simp [hk]
theorem stepR_one (a : ByteArray) (e : E) : stepR a [e] = e.beh a := by
  unfold stepR
  simp [E.beh.seqB]
theorem beh_again (a : ByteArray) (kids : List E) : (again kids).beh a = (E.beh.headB a kids).map (· ++ [again kids]) := by
  rw [beh_eq]
  rfl
section
variable (y : ByteArray)
theorem seqB_sub (l : List E) (h : ∀ k ∈ l, ∀ r ∈ k.beh y, r ∈ k.pdy y) : ∀ r ∈ E.beh.seqB y l, r ∈ E.pdy.seqP y l := by
  induction l with
  | nil => intro r hr; cases hr
  | cons k l ih =>
    intro r hr
    simp only [E.beh.seqB, List.mem_append, List.mem_map] at hr
    simp only [E.pdy.seqP, List.mem_append, List.mem_map]
    rcases hr with ⟨s, hs, rfl⟩ | hr
    · exact .inl ⟨s, h k (by simp) s hs, rfl⟩
    · split at hr
      · exact .inr (ih (fun x hx => h x (by simp [hx])) r hr)
      · cases hr
theorem beh_sub (e : E) : ∀ r ∈ e.beh y, r ∈ e.pdy y := by
  have hk : ∀ k ∈ e.kids, ∀ r ∈ k.beh y, r ∈ k.pdy y := fun k hk => beh_sub k
  have hA : ∀ l : List E, (∀ k ∈ l, ∀ r ∈ k.beh y, r ∈ k.pdy y) → ∀ r ∈ E.beh.altB y l, r ∈ E.pdy.altP y l := by
    intro l
    induction l with
    | nil => intro _ r hr; cases hr
    | cons k l ih =>
      intro h r hr
      simp only [E.beh.altB, List.mem_append] at hr
      simp only [E.pdy.altP, List.mem_append]
      rcases hr with hr | hr
      · exact .inl (h k (by simp) r hr)
      · exact .inr (ih (fun x hx => h x (by simp [hx])) r hr)
  have hH : ∀ l : List E, (∀ k ∈ l, ∀ r ∈ k.beh y, r ∈ k.pdy y) → ∀ r ∈ E.beh.headB y l, r ∈ E.pdy.headP y l := by
    intro l h r hr
    cases l with
    | nil => cases hr
    | cons k l => exact h k (by simp) r hr
  intro r hr
  rw [beh_eq] at hr
  rw [pdy_eq]
  by_cases h1 : e.op = 110
  · rw [if_pos h1] at hr ⊢; exact hr
  · rw [if_neg h1] at hr ⊢
    by_cases h2 : e.op = 97
    · rw [if_pos h2] at hr ⊢; exact hA _ hk r hr
    · rw [if_neg h2] at hr ⊢
      by_cases h3 : e.op = 115
      · rw [if_pos h3] at hr ⊢; exact seqB_sub y _ hk r hr
      · rw [if_neg h3] at hr ⊢
        by_cases h4 : e.op = 63
        · rw [if_pos h4] at hr ⊢; exact hH _ hk r hr
        · rw [if_neg h4] at hr ⊢
          obtain ⟨s, hs, rfl⟩ := List.mem_map.1 hr
          exact List.mem_map.2 ⟨s, hH _ hk s hs, rfl⟩
termination_by SizeOf.sizeOf e
decreasing_by exact E.kids_lt hk
/-- Closed: what is left of what is left is left. -/
theorem pdy_closed (z : ByteArray) (e : E) : ∀ r ∈ e.pdy z, ∀ s ∈ stepR y r, s ∈ e.pdy y := by
  have hk : ∀ k ∈ e.kids, ∀ r ∈ k.pdy z, ∀ s ∈ stepR y r, s ∈ k.pdy y := fun k hk => pdy_closed z k
  have hA : ∀ l : List E, (∀ k ∈ l, ∀ r ∈ k.pdy z, ∀ s ∈ stepR y r, s ∈ k.pdy y) → ∀ r ∈ E.pdy.altP z l, ∀ s ∈ stepR y r, s ∈ E.pdy.altP y l := by
    intro l
    induction l with
    | nil => intro _ r hr; cases hr
    | cons k l ih =>
      intro h r hr s hs
      simp only [E.pdy.altP, List.mem_append] at hr ⊢
      rcases hr with hr | hr
      · exact .inl (h k (by simp) r hr s hs)
      · exact .inr (ih (fun x hx => h x (by simp [hx])) r hr s hs)
  have hS : ∀ l : List E, (∀ k ∈ l, ∀ r ∈ k.pdy z, ∀ s ∈ stepR y r, s ∈ k.pdy y) → ∀ r ∈ E.pdy.seqP z l, ∀ s ∈ stepR y r, s ∈ E.pdy.seqP y l := by
    intro l
    induction l with
    | nil => intro _ r hr; cases hr
    | cons k l ih =>
      intro h r hr s hs
      simp only [E.pdy.seqP, List.mem_append, List.mem_map] at hr ⊢
      rcases hr with ⟨t, ht, rfl⟩ | hr
      · rw [stepR_append, List.mem_append, List.mem_map] at hs
        rcases hs with ⟨q, hq, rfl⟩ | hs
        · exact .inl ⟨q, h k (by simp) t ht q hq, rfl⟩
        · split at hs
          · exact .inr (seqB_sub y l (fun x hx => beh_sub y x) s hs)
          · cases hs
      · exact .inr (ih (fun x hx => h x (by simp [hx])) r hr s hs)
  have hH : ∀ l : List E, (∀ k ∈ l, ∀ r ∈ k.pdy z, ∀ s ∈ stepR y r, s ∈ k.pdy y) → ∀ r ∈ E.pdy.headP z l, ∀ s ∈ stepR y r, s ∈ E.pdy.headP y l := by
    intro l h r hr s hs
    cases l with
    | nil => cases hr
    | cons k l => exact h k (by simp) r hr s hs
  intro r hr s hs
  rw [pdy_eq] at hr ⊢
  by_cases h1 : e.op = 110
  · rw [if_pos h1] at hr ⊢
    split at hr
    · simp at hr; subst hr; cases hs
    · cases hr
  · rw [if_neg h1] at hr ⊢
    by_cases h2 : e.op = 97
    · rw [if_pos h2] at hr ⊢; exact hA _ hk r hr s hs
    · rw [if_neg h2] at hr ⊢
      by_cases h3 : e.op = 115
      · rw [if_pos h3] at hr ⊢; exact hS _ hk r hr s hs
      · rw [if_neg h3] at hr ⊢
        by_cases h4 : e.op = 63
        · rw [if_pos h4] at hr ⊢; exact hH _ hk r hr s hs
        · rw [if_neg h4] at hr ⊢
          obtain ⟨t, ht, rfl⟩ := List.mem_map.1 hr
          rw [stepR_append, List.mem_append, List.mem_map] at hs
          rcases hs with ⟨q, hq, rfl⟩ | hs
          · exact List.mem_map.2 ⟨q, hH _ hk t ht q hq, rfl⟩
          · split at hs
            · rw [stepR_one, beh_again] at hs
              obtain ⟨q, hq, rfl⟩ := List.mem_map.1 hs
              refine List.mem_map.2 ⟨q, ?_, rfl⟩
              revert hq
              generalize e.kids = l
              intro hq
              cases l with
              | nil => cases hq
              | cons k l => exact beh_sub y k q hq
            · cases hs
termination_by SizeOf.sizeOf e
decreasing_by exact E.kids_lt hk
end
theorem again_ok {e : E} (h : e.ok = true) (h1 : e.op = 42 ∨ e.op = 43) : (again e.kids).ok = true ∧ (again e.kids).cnt = e.cnt := by
  constructor
  · rcases E.ok_ops h with ⟨g, _⟩ | ⟨g, _⟩ | ⟨g, _⟩ | ⟨_, _, x, g, gs⟩
    · omega
    · omega
    · omega
    · have hx := E.ok_kids h (by omega) x (by rw [g]; simp)
      have hx42 : ¬ x.op = 42 := by
        intro e
        simp [E.suffix, e] at gs
      rw [g, again, E.ok_eq]
      have e1 : (E.mk 42 ⟨#[]⟩ [x]).op = 42 := rfl
      have e2 : (E.mk 42 ⟨#[]⟩ [x]).name = ⟨#[]⟩ := rfl
      have e3 : (E.mk 42 ⟨#[]⟩ [x]).kids = [x] := rfl
      simp [e1, e2, e3, gs, hx.1, hx42]
  · rw [cnt_eq, cnt_eq e]; rfl
/-- What is left is made of expressions that are formed, no larger than the whole, and not too many. -/
theorem pdy_ok (y : ByteArray) (e : E) (hok : e.ok = true) : ∀ r ∈ e.pdy y, r.length ≤ e.cnt ∧ ∀ k ∈ r, k.ok = true ∧ k.cnt ≤ e.cnt := by
  have hk : ∀ k ∈ e.kids, ∀ r ∈ k.pdy y, r.length ≤ k.cnt ∧ ∀ x ∈ r, x.ok = true ∧ x.cnt ≤ k.cnt := fun k hk => pdy_ok y k (ok_kid hok hk)
  have hsum : ∀ l : List E, l.length ≤ (l.map E.cnt).sum := fun l => by
    induction l with
    | nil => simp
    | cons x l ih => have : 1 ≤ x.cnt := (by rw [cnt_eq]; omega); simp; omega
  have hmem : ∀ (l : List E) (x : E), x ∈ l → x.cnt ≤ (l.map E.cnt).sum := fun l x => by
    induction l with
    | nil => intro h; cases h
    | cons z l ih =>
      intro h
      rcases List.mem_cons.1 h with rfl | h
      · simp
      · have := ih h; simp; omega
  have hA : ∀ l : List E, (∀ k ∈ l, k.ok = true ∧ ∀ r ∈ k.pdy y, r.length ≤ k.cnt ∧ ∀ x ∈ r, x.ok = true ∧ x.cnt ≤ k.cnt) → ∀ r ∈ E.pdy.altP y l, r.length ≤ (l.map E.cnt).sum ∧ ∀ x ∈ r, x.ok = true ∧ x.cnt ≤ (l.map E.cnt).sum := by
    intro l
    induction l with
    | nil => intro _ r hr; cases hr
    | cons k l ih =>
      intro h r hr
      simp only [E.pdy.altP, List.mem_append] at hr
      simp only [List.map_cons, List.sum_cons]
      rcases hr with hr | hr
      · obtain ⟨h1, h2⟩ := (h k (by simp)).2 r hr
        exact ⟨by omega, fun x hx => ⟨(h2 x hx).1, by have := (h2 x hx).2; omega⟩⟩
      · obtain ⟨h1, h2⟩ := ih (fun x hx => h x (by simp [hx])) r hr
        exact ⟨by omega, fun x hx => ⟨(h2 x hx).1, by have := (h2 x hx).2; omega⟩⟩
  have hS : ∀ l : List E, (∀ k ∈ l, k.ok = true ∧ ∀ r ∈ k.pdy y, r.length ≤ k.cnt ∧ ∀ x ∈ r, x.ok = true ∧ x.cnt ≤ k.cnt) → ∀ r ∈ E.pdy.seqP y l, r.length ≤ (l.map E.cnt).sum ∧ ∀ x ∈ r, x.ok = true ∧ x.cnt ≤ (l.map E.cnt).sum := by
    intro l
    induction l with
    | nil => intro _ r hr; cases hr
    | cons k l ih =>
      intro h r hr
      simp only [E.pdy.seqP, List.mem_append, List.mem_map] at hr
      simp only [List.map_cons, List.sum_cons]
      rcases hr with ⟨s, hs, rfl⟩ | hr
      · obtain ⟨h1, h2⟩ := (h k (by simp)).2 s hs
        have h3 := hsum l
        refine ⟨by rw [List.length_append]; omega, fun x hx => ?_⟩
        rcases List.mem_append.1 hx with hx | hx
        · exact ⟨(h2 x hx).1, by have := (h2 x hx).2; omega⟩
        · exact ⟨(h x (by simp [hx])).1, by have := hmem l x hx; omega⟩
      · obtain ⟨h1, h2⟩ := ih (fun x hx => h x (by simp [hx])) r hr
        exact ⟨by omega, fun x hx => ⟨(h2 x hx).1, by have := (h2 x hx).2; omega⟩⟩
  have hH : ∀ l : List E, (∀ k ∈ l, k.ok = true ∧ ∀ r ∈ k.pdy y, r.length ≤ k.cnt ∧ ∀ x ∈ r, x.ok = true ∧ x.cnt ≤ k.cnt) → ∀ r ∈ E.pdy.headP y l, r.length ≤ (l.map E.cnt).sum ∧ ∀ x ∈ r, x.ok = true ∧ x.cnt ≤ (l.map E.cnt).sum := by
    intro l h r hr
    cases l with
    | nil => cases hr
    | cons k l =>
      obtain ⟨h1, h2⟩ := (h k (by simp)).2 r hr
      simp only [List.map_cons, List.sum_cons]
      exact ⟨by omega, fun x hx => ⟨(h2 x hx).1, by have := (h2 x hx).2; omega⟩⟩
  have hkk : ∀ k ∈ e.kids, k.ok = true ∧ ∀ r ∈ k.pdy y, r.length ≤ k.cnt ∧ ∀ x ∈ r, x.ok = true ∧ x.cnt ≤ k.cnt := fun k h => ⟨ok_kid hok h, hk k h⟩
  have hce := cnt_eq e
  intro r hr
  rw [pdy_eq] at hr
  by_cases h1 : e.op = 110
  · rw [if_pos h1] at hr
    split at hr
    · simp at hr; subst hr; exact ⟨by simp, fun k hk => by cases hk⟩
    · cases hr
  · rw [if_neg h1] at hr
    have fin : (r.length ≤ (e.kids.map E.cnt).sum ∧ ∀ x ∈ r, x.ok = true ∧ x.cnt ≤ (e.kids.map E.cnt).sum) → r.length ≤ e.cnt ∧ ∀ k ∈ r, k.ok = true ∧ k.cnt ≤ e.cnt :=
      fun ⟨a, b⟩ => ⟨by omega, fun x hx => ⟨(b x hx).1, by have := (b x hx).2; omega⟩⟩
    by_cases h2 : e.op = 97
    · rw [if_pos h2] at hr; exact fin (hA _ hkk r hr)
    · rw [if_neg h2] at hr
      by_cases h3 : e.op = 115
      · rw [if_pos h3] at hr; exact fin (hS _ hkk r hr)
      · rw [if_neg h3] at hr
        by_cases h4 : e.op = 63
        · rw [if_pos h4] at hr; exact fin (hH _ hkk r hr)
        · rw [if_neg h4] at hr
          obtain ⟨s, hs, rfl⟩ := List.mem_map.1 hr
          obtain ⟨a, b⟩ := hH _ hkk s hs
          have hag := again_ok hok (by rcases ok_cases hok with h | h | h | h | h | h <;> omega)
          refine ⟨by rw [List.length_append]; simp; omega, fun x hx => ?_⟩
          rcases List.mem_append.1 hx with hx | hx
          · exact ⟨(b x hx).1, by have := (b x hx).2; omega⟩
          · simp at hx; subst hx; exact ⟨hag.1, by omega⟩
termination_by SizeOf.sizeOf e
decreasing_by exact E.kids_lt hk
/-- What is formed means something. -/
theorem L_some (e : E) (hok : e.ok = true) : ∃ w, e.L w := by
  have hk : ∀ k ∈ e.kids, ∃ w, k.L w := fun k hk => L_some k (ok_kid hok hk)
  have hS : ∀ l : List E, (∀ k ∈ l, ∃ w, k.L w) → ∃ w, E.L.seqL l w := by
    intro l
    induction l with
    | nil => intro _; exact ⟨[], rfl⟩
    | cons k l ih =>
      intro h
      obtain ⟨u, hu⟩ := h k (by simp)
      obtain ⟨v, hv⟩ := ih fun x hx => h x (by simp [hx])
      exact ⟨u ++ v, u, v, rfl, hu, hv⟩
  rcases ok_cases hok with h | h | h | h | h | h
  · exact ⟨[e.name], by rw [L_one h]⟩
  · rcases E.ok_ops hok with ⟨g, _⟩ | ⟨g, _⟩ | ⟨_, _, g⟩ | ⟨g, _⟩
    · omega
    · omega
    · cases hl : e.kids with
      | nil => rw [hl] at g; simp at g
      | cons k l =>
        obtain ⟨w, hw⟩ := hk k (by rw [hl]; simp)
        exact ⟨w, by rw [L_alt h, hl]; exact .inl hw⟩
    · omega
  · obtain ⟨w, hw⟩ := hS _ hk
    exact ⟨w, by rw [L_seq h]; exact hw⟩
  · exact ⟨[], by rw [L_opt h]; exact .inl rfl⟩
  · exact ⟨[], by rw [L_rep (.inl h)]; exact .inl ⟨h, rfl⟩⟩
  · obtain ⟨k, hkk⟩ := ok_one hok (by omega)
    obtain ⟨w, hw⟩ := hk k (by rw [hkk]; simp)
    exact ⟨w, by rw [L_rep (.inr h), hkk]; exact .inr (.one hw)⟩
termination_by SizeOf.sizeOf e
decreasing_by exact E.kids_lt hk
theorem restL_some (r : Rest) (h : ∀ k ∈ r, k.ok = true) : ∃ w, restL r w := by
  induction r with
  | nil => exact ⟨[], rfl⟩
  | cons k r ih =>
    obtain ⟨u, hu⟩ := L_some k (h k (by simp))
    obtain ⟨v, hv⟩ := ih fun x hx => h x (by simp [hx])
    exact ⟨u ++ v, u, v, rfl, hu, hv⟩
theorem ok_small (e : E) (hok : e.ok = true) : e.small := by
  have hk : ∀ k ∈ e.kids, k.small := fun k hk => ok_small k (ok_kid hok hk)
  have hn := ok_name hok
  obtain ⟨o, n, k⟩ := e
  exact E.small_mk (by simp only [E.name] at hn; omega) hk
termination_by SizeOf.sizeOf e
decreasing_by exact E.kids_lt hk
end Go.Proofs.D
/-
  THE READER: how often it may call itself.
-/
set_option linter.unusedVariables false
set_option linter.unusedSimpArgs false
namespace Go.Proofs.D
open Go Go.Abs
/-- What a reader leaves of a state. -/
structure Post (s t : St) : Prop where
  size : t.left.size ≤ s.left.size
  many : s.many ≤ t.many
  good : t.bad = false → t.many ≤ 48
theorem Post.trans {a b c : St} (h : Post a b) (k : Post b c) : Post a c := ⟨Nat.le_trans k.size h.size, Int.le_trans h.many k.many, k.good⟩
theorem cutPre_le (s p : ByteArray) : (cutPre s p).size ≤ s.size := by
  unfold cutPre
  split
  · simp [ByteArray.size_extract]
  · exact Nat.le_refl _
theorem Post.cut {a b : St} (h : Post a b) (sign : ByteArray) : Post a (b.cut sign) := ⟨Nat.le_trans (cutPre_le _ _) h.size, h.many, h.good⟩
/-- A state in which k more items may be read. -/
structure Ready (k : Nat) (s : St) : Prop where
  bad : s.bad = false
  many : 0 ≤ s.many
  few : s.many ≤ 48
  fuel : 49 ≤ s.many + k
  size : s.left.size ≤ 1000000000
theorem Ready.post {k : Nat} {s t : St} (h : Ready k s) (p : Post s t) (hb : t.bad = false) : Ready k t := ⟨hb, by have := p.many; have := h.many; omega, p.good hb, by have := p.many; have := h.fuel; omega, Nat.le_trans p.size h.size⟩
theorem Ready.refl {k : Nat} {s : St} (h : Ready k s) : Post s s := ⟨Nat.le_refl _, Int.le_refl _, fun _ => h.few⟩
theorem Ready.cut {k : Nat} {s : St} (h : Ready k s) (sign : ByteArray) : Ready k (s.cut sign) := h.post (h.refl.cut sign) h.bad
theorem rounds_post {read : St → E × St} {k : Nat} (hp : ∀ s, Ready k s → Post s (read s).2) (sign : ByteArray) : ∀ (n : Nat) (l : List E) (s0 s : St), Ready k s0 → Post s0 s → Post s0 (rounds read sign n l s).2
  | 0, l, s0, s, h0, h => h
  | n + 1, l, s0, s, h0, h => by
    simp only [rounds]
    split
    · exact h
    · rename_i hb
      have hr := (h0.post h (by simpa using hb)).cut sign
      split
      · exact rounds_post hp sign n _ s0 _ h0 ((h.cut sign).trans (hp _ hr))
      · exact h.cut sign
theorem several_post {read : St → E × St} {k : Nat} (hp : ∀ s, Ready k s → Post s (read s).2) (op : Int) (sign : ByteArray) (s : St) (h : Ready k s) : Post s (several read op sign s).2 := by
  unfold several
  exact rounds_post hp sign _ _ s _ h (hp s h)
theorem sfx_post (e : E) : ∀ (l : List Int) (s0 s : St), Post s0 s → Post s0 (sfx e l s).2
  | [], s0, s, h => h
  | o :: l, s0, s, h => by
    simp only [sfx]
    split
    · exact h.cut _
    · exact sfx_post e l s0 _ (h.cut _)
theorem baseF_post {tl : ByteArray → ByteArray} (htl : ∀ s, (tl s).size ≤ s.size) {alt : St → E × St} {k : Nat} (ha : ∀ s, Ready k s → Post s (alt s).2) (s : St) (h : Ready k s) : Post s (baseF tl alt s).2 := by
  unfold baseF
  split
  · exact h.refl.cut _
  · dsimp only
    split
    · have hr := (h.cut ⟨#[40, 41]⟩).cut ⟨#[40]⟩
      have hp := ha _ hr
      have h1 := (h.refl.cut ⟨#[40, 41]⟩).cut ⟨#[40]⟩
      have h2 := h1.trans hp
      refine ⟨Nat.le_trans (cutPre_le _ _) h2.size, h2.many, fun hb => h2.good ?_⟩
      simp at hb
      exact hb.2
    · have h1 := (h.refl.cut ⟨#[40, 41]⟩).cut ⟨#[40]⟩
      exact ⟨Nat.le_trans (htl _) h1.size, h1.many, h1.good⟩
def itemN (tl : ByteArray → ByteArray) : Nat → St → E × St
  | 0, s => (E.none, s)
  | k + 1, s => itemF tl (several (several (itemN tl k) 115 ⟨#[32]⟩) 97 ⟨#[124]⟩) s
theorem itemN_post {tl : ByteArray → ByteArray} (htl : ∀ s, (tl s).size ≤ s.size) : ∀ (k : Nat) (s : St), Ready k s → Post s (itemN tl k s).2
  | 0, s, h => by have := h.fuel; have := h.few; omega
  | k + 1, s, h => by
    simp only [itemN, itemF]
    have hw := wr64 (s.many + 1) (by have := h.many; have := h.few; omega)
    split
    · exact ⟨Nat.le_refl _, by simp only [hw]; omega, fun hb => by cases hb⟩
    · rename_i h48
      rw [hw] at h48 ⊢
      have hr : Ready k { s with many := s.many + 1 } := ⟨h.bad, by have := h.many; simp; omega, by simp; omega, by have := h.fuel; simp; omega, h.size⟩
      have hb := baseF_post htl (fun q hq => several_post (fun q hq => several_post (itemN_post htl k) 115 ⟨#[32]⟩ q hq) 97 ⟨#[124]⟩ q hq) _ hr
      have h0 : Post s { s with many := s.many + 1 } := ⟨Nat.le_refl _, by simp; omega, fun _ => by simp; omega⟩
      exact sfx_post _ _ s _ (h0.trans hb)
theorem readers (Gl : Granted) (tl : ByteArray → ByteArray) (h99 : ∀ s, Fun Tryz.prog Gl 190 [vS s, vS lowS] [] (vS (tl s)) []) (htl : ∀ s, (tl s).size ≤ s.size) : ∀ (k : Nat) (s : St), Ready k s →
    Fun Tryz.prog Gl 158 [.ptr (.arg 0) 0] [some s.b] (itemN tl k s).1.av [some (itemN tl k s).2.b]
  | 0, s, h => by have := h.fuel; have := h.few; omega
  | k + 1, s, h => by
    have hw := wr64 (s.many + 1) (by have := h.many; have := h.few; omega)
    have hseq : ∀ q, Ready k q → Fun Tryz.prog Gl 126 [.ptr (.arg 0) 0] [some q.b] (several (itemN tl k) 115 ⟨#[32]⟩ q).1.av [some (several (itemN tl k) 115 ⟨#[32]⟩ q).2.b] := fun q hq =>
      f54 Gl (itemN tl k) (Ready k) (readers Gl tl h99 htl k) (fun q hq => (itemN_post htl k q hq).size) (fun q hq hb => hq.post (itemN_post htl k q hq) hb) (fun q sign hq _ => hq.cut sign) q hq hq.size
    have hp : ∀ q, Ready k q → Post q (several (itemN tl k) 115 ⟨#[32]⟩ q).2 := fun q hq => several_post (itemN_post htl k) 115 ⟨#[32]⟩ q hq
    exact f82 Gl tl h99 htl (several (several (itemN tl k) 115 ⟨#[32]⟩) 97 ⟨#[124]⟩) s h.size fun r hm hb hsz h48 => by
      have hr : Ready k r := ⟨by rw [hb]; exact h.bad, by rw [← hm, hw]; have := h.many; omega, by omega, by rw [← hm, hw]; have := h.fuel; simp at this; omega, Nat.le_trans hsz h.size⟩
      exact f28 Gl _ (Ready k) hseq (fun q hq => (hp q hq).size) (fun q hq hb => hq.post (hp q hq) hb) (fun q sign hq _ => hq.cut sign) r hr hr.size
/-- alt, from the start. -/
def altN (tl : ByteArray → ByteArray) (s : St) : E × St := several (several (itemN tl 49) 115 ⟨#[32]⟩) 97 ⟨#[124]⟩ s
theorem f28_start (Gl : Granted) (tl : ByteArray → ByteArray) (h99 : ∀ s, Fun Tryz.prog Gl 190 [vS s, vS lowS] [] (vS (tl s)) []) (htl : ∀ s, (tl s).size ≤ s.size) (s : St) (h : Ready 49 s) :
    Fun Tryz.prog Gl 85 [.ptr (.arg 0) 0] [some s.b] (altN tl s).1.av [some (altN tl s).2.b] := by
  have hseq : ∀ q, Ready 49 q → Fun Tryz.prog Gl 126 [.ptr (.arg 0) 0] [some q.b] (several (itemN tl 49) 115 ⟨#[32]⟩ q).1.av [some (several (itemN tl 49) 115 ⟨#[32]⟩ q).2.b] := fun q hq =>
    f54 Gl (itemN tl 49) (Ready 49) (readers Gl tl h99 htl 49) (fun q hq => (itemN_post htl 49 q hq).size) (fun q hq hb => hq.post (itemN_post htl 49 q hq) hb) (fun q sign hq _ => hq.cut sign) q hq hq.size
  have hp : ∀ q, Ready 49 q → Post q (several (itemN tl 49) 115 ⟨#[32]⟩ q).2 := fun q hq => several_post (itemN_post htl 49) 115 ⟨#[32]⟩ q hq
  exact f28 Gl _ (Ready 49) hseq (fun q hq => (hp q hq).size) (fun q hq hb => hq.post (hp q hq) hb) (fun q sign hq _ => hq.cut sign) s h h.size
end Go.Proofs.D
/-
  WHAT IS MET, ONE BEHIND THE OTHER: a row of things, each asked for the next ones; told apart by a key.
-/
set_option linter.unusedVariables false
set_option linter.unusedSimpArgs false
namespace Go.Proofs.D
open Go Go.Abs
section
variable {κ : Type} [DecidableEq κ]
/-- Where one stands first. -/
def ixK (k : κ) : List κ → Nat
  | [] => 0
  | x :: l => if x = k then 0 else ixK k l + 1
theorem ixK_mem {k : κ} : ∀ {l : List κ}, k ∈ l → l[ixK k l]? = some k
  | [], h => by cases h
  | x :: l, h => by
    simp only [ixK]
    split
    · rename_i e; simp [e]
    · rename_i e
      rcases List.mem_cons.1 h with h | h
      · exact absurd h.symm e
      · simpa using ixK_mem h
theorem ixK_lt {k : κ} {l : List κ} (h : k ∈ l) : ixK k l < l.length := (List.getElem?_eq_some_iff.1 (ixK_mem h)).1
theorem ixK_not {k : κ} : ∀ {l : List κ}, k ∉ l → ixK k l = l.length
  | [], _ => rfl
  | x :: l, h => by
    simp only [List.mem_cons, not_or] at h
    simp only [ixK, if_neg (fun e => h.1 (Eq.symm e)), ixK_not h.2, List.length_cons]
end
theorem nodup_sub_len {α : Type} : ∀ (l m : List α), l.Nodup → (∀ x ∈ l, x ∈ m) → l.length ≤ m.length
  | [], m, _, _ => by simp
  | x :: l, m, h, hs => by
    obtain ⟨h1, h2⟩ := List.nodup_cons.1 h
    obtain ⟨a, b, rfl⟩ := List.append_of_mem (hs x (by simp))
    have := nodup_sub_len l (a ++ b) h2 fun y hy => by
      have hm := hs y (by simp [hy])
      have hne : y ≠ x := fun e => h1 (e ▸ hy)
      simp at hm ⊢
      rcases hm with h | h | h
      · exact .inl h
      · exact absurd h hne
      · exact .inr h
    simp at this ⊢
    omega
theorem nodup_map {α β : Type} (f : α → β) : ∀ (l : List α), l.Nodup → (∀ x ∈ l, ∀ y ∈ l, f x = f y → x = y) → (l.map f).Nodup
  | [], _, _ => by simp
  | x :: l, h, hf => by
    obtain ⟨h1, h2⟩ := List.nodup_cons.1 h
    rw [List.map_cons, List.nodup_cons]
    refine ⟨fun hm => ?_, nodup_map f l h2 fun a ha b hb => hf a (by simp [ha]) b (by simp [hb])⟩
    obtain ⟨y, hy, e⟩ := List.mem_map.1 hm
    exact h1 (hf y (by simp [hy]) x (by simp) e ▸ hy)
/-- Are numbers met in order? -/
def rowOrd : Int → List Int → Option Int
  | m, [] => some m
  | m, t :: l => if t ≤ m + 1 ∧ -1 ≤ t then rowOrd (max m t) l else none
def tabOrd : Nat → Int → List (List Int) → Option Int
  | _, m, [] => some m
  | i, m, r :: l => if (i : Int) ≤ m then (rowOrd m r).bind fun m' => tabOrd (i + 1) m' l else none
theorem tabOrd_snoc (r : List Int) : ∀ (l : List (List Int)) (i : Nat) (m : Int), tabOrd i m (l ++ [r]) = (tabOrd i m l).bind fun m' => if ((i + l.length : Nat) : Int) ≤ m' then rowOrd m' r else none
  | [], i, m => by simp only [List.nil_append, tabOrd, List.length_nil, Nat.add_zero, Option.bind_some]; cases rowOrd m r <;> rfl
  | x :: l, i, m => by
    simp only [List.cons_append, tabOrd]
    split
    · cases rowOrd m x with
      | none => rfl
      | some m' =>
        simp only [Option.bind_some]
        rw [tabOrd_snoc r l (i + 1) m']
        have : i + 1 + l.length = i + (x :: l).length := by simp; omega
        rw [this]
    · rfl
section
variable {σ κ : Type} (key : σ → κ)
/-- What a number says. -/
def Says (all : List σ) (o : Option σ) (t : Int) : Prop := match o with
  | none => t = -1
  | some s => ∃ n : Nat, t = n ∧ (all.map key)[n]? = some (key s)
theorem Says.app {all m : List σ} {o : Option σ} {t : Int} (h : Says key all o t) : Says key (all ++ m) o t := by
  cases o with
  | none => exact h
  | some s =>
    obtain ⟨n, e, hn⟩ := h
    have hl := (List.getElem?_eq_some_iff.1 hn).1
    exact ⟨n, e, by rw [List.map_append, List.getElem?_append_left hl]; exact hn⟩
section
variable (f : σ → List (Option σ)) (s0 : σ)
structure Met (i : Nat) (all : List σ) (rows : List (List Int)) : Prop where
  first : all[0]? = some s0
  nodup : (all.map key).Nodup
  many : (rows.length = i ∧ i ≤ all.length) ∨ (rows.length = all.length ∧ all.length ≤ i)
  row : ∀ (k : Nat) (s : σ) (r : List Int), all[k]? = some s → rows[k]? = some r → r.length = (f s).length ∧ ∀ (j : Nat) (o : Option σ) (t : Int), (f s)[j]? = some o → r[j]? = some t → Says key all o t
  ord : tabOrd 0 0 rows = some ((all.length : Int) - 1)
  from' : ∀ s ∈ all, s = s0 ∨ ∃ p ∈ all, some s ∈ f p
theorem met_pos {i : Nat} {all : List σ} {rows : List (List Int)} (h : Met key f s0 i all rows) : 0 < all.length := (List.getElem?_eq_some_iff.1 h.first).1
end
variable [DecidableEq κ]
def rowK : List σ → List (Option σ) → List σ × List Int
  | all, [] => (all, [])
  | all, none :: l => ((rowK all l).1, -1 :: (rowK all l).2)
  | all, some s :: l => if key s ∈ all.map key then ((rowK all l).1, (ixK (key s) (all.map key) : Int) :: (rowK all l).2) else ((rowK (all ++ [s]) l).1, (all.length : Int) :: (rowK (all ++ [s]) l).2)
theorem rowK_spec : ∀ (l : List (Option σ)) (all : List σ), (all.map key).Nodup → ∃ m, (rowK key all l).1 = all ++ m ∧ ((rowK key all l).1.map key).Nodup ∧ (∀ s ∈ m, some s ∈ l) ∧ (rowK key all l).2.length = l.length ∧
    (∀ (j : Nat) (o : Option σ) (t : Int), l[j]? = some o → (rowK key all l).2[j]? = some t → Says key (rowK key all l).1 o t) ∧ rowOrd (all.length - 1) (rowK key all l).2 = some (((rowK key all l).1.length : Int) - 1)
  | [], all, h => ⟨[], by simp [rowK], by simpa [rowK] using h, by simp, rfl, fun j o t h => by simp at h, by simp [rowK, rowOrd]⟩
  | none :: l, all, h => by
    obtain ⟨m, h1, h2, h3, h4, h5, h6⟩ := rowK_spec l all h
    refine ⟨m, h1, h2, fun s hs => by simp [h3 s hs], by simp [rowK, h4], fun j o t hj ht => ?_, ?_⟩
    · cases j with
      | zero => simp [rowK] at hj ht; subst hj ht; exact rfl
      | succ j => simp [rowK] at hj ht; exact h5 j o t hj ht
    · simp only [rowK, rowOrd]
      rw [if_pos ⟨by omega, by omega⟩, show max ((all.length : Int) - 1) (-1) = all.length - 1 by omega]
      exact h6
  | some s :: l, all, h => by
    by_cases hm : key s ∈ all.map key
    · obtain ⟨m, h1, h2, h3, h4, h5, h6⟩ := rowK_spec l all h
      have hix := ixK_mem hm
      have hil : ixK (key s) (all.map key) < all.length := by have := ixK_lt hm; simpa using this
      have e : rowK key all (some s :: l) = ((rowK key all l).1, (ixK (key s) (all.map key) : Int) :: (rowK key all l).2) := by simp only [rowK, if_pos hm]
      rw [e]
      refine ⟨m, h1, h2, fun s hs => by simp [h3 s hs], by simp [h4], fun j o t hj ht => ?_, ?_⟩
      · cases j with
        | zero =>
          simp at hj ht
          subst hj ht
          rw [h1]
          exact Says.app key ⟨_, rfl, hix⟩
        | succ j => simp at hj ht; exact h5 j o t hj ht
      · simp only [rowOrd]
        rw [if_pos ⟨by omega, by omega⟩, show max ((all.length : Int) - 1) (ixK (key s) (all.map key)) = all.length - 1 by omega]
        exact h6
    · have hnd : ((all ++ [s]).map key).Nodup := by
        rw [List.map_append, List.map_cons, List.map_nil]
        refine List.nodup_append.2 ⟨h, by simp, fun a ha b hb => ?_⟩
        simp at hb
        subst hb
        exact fun e => hm (e ▸ ha)
      obtain ⟨m, h1, h2, h3, h4, h5, h6⟩ := rowK_spec l (all ++ [s]) hnd
      have e : rowK key all (some s :: l) = ((rowK key (all ++ [s]) l).1, (all.length : Int) :: (rowK key (all ++ [s]) l).2) := by simp only [rowK, if_neg hm]
      rw [e]
      refine ⟨s :: m, by rw [h1]; simp, h2, fun x hx => ?_, by simp [h4], fun j o t hj ht => ?_, ?_⟩
      · rcases List.mem_cons.1 hx with rfl | hx
        · simp
        · simp [h3 x hx]
      · cases j with
        | zero =>
          simp at hj ht
          subst hj ht
          rw [h1]
          exact Says.app key ⟨_, rfl, by simp⟩
        | succ j => simp at hj ht; exact h5 j o t hj ht
      · simp only [rowOrd]
        rw [if_pos ⟨by omega, by omega⟩, show max ((all.length : Int) - 1) all.length = ((all ++ [s]).length : Int) - 1 by simp; omega]
        exact h6
variable (f : σ → List (Option σ)) (s0 : σ)
/-- What is met, and the rows of numbers, behind i turns. -/
def met : Nat → List σ × List (List Int)
  | 0 => ([s0], [])
  | i + 1 => match (met i).1[i]? with
    | none => met i
    | some s => ((rowK key (met i).1 (f s)).1, (met i).2 ++ [(rowK key (met i).1 (f s)).2])
theorem met_step {i : Nat} {all : List σ} {rows : List (List Int)} (h : Met key f s0 i all rows) {s : σ} (hs : all[i]? = some s) : Met key f s0 (i + 1) (rowK key all (f s)).1 (rows ++ [(rowK key all (f s)).2]) := by
  have h0 := met_pos key f s0 h
  have hil := (List.getElem?_eq_some_iff.1 hs).1
  have hri : rows.length = i := by rcases h.many with h | h <;> omega
  obtain ⟨m, h1, h2, h3, h4, h5, h6⟩ := rowK_spec key (f s) all h.nodup
  have hsm : s ∈ all := List.mem_of_getElem? hs
  refine { first := ?_, nodup := h2, many := .inl ⟨by simp [hri], ?_⟩, row := fun k x r hk hr => ?_, ord := ?_, from' := fun x hx => ?_ }
  · rw [h1, List.getElem?_append_left h0]; exact h.first
  · rw [h1, List.length_append]; omega
  · by_cases hki : k < i
    · have hka : k < all.length := by omega
      rw [h1, List.getElem?_append_left hka] at hk
      rw [List.getElem?_append_left (by omega)] at hr
      obtain ⟨a, b⟩ := h.row k x r hk hr
      refine ⟨a, fun j o t hj ht => ?_⟩
      rw [h1]
      exact Says.app key (b j o t hj ht)
    · have hk2 : k = i := by
        have := (List.getElem?_eq_some_iff.1 hr).1
        simp at this
        omega
      subst hk2
      rw [h1, List.getElem?_append_left hil, hs] at hk
      rw [List.getElem?_append_right (by omega), hri] at hr
      simp at hk hr
      subst hk hr
      exact ⟨h4, h5⟩
  · rw [tabOrd_snoc, h.ord]
    simp only [Option.bind_some]
    rw [if_pos (by omega)]
    exact h6
  · rw [h1] at hx
    rcases List.mem_append.1 hx with hx | hx
    · rcases h.from' x hx with e | ⟨p, hp, hpx⟩
      · exact .inl e
      · exact .inr ⟨p, by rw [h1]; simp [hp], hpx⟩
    · exact .inr ⟨s, by rw [h1]; simp [hsm], h3 x hx⟩
theorem met_is (i : Nat) : Met key f s0 i (met key f s0 i).1 (met key f s0 i).2 := by
  induction i with
  | zero => exact ⟨rfl, by simp [met], .inl ⟨rfl, by simp [met]⟩, fun k s r _ h => by simp [met] at h, by simp [met, tabOrd], fun s hs => .inl (by simpa [met] using hs)⟩
  | succ i ih =>
    simp only [met]
    cases hs : (met key f s0 i).1[i]? with
    | none =>
      have := List.getElem?_eq_none_iff.1 hs
      simp only
      exact { ih with many := .inr ⟨by rcases ih.many with h | h <;> omega, by omega⟩ }
    | some s => exact met_step key f s0 ih hs
theorem met_end (i : Nat) (h : (met key f s0 i).1.length ≤ i) (k : Nat) : met key f s0 (i + k) = met key f s0 i := by
  induction k with
  | zero => rfl
  | succ k ih =>
    show met key f s0 (i + k + 1) = _
    simp only [met]
    rw [ih, List.getElem?_eq_none (by omega)]
/-- All that is met is good, if what is met first is, and what is asked for behind it. -/
theorem met_all (P : σ → Prop) (h0 : P s0) (hf : ∀ s, P s → ∀ t, some t ∈ f s → P t) (i : Nat) : ∀ s ∈ (met key f s0 i).1, P s := by
  induction i with
  | zero => simp [met, h0]
  | succ i ih =>
    simp only [met]
    cases hs : (met key f s0 i).1[i]? with
    | none => exact ih
    | some s =>
      have hi := met_is key f s0 i
      obtain ⟨m, h1, _, h3, _⟩ := rowK_spec key (f s) _ hi.nodup
      simp only
      rw [h1]
      intro x hx
      rcases List.mem_append.1 hx with hx | hx
      · exact ih x hx
      · exact hf s (ih s (List.mem_of_getElem? hs)) x (h3 x hx)
end
end Go.Proofs.D
/-
  THE READER: how much it makes; expressions are printed and read.
-/
set_option linter.unusedVariables false
set_option linter.unusedSimpArgs false
namespace Go.Proofs.D
open Go Go.Abs
attribute [local simp] VC VCS stepVS stepTopS firstId memN bigB unmark markT mkOff calmP keepT boundB boundC stepV stepTop stepReg stepOp stMove stPick stBin stUn stConv stBox stAlloc stLoad stStore stFieldAddr stField stExtract stNilCheck stMakeFunc stIndexAddr stIndex stLen
  stBuild placesOf fillA stBuildSlice sliceCells repL chunks allPV toPV drawOk drawOk.go mayMakeO mayMake1 disjoint pairS Oper.apart Oper.looksAt Op.operands Call.operands Region.binds stAppend appBase appTail unName stSlice bndA
  LS.ev LS.get LS.blk LS.put LS.app LS.upd lkS lkH setS setH Nm.eqb guardOf nexts okPair dstOk AV.cellsOf takeAt putAt lkT sliceE fieldT intK isStrT isBoolT abin newOk LS.freshB LS.freshB.go LS.freshB.goH notIn AV.ments AV.ments.mentsL Blk.ments makes upsMents LS.start startL exitTo T Nat.blt
  conv convS convH srcs srcOf blkOk leA leA.leL Go.Abs.leB leP laid laidM laidG isArg subH retP resAV resL res1 AV.frz AV.frz.frzL evL AV.ren AV.ren.renL Blk.ren renBs blksOf allSome nodupB onlyArgs blksMents callUps keyed inName inName.go backName callSide
/-- What a reader makes of a state. -/
structure Made (s : St) (e : E) (t : St) : Prop where
  cnt : (e.cnt : Int) + 1 ≤ 4 * (t.many - s.many)
  top : t.many ≤ 49
  small : e.small
/-- The same, of several. -/
structure MadeL (s : St) (l : List E) (t : St) : Prop where
  cnt : (((l.map fun e => e.cnt + 1).sum : Nat) : Int) ≤ 4 * (t.many - s.many)
  top : t.many ≤ 49
  small : ∀ e ∈ l, e.small
  one : 1 ≤ l.length
theorem none_cnt : E.none.cnt = 1 := rfl
theorem rounds_made {read : St → E × St} {k : Nat} (hp : ∀ s, Ready k s → Post s (read s).2) (hm : ∀ s, Ready k s → Made s (read s).1 (read s).2) (sign : ByteArray) : ∀ (n : Nat) (l : List E) (s0 s : St), Ready k s0 → Post s0 s → MadeL s0 l s →
    MadeL s0 (rounds read sign n l s).1 (rounds read sign n l s).2
  | 0, l, s0, s, h0, h, hl => hl
  | n + 1, l, s0, s, h0, h, hl => by
    simp only [rounds]
    split
    · exact hl
    · rename_i hb
      have hr := (h0.post h (by simpa using hb)).cut sign
      split
      · have q := hm _ hr
        refine rounds_made hp hm sign n _ s0 _ h0 ((h.cut sign).trans (hp _ hr)) ⟨?_, q.top, ?_, by simp⟩
        · have := q.cnt
          have := hl.cnt
          simp [St.cut] at *
          omega
        · intro e he
          rcases List.mem_append.1 he with h | h
          · exact hl.small e h
          · simp at h; subst h; exact q.small
      · exact ⟨hl.cnt, hl.top, hl.small, hl.one⟩
theorem sum_succ (l : List E) : (l.map fun e => e.cnt + 1).sum = (l.map E.cnt).sum + l.length := by
  induction l with
  | nil => rfl
  | cons x l ih => simp [ih]; omega
theorem several_made {read : St → E × St} {k : Nat} (hp : ∀ s, Ready k s → Post s (read s).2) (hm : ∀ s, Ready k s → Made s (read s).1 (read s).2) (op : Int) (sign : ByteArray) (s : St) (h : Ready k s) : Made s (several read op sign s).1 (several read op sign s).2 := by
  unfold several
  have q := hm s h
  have hr := rounds_made hp hm sign (s.left.size + 1) [(read s).1] s (read s).2 h (hp s h) ⟨by have := q.cnt; simpa using this, q.top, by simpa using q.small, by simp⟩
  generalize rounds read sign (s.left.size + 1) [(read s).1] (read s).2 = R at hr
  obtain ⟨l, t⟩ := R
  dsimp only at hr ⊢
  have hc := hr.cnt
  have ho := hr.one
  match l, hr, hc, ho with
  | [], hr, _, ho => simp at ho
  | [e], hr, hc, _ => exact ⟨by simpa using hc, hr.top, hr.small e (by simp)⟩
  | x :: y :: l, hr, hc, _ =>
    refine ⟨?_, hr.top, E.small_mk (by decide) hr.small⟩
    rw [sum_succ] at hc
    rw [cnt_eq]
    show ((1 + ((x :: y :: l).map E.cnt).sum : Nat) : Int) + 1 ≤ _
    simp at hc ⊢
    omega
theorem sfx_made (e : E) (s0 : St) (hs : e.small) : ∀ (l : List Int) (s : St), (e.cnt : Int) + 2 ≤ 4 * (s.many - s0.many) → s.many ≤ 49 → Made s0 (sfx e l s).1 (sfx e l s).2
  | [], s, h, ht => ⟨by simp only [sfx]; omega, ht, hs⟩
  | o :: l, s, h, ht => by
    simp only [sfx]
    split
    · refine ⟨?_, ht, E.small_mk (by decide) (by simpa using hs)⟩
      rw [cnt_eq]
      simp [E.kids, St.cut]
      omega
    · exact sfx_made e s0 hs l _ h ht
theorem itemN_made {tl : ByteArray → ByteArray} (htl : ∀ s, (tl s).size ≤ s.size) : ∀ (k : Nat) (s : St), Ready k s → Made s (itemN tl k s).1 (itemN tl k s).2
  | 0, s, h => by have := h.fuel; have := h.few; omega
  | k + 1, s, h => by
    simp only [itemN, itemF]
    have hw := wr64 (s.many + 1) (by have := h.many; have := h.few; omega)
    have hf := h.few
    split
    · exact ⟨by simp only [hw, none_cnt]; omega, by simp only [hw]; omega, E.small_mk (by decide) (by simp)⟩
    · rename_i h48
      rw [hw] at h48 ⊢
      have hr : Ready k { s with many := s.many + 1 } := ⟨h.bad, by have := h.many; simp; omega, by simp; omega, by have := h.fuel; simp; omega, h.size⟩
      have hseq : ∀ q, Ready k q → Post q (several (itemN tl k) 115 ⟨#[32]⟩ q).2 := fun q hq => several_post (itemN_post htl k) 115 ⟨#[32]⟩ q hq
      have hseqm : ∀ q, Ready k q → Made q (several (itemN tl k) 115 ⟨#[32]⟩ q).1 (several (itemN tl k) 115 ⟨#[32]⟩ q).2 := fun q hq => several_made (itemN_post htl k) (itemN_made htl k) 115 ⟨#[32]⟩ q hq
      have halt := fun q hq => several_made hseq hseqm 97 ⟨#[124]⟩ q hq
      have key : (baseF tl (several (several (itemN tl k) 115 ⟨#[32]⟩) 97 ⟨#[124]⟩) { s with many := s.many + 1 }).1.small ∧ ((baseF tl (several (several (itemN tl k) 115 ⟨#[32]⟩) 97 ⟨#[124]⟩) { s with many := s.many + 1 }).1.cnt : Int) + 2 ≤ 4 * ((baseF tl (several (several (itemN tl k) 115 ⟨#[32]⟩) 97 ⟨#[124]⟩) { s with many := s.many + 1 }).2.many - s.many) ∧ (baseF tl (several (several (itemN tl k) 115 ⟨#[32]⟩) 97 ⟨#[124]⟩) { s with many := s.many + 1 }).2.many ≤ 49 := by
        unfold baseF
        split
        · refine ⟨E.small_mk (by decide) (by simp), ?_, ?_⟩
          · rw [cnt_eq]; simp [E.kids, St.cut]; omega
          · simp [St.cut]; omega
        · dsimp only
          split
          · have hr2 := (hr.cut ⟨#[40, 41]⟩).cut ⟨#[40]⟩
            have hq := halt _ hr2
            have hc := hq.cnt
            simp [St.cut] at hc
            refine ⟨hq.small, ?_, hq.top⟩
            simp [St.cut]
            omega
          · refine ⟨E.small_mk ?_ (by simp), ?_, ?_⟩
            · have := ((hr.cut ⟨#[40, 41]⟩).cut ⟨#[40]⟩).size
              simp [ByteArray.size_extract] at this ⊢
              omega
            · rw [cnt_eq]; simp [E.kids, St.cut]; omega
            · simp [St.cut]; omega
      exact sfx_made _ s key.1 _ _ key.2.1 key.2.2
theorem altN_made {tl : ByteArray → ByteArray} (htl : ∀ s, (tl s).size ≤ s.size) (s : St) (h : Ready 49 s) : Made s (altN tl s).1 (altN tl s).2 :=
  several_made (fun q hq => several_post (itemN_post htl 49) 115 ⟨#[32]⟩ q hq) (fun q hq => several_made (itemN_post htl 49) (itemN_made htl 49) 115 ⟨#[32]⟩ q hq) 97 ⟨#[124]⟩ s h
/-- Printed: the text, and an error's number. -/
def E.print (e : E) : ByteArray × Int := if e.right = true then (e.text false, 0) else (⟨#[]⟩, 2)
theorem f17 (Gl : Granted) (e : E) (hs : e.small) (hc : e.cnt ≤ 1000000) : Fun Tryz.prog Gl 73 [e.av] [] (.tup [vS e.print.1, vI e.print.2]) [] := by
  refine fun_of (T := T) (n := 9) (rs := [.tmp 2, .tmp 3]) Tryz.func73 (by kernel_rfl) rfl rfl rfl tok mixed (by simp) fun C hC => ?_
  refine hC.vc [] 60 ?_
  simp [E.av, E.cells]
  refine hC.call [] (f18 Gl e hs) (by simp [E.av, E.cells]) ?_
  refine hC.vc [] 60 ?_
  cases hr : e.right with
  | false => simp [E.print, hr]
  | true =>
    have hok : e.ok = true := by simp [E.right] at hr; exact hr.2
    simp
    refine hC.call [] (f31 Gl e false hok hc) (by simp [E.av, E.cells]) ?_
    refine hC.vc [] 60 ?_
    simp [E.print, hr]
/-- strings.TrimLeft, of small letters. -/
def tl (s : ByteArray) : ByteArray := ⟨(Lib.trimLeftS s.data.toList low.data.toList).toArray⟩
theorem tl_size (s : ByteArray) : (tl s).size ≤ s.size := by
  have : (s.data.toList.dropWhile (low.data.toList.contains ·)).length ≤ s.data.toList.length := (List.dropWhile_sublist _).length_le
  have e1 : (tl s).size = (s.data.toList.dropWhile (low.data.toList.contains ·)).length := List.size_toArray
  have e2 : s.size = s.data.toList.length := Array.length_toList.symm
  omega
def read (s : ByteArray) : E × St := altN tl ⟨s, false, 0⟩
/-- The expression of a text, and an error's number. -/
def parse (s : ByteArray) : E × Int := if (read s).2.bad = false ∧ (read s).2.left = ⟨#[]⟩ ∧ (read s).1.right = true ∧ (read s).1.text false = s then ((read s).1, 0) else (E.none, 2)
set_option maxRecDepth 20000 in
theorem f13 (Gl : Granted) (s : ByteArray) (hs : s.size ≤ 1000000000) : Fun Tryz.prog Gl 42 [vS s] [] (.tup [(parse s).1.av, vI (parse s).2]) [] := by
  have h0 : Ready 49 ⟨s, false, 0⟩ := ⟨rfl, by simp, by simp, by simp, hs⟩
  have hm := altN_made tl_size _ h0
  have hcnt : (read s).1.cnt ≤ 1000000 := by
    have a : ((altN tl ⟨s, false, 0⟩).1.cnt : Int) + 1 ≤ 4 * ((altN tl ⟨s, false, 0⟩).2.many - 0) := hm.cnt
    have b := hm.top
    show (altN tl ⟨s, false, 0⟩).1.cnt ≤ 1000000
    omega
  have hsm : (read s).1.small := hm.small
  have hp : parse s = if (read s).2.bad = false ∧ (read s).2.left = ⟨#[]⟩ ∧ (read s).1.right = true ∧ (read s).1.text false = s then ((read s).1, 0) else (E.none, 2) := rfl
  generalize parse s = pr at hp ⊢
  subst hp
  refine fun_of (T := T) (n := 40) (rs := [.cell 2 24, .tmp 3]) Tryz.func42 (by kernel_rfl) rfl rfl rfl tok mixed (by simp) fun C hC => ?_
  refine hC.vc [] 60 ?_
  simp
  refine hC.call [.loc 10] (f28_start Gl tl (f99 Gl) tl_size ⟨s, false, 0⟩ h0) (by simp [E.av, E.cells]) ?_
  have hrd : altN tl ⟨s, false, 0⟩ = read s := rfl
  rw [hrd]
  generalize read s = R at hcnt hsm hC ⊢
  obtain ⟨e, r⟩ := R
  dsimp only at hcnt hsm hC ⊢
  refine hC.vc [] 60 ?_
  simp [E.av, E.cells]
  refine hC.call [] (f17 Gl e hsm hcnt) (by simp [E.av, E.cells]) ?_
  refine hC.vc [] 60 ?_
  cases hb : r.bad with
  | true => simp [E.none, E.op, E.name, E.kids, E.av, E.cells]
  | false =>
    by_cases hl : r.left = ⟨#[]⟩
    · cases hr : e.right with
      | false => simp [hl, E.print, hr, E.none, E.op, E.name, E.kids, E.av, E.cells]
      | true =>
        by_cases ht : e.text false = s
        · simp [hl, E.print, hr, ht, E.av, E.cells]
        · simp [hl, E.print, hr, ht, E.none, E.op, E.name, E.kids, E.av, E.cells]
    · simp [hl, E.none, E.op, E.name, E.kids, E.av, E.cells]
end Go.Proofs.D
