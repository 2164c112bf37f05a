/-
  EXPRESSIONS: as they are written.
-/
import Derived.Test.YtonomogpephfkaaDoorD3
import Derived.Test.YtonomogpephfkaaDoorDJ
set_option linter.unusedVariables false
set_option linter.unusedSimpArgs false
namespace Go.Proofs.D
open Go Go.Abs
attribute [local simp] VC stepV stepTop stepReg stepOp stMove stPick stBin stUn stConv stBox stAlloc stLoad stStore stFieldAddr stField stExtract stNilCheck stMakeFunc stIndexAddr stIndex stLen
  stBuild placesOf fillA stBuildSlice sliceCells repL chunks allPV toPV drawOk drawOk.go mayMakeO mayMake1 disjoint pairOk Oper.apart Oper.looksAt Op.operands Call.operands Region.binds stAppend appBase appTail unName stSlice bndA
  LS.ev LS.get LS.blk LS.put LS.app LS.upd lkS lkH setS setH Nm.eqb guardOf nexts okPair dstOk AV.cellsOf takeAt putAt lkT sliceE fieldT intK isStrT isBoolT abin newOk LS.freshB LS.freshB.go LS.freshB.goH notIn AV.ments AV.ments.mentsL Blk.ments makes upsMents LS.start startL exitTo T Nat.blt
  conv convS convH srcs srcOf blkOk leA leA.leL leB leP laid laidM isArg subH retP resAV resL res1 AV.frz AV.frz.frzL evL AV.ren AV.ren.renL Blk.ren renBs blksOf allSome nodupB onlyArgs blksMents callUps keyed inName inName.go backName callSide
def par (b : Bool) (s : ByteArray) : ByteArray := if b = true then ⟨#[40]⟩ ++ s ++ ⟨#[41]⟩ else s
def E.text : E → Bool → ByteArray
  | .mk op name kids, b =>
    if op = 110 then name
    else if op = 115 then (if kids.length = 0 then ⟨#[40, 41]⟩ else par b (joinB (go (!decide (op = 97)) kids) ⟨#[32]⟩))
    else if op = 97 then par b (joinB (go (!decide (op = 97)) kids) ⟨#[124]⟩)
    else joinB (go (!decide (op = 97)) kids) ⟨#[]⟩ ++ Utf8.encode (wr .i32 op)
where go (b : Bool) : List E → List ByteArray
  | [] => []
  | k :: l => k.text b :: go b l
theorem text_go (b : Bool) (l : List E) : E.text.go b l = l.map fun k => k.text b := by
  induction l with
  | nil => rfl
  | cons x l ih => simp [E.text.go, ih]
theorem text_eq (e : E) (b : Bool) : e.text b = (if e.op = 110 then e.name
    else if e.op = 115 then (if e.kids.length = 0 then ⟨#[40, 41]⟩ else par b (joinB (e.kids.map fun k => k.text (!decide (e.op = 97))) ⟨#[32]⟩))
    else if e.op = 97 then par b (joinB (e.kids.map fun k => k.text (!decide (e.op = 97))) ⟨#[124]⟩)
    else joinB (e.kids.map fun k => k.text (!decide (e.op = 97))) ⟨#[]⟩ ++ Utf8.encode (wr .i32 e.op)) := by
  obtain ⟨o, n, k⟩ := e
  simp only [E.text, text_go]
  rfl
def E.cnt : E → Nat
  | .mk _ _ kids => 1 + go kids
where go : List E → Nat
  | [] => 0
  | k :: l => k.cnt + go l
theorem cnt_eq (e : E) : e.cnt = 1 + (e.kids.map E.cnt).sum := by
  obtain ⟨o, n, k⟩ := e
  have : ∀ l, E.cnt.go l = (l.map E.cnt).sum := fun l => by induction l <;> simp [E.cnt.go, *]
  simp only [E.cnt, this]
  rfl
theorem cnt_kid {e k : E} (h : k ∈ e.kids) : k.cnt < e.cnt := by
  rw [cnt_eq e]
  have : ∀ l : List E, k ∈ l → k.cnt ≤ (l.map E.cnt).sum := by
    intro l
    induction l with
    | nil => intro h; cases h
    | cons x l ih =>
      intro h
      rcases List.mem_cons.1 h with rfl | h
      · simp
      · have := ih h; simp; omega
  have := this _ h
  omega
theorem join_len (xs : List (List UInt8)) (sep : List UInt8) : (Lib.join xs sep).length ≤ (xs.map fun x => x.length + sep.length).sum := by
  cases xs with
  | nil => simp [Lib.join_nil]
  | cons x r =>
    rw [Lib.join_cons]
    have : (Lib.joinTail sep r).length = (r.map fun x => x.length + sep.length).sum := by
      induction r with
      | nil => simp [Lib.joinTail]
      | cons y r ih => simp [Lib.joinTail] at ih ⊢; try omega
    simp only [List.length_append, this, List.map_cons, List.sum_cons]
    omega
theorem sum_le {α : Type} (l : List α) (f g : α → Nat) (h : ∀ x ∈ l, f x ≤ g x) : (l.map f).sum ≤ (l.map g).sum := by
  induction l with
  | nil => simp
  | cons x l ih =>
    have h1 := h x (by simp)
    have h2 := ih fun y hy => h y (by simp [hy])
    simp
    omega
theorem sum_mul (l : List E) : (l.map fun k => 16 * k.cnt).sum = 16 * (l.map E.cnt).sum := by
  induction l with
  | nil => simp
  | cons x l ih => simp [ih]; omega
theorem par_size (b : Bool) (s : ByteArray) : (par b s).size ≤ s.size + 2 := by
  unfold par
  split
  · simp [ByteArray.size_append]
    have e1 : (⟨#[40]⟩ : ByteArray).size = 1 := rfl
    have e2 : (⟨#[41]⟩ : ByteArray).size = 1 := rfl
    omega
  · omega
theorem isName_size {s : ByteArray} (h : isName s = true) : s.size ≤ 8 := by
  simp [isName] at h
  exact h.1.1.2
theorem ok_name {e : E} (h : e.ok = true) : e.name.size ≤ 8 := by
  rw [E.ok_eq] at h
  by_cases h1 : e.op = 110
  · simp [h1] at h
    rcases h.2 with h | h
    · exact isName_size h
    · rw [h]; decide
  · simp [h1] at h
    rw [h.1.1]; decide
theorem join_size (l : List ByteArray) (sep : ByteArray) : (joinB l sep).size ≤ (l.map fun x => x.size + sep.size).sum := by
  have := join_len (l.map (·.data.toList)) sep.data.toList
  simp only [List.map_map] at this
  have e1 : (joinB l sep).size = (Lib.join (l.map (·.data.toList)) sep.data.toList).length := by simp [joinB, ByteArray.size]
  rw [e1]
  refine Nat.le_trans this (Nat.le_of_eq ?_)
  congr 1
theorem enc42 : Utf8.encode (wr .i32 42) = ⟨#[42]⟩ := by kernel_rfl
theorem enc43 : Utf8.encode (wr .i32 43) = ⟨#[43]⟩ := by kernel_rfl
theorem enc63 : Utf8.encode (wr .i32 63) = ⟨#[63]⟩ := by kernel_rfl
theorem E.ok_opsS {e : E} (h : e.ok = true) (h1 : ¬ e.op = 110) (h2 : ¬ e.op = 115) (h3 : ¬ e.op = 97) : e.op = 42 ∨ e.op = 43 ∨ e.op = 63 := by
  rw [E.ok_eq, if_neg h1] at h
  simp [h2, h3] at h
  exact h.1.2.1.1
theorem e40 : (⟨#[40]⟩ : ByteArray).size = 1 := rfl
theorem e41 : (⟨#[41]⟩ : ByteArray).size = 1 := rfl
theorem kids_le (e : E) : e.kids.length ≤ e.cnt := by
  have : ∀ l : List E, l.length ≤ (l.map E.cnt).sum := fun l => by
    induction l with
    | nil => simp
    | cons x l ih => have : 1 ≤ x.cnt := (by rw [cnt_eq]; omega); simp; omega
  have := this e.kids
  have := cnt_eq e
  omega
def E.szOk (e : E) : Prop := ∀ b, (e.text b).size + 8 ≤ 16 * e.cnt
theorem join_bound' (e : E) (hk : ∀ k ∈ e.kids, k.szOk) (sep : ByteArray) (hs : sep.size ≤ 1) : (joinB (e.kids.map fun k => k.text (!decide (e.op = 97))) sep).size ≤ 16 * (e.cnt - 1) := by
  refine Nat.le_trans (join_size _ _) ?_
  rw [List.map_map, cnt_eq e, Nat.add_sub_cancel_left, ← sum_mul]
  exact sum_le _ _ _ fun k hk' => by have := hk k hk' (!decide (e.op = 97)); simp; omega
theorem text_size (e : E) (b : Bool) (h : e.ok = true) : (e.text b).size + 8 ≤ 16 * e.cnt := by
  have hn := ok_name h
  have hc : 1 ≤ e.cnt := by rw [cnt_eq]; omega
  by_cases h1 : e.op = 110
  · rw [text_eq, if_pos h1]; omega
  · have hk : ∀ k ∈ e.kids, ∀ b, (k.text b).size + 8 ≤ 16 * k.cnt := fun k hk b => text_size k b (by
      rw [E.ok_eq, if_neg h1] at h
      simp at h
      exact (h.2 k hk).2)
    have hj : ∀ sep : ByteArray, sep.size ≤ 1 → (joinB (e.kids.map fun k => k.text (!decide (e.op = 97))) sep).size ≤ 16 * (e.cnt - 1) := fun sep hs => by
      refine Nat.le_trans (join_size _ _) ?_
      rw [List.map_map, cnt_eq e, Nat.add_sub_cancel_left, ← sum_mul]
      exact sum_le _ _ _ fun k hk' => by have := hk k hk' (!decide (e.op = 97)); simp; omega
    have hc1 : 16 * (e.cnt - 1) + 16 = 16 * e.cnt := by omega
    rw [text_eq, if_neg h1]
    split
    · split
      · have : (⟨#[40, 41]⟩ : ByteArray).size = 2 := rfl
        omega
      · have := hj ⟨#[32]⟩ (by decide)
        have := par_size b (joinB (e.kids.map fun k => k.text (!decide (e.op = 97))) ⟨#[32]⟩)
        omega
    · split
      · have := hj ⟨#[124]⟩ (by decide)
        have := par_size b (joinB (e.kids.map fun k => k.text (!decide (e.op = 97))) ⟨#[124]⟩)
        omega
      · rename_i h2 h3
        rw [E.ok_eq, if_neg h1] at h
        simp [h2, h3] at h
        have := hj ⟨#[]⟩ (by decide)
        have he : (Utf8.encode (wr .i32 e.op)).size ≤ 4 := by
          rcases h.1.2.1.1 with h | h | h <;> rw [h]
          · rw [enc42]; decide
          · rw [enc43]; decide
          · rw [enc63]; decide
        rw [ByteArray.size_append]
        omega
termination_by SizeOf.sizeOf e
decreasing_by exact E.kids_lt hk
theorem join_bound (e : E) (h : e.ok = true) (h1 : ¬ e.op = 110) (sep : ByteArray) (hs : sep.size ≤ 1) : (joinB (e.kids.map fun k => k.text (!decide (e.op = 97))) sep).size ≤ 16 * (e.cnt - 1) :=
  join_bound' e (fun k hk b => text_size k b (by
    rw [E.ok_eq, if_neg h1] at h
    simp at h
    exact (h.2 k hk).2)) sep hs
set_option maxRecDepth 20000 in
theorem f31 (Gl : Granted) (e : E) (b : Bool) (hok : e.ok = true) (hc : e.cnt ≤ 1000000) : Fun Tryd.prog Gl 31 [e.av, vB b] [] (vS (e.text b)) [] := by
  have hk : ∀ k ∈ e.kids, ∀ b, Fun Tryd.prog Gl 31 [k.av, vB b] [] (vS (k.text b)) [] := fun k hk b => f31 Gl k b (by
    rw [E.ok_eq] at hok
    by_cases h1 : e.op = 110
    · simp [h1] at hok
      rw [hok.1] at hk
      cases hk
    · rw [if_neg h1] at hok
      simp at hok
      exact (hok.2 k hk).2) (by have := cnt_kid hk; omega)
  refine fun_of (T := T) (n := 55) (rs := [.tmp 4]) Tryd.func31 (by kernel_rfl) rfl rfl rfl tok mixed (by simp) fun C hC => ?_
  refine hC.vc [] 9 ?_
  simp [E.av, E.cells]
  obtain ⟨ts, hts⟩ : ∃ ts : List ByteArray, (e.kids.map fun k => k.text (!decide (e.op = 97))) = ts := ⟨_, rfl⟩
  refine go_cut (ι := Unit) (fun _ => ⟨[(1, vB b), (2, .ptr (.loc 2) 0), (5, .pv (.ro 1 (ts.map fun s => [.val (.string s)])))], [(.loc 2, some (.box 25 e.cells))]⟩) (fun _ => ?_) (fun tail => ?_)
  · skip
    have hlen : ts.length ≤ 140737488355328 := by
      rw [← hts, List.length_map]
      have := kids_le e
      omega
    have hj : ¬ e.op = 110 → ∀ sep : ByteArray, sep.size ≤ 1 → (joinB ts sep).size ≤ 140737488355328 := fun h1 sep hs => by
      have := join_bound e hok h1 sep hs
      rw [hts] at this
      omega
    refine hC.vc [] 60 ?_
    have ht := text_eq e b
    rw [hts] at ht
    by_cases h1 : e.op = 110
    · rw [if_pos h1] at ht
      simp [E.cells, h1, ht]
    · by_cases h2 : e.op = 115
      · by_cases h0 : e.kids = []
        · simp [h0, h2] at ht
          simp [E.cells, h2, h0, ht]
        · rw [if_neg h1, if_pos h2, if_neg (by simpa using h0)] at ht
          simp [E.cells, h2, h0]
          refine hC.call [] (f39 Gl ts ⟨#[32]⟩ hlen (hj h1 _ (by decide))) (by simp) ?_
          refine hC.vc [] 60 ?_
          have := hj h1 ⟨#[32]⟩ (by decide)
          cases b <;> simp [ht, par, e40, e41]
          omega
      · rw [if_neg h1, if_neg h2] at ht
        by_cases h3 : e.op = 97
        · rw [if_pos h3] at ht
          simp [E.cells, h3]
          refine hC.call [] (f39 Gl ts ⟨#[124]⟩ hlen (hj h1 _ (by decide))) (by simp) ?_
          refine hC.vc [] 60 ?_
          have := hj h1 ⟨#[124]⟩ (by decide)
          cases b <;> simp [ht, par, e40, e41]
          omega
        · rw [if_neg h3] at ht
          simp [E.cells, h1, h2, h3]
          refine hC.call [] (f39 Gl ts ⟨#[]⟩ hlen (hj h1 _ (by decide))) (by simp) ?_
          refine hC.vc [] 60 ?_
          have := hj h1 ⟨#[]⟩ (by decide)
          have he : (Utf8.encode (wr .i32 e.op)).size ≤ 4 := by
            rcases E.ok_opsS hok h1 h2 h3 with h | h | h <;> rw [h]
            · rw [enc42]; decide
            · rw [enc43]; decide
            · rw [enc63]; decide
          simp [ht]
          omega
  · refine hC.vc [] 20 ?_
    simp
    refine go_len 10 3 (e.kids.map E.pv) (by simp) fun hl => ?_
    rw [List.length_map] at hl
    refine go_loop (ι := {i : Nat // i ≤ e.kids.length}) (fun x => ⟨[(1, vB b), (2, .ptr (.loc 2) 0), (5, .own (.can 0)), (10, .pv (.ro 3 (e.kids.map E.pv))), (11, vI e.kids.length), (12, vI x.1)],
        [(.loc 2, some (.box 25 e.cells)), (.can 0, some (.row 9 1 ((ts.take x.1).map fun s => [.val (.string s)])))]⟩) (fun x => e.kids.length - x.1) ⟨0, Nat.zero_le _⟩ [(.can 0, .nil)] (by simp [E.cells]) fun x ih => ?_
    obtain ⟨i, hi⟩ := x
    simp only at hi ih
    have htl : ts.length = e.kids.length := by rw [← hts, List.length_map]
    have hkl := kids_le e
    by_cases hlt : i < e.kids.length
    · have hti : ts[i]? = some (e.kids[i].text (!decide (e.op = 97))) := by rw [← hts, List.getElem?_map, List.getElem?_eq_getElem hlt]; rfl
      have htk : ts.take (i + 1) = ts.take i ++ [e.kids[i].text (!decide (e.op = 97))] := by rw [List.take_add_one, hti]; rfl
      have hw1 := wr64 ((i : Int) + 1) (by omega)
      refine hC.vc [] 60 ?_
      by_cases h97 : e.op = 97
      · simp [hlt, E.pv_eq, E.cells, h97]
        refine hC.call [] (hk e.kids[i] (by simp) false) (by simp [E.av, E.cells]) ?_
        refine hC.vc [] 60 ?_
        simp [h97] at htk
        simp
        refine ⟨by omega, ?_⟩
        exact go_to [(.can 0, .nm (.loc 23))] (ih ⟨i + 1, hlt⟩ (by simp; omega)) (by simp [hw1, E.cells, htk, h97])
      · simp [hlt, E.pv_eq, E.cells, h97]
        refine hC.call [] (hk e.kids[i] (by simp) true) (by simp [E.av, E.cells]) ?_
        refine hC.vc [] 60 ?_
        simp [h97] at htk
        simp
        refine ⟨by omega, ?_⟩
        exact go_to [(.can 0, .nm (.loc 23))] (ih ⟨i + 1, hlt⟩ (by simp; omega)) (by simp [hw1, E.cells, htk])
    · refine hC.vc [] 7 ?_
      simp [hlt]
      have : (ts.map fun s => [PV.val (.string s)]).take i = ts.map fun s => [PV.val (.string s)] := List.take_of_length_le (by simp; omega)
      exact go_to [] (tail ()) (by simp [this, E.cells])
termination_by SizeOf.sizeOf e
decreasing_by exact E.kids_lt hk
end Go.Proofs.D
