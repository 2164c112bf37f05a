/-
  SETS OF PLACES: what is laid into one out of another one.
-/
import Derived.Test.YtciibpfhjfegnaaGreatDoorLO
import Derived.Test.YtciibpfhjfegnaaGreatDoorAbsP
set_option linter.unusedVariables false
set_option linter.unusedSimpArgs false
namespace Go.Proofs.D
open Go Go.Abs
attribute [local simp] VC VCS stepVS stepTopS firstId memN bigB unmark markT mkOff calmP keepT boundB boundC stepV stepTop stepReg stepOp stMove stPick stBin stUn stConv stBox stAlloc stLoad stStore stFieldAddr stField stExtract stNilCheck stMakeFunc stIndexAddr stIndex stLen
  stBuild placesOf fillA stBuildSlice sliceCells repL chunks allPV toPV drawOk drawOk.go mayMakeO mayMake1 disjoint pairS Oper.apart Oper.looksAt Op.operands Call.operands Region.binds stAppend appBase appTail unName stSlice bndA
  LS.ev LS.get LS.blk LS.put LS.app LS.upd lkS lkH setS setH Nm.eqb guardOf nexts okPair dstOk AV.cellsOf takeAt putAt lkT sliceE fieldT intK isStrT isBoolT abin newOk LS.freshB LS.freshB.go LS.freshB.goH notIn AV.ments AV.ments.mentsL Blk.ments makes upsMents LS.start startL exitTo T Nat.blt
  conv convS convH srcs srcOf blkOk leA leA.leL Go.Abs.leB leP laid laidM laidG isArg subH retP resAV resL res1 AV.frz AV.frz.frzL evL AV.ren AV.ren.renL Blk.ren renBs blksOf allSome nodupB onlyArgs blksMents callUps keyed inName inName.go backName callSide
theorem setQ_mono {P : Program} {k e N : Nat} {S S' : Nat → Prop} (h : ∀ i, S i ↔ S' i) (o : Obj) (ho : setQ P k e N S o) : setQ P k e N S' o := by
  have : S = S' := funext fun i => propext (h i)
  exact this ▸ ho
theorem setQ_congr {P : Program} {k e N : Nat} {S S' : Nat → Prop} (h : ∀ i, S i ↔ S' i) : setQ P k e N S = setQ P k e N S' := by
  have : S = S' := funext fun i => propext (h i)
  rw [this]
abbrev rowAV (w : List ByteArray) : AV := .pv (.ro 1 (w.map fun s => [.val (.string s)]))
abbrev Q (N : Nat) (S : Nat → Prop) : Obj → Prop := setQ Tryz.prog 3 3 N S
theorem im66 : IntMap Tryz.prog 112 3 3 := ⟨Tryz.underlying112, Tryz.underlying3, Tryz.underlying3, fun w => by kernel_rfl⟩
theorem f63 (Gl : Granted) (N : Nat) (hN : N + 1 < maxLen) (S1 S2 : Nat → Prop) : Fun Tryz.prog Gl 103 [.hmap (.arg 0), .rom (Q N S2)] [some (.raw (Q N S1))] (.tup []) [some (.raw (Q N fun i => S1 i ∨ S2 i))] := by
  refine fun_of (T := T) (n := 16) (rs := []) Tryz.func103 (by kernel_rfl) rfl rfl rfl tok mixed (by simp) fun C hC => ?_
  refine hC.vc [] 60 ?_
  simp
  refine hC.setRange im66 (N := N) (S := S2) (by rfl) (by rfl) (by simp) ?_
  refine hC.vc [] 60 ?_
  simp
  refine go_loop (ι := {x : (Nat → Prop) × Option Nat // ∀ i, x.1 i → S2 i}) (fun x => ⟨[(0, .hmap (.arg 0)), (7, .ptr (.loc 7) 0)], [(.arg 0, some (.raw (Q N fun i => S1 i ∨ x.1.1 i))), (.loc 7, some (.iter (iterS Tryz.prog 3 3 N S2 x.1.1 x.1.2)))]⟩)
    (fun x => cardN N fun i => S2 i ∧ ¬ x.1.1 i) ⟨(fun _ => False, none), fun _ h => h.elim⟩ [] (by simp) fun x ih => ?_
  obtain ⟨⟨M, last⟩, hM⟩ := x
  simp only at ih hM
  refine hC.vc [] 60 ?_
  simp
  refine hC.setNext im66 (.loc 7) (N := N) (S := S2) (M := M) (last := last) (by rfl) (by simp) (fun hall => ?_) (fun j h1 h2 h3 => ?_)
  · refine hC.vc [] 60 ?_
    simp
    have : M = S2 := funext fun i => propext ⟨hM i, hall i⟩
    rw [this]
  · refine hC.vc [] 60 ?_
    simp
    refine hC.setEntry (.loc 7) (N := N) (S := S2) (k := 3) (e := 3) (j := j) (M := fun i => M i ∨ i = j) (by rfl) (by simp) ?_
    refine hC.vc [] 60 ?_
    simp
    refine hC.setPut im66 (.arg 0) (S := fun i => S1 i ∨ M i) hN h3 (.inl (by rfl)) (by simp) ?_
    refine hC.vc [] 60 ?_
    simp
    refine go_to [] (ih ⟨(fun i => M i ∨ i = j, some j), fun i hi => ?_⟩ ?_) ?_
    · rcases hi with hi | rfl
      · exact hM i hi
      · exact h1
    · exact cardN_lt (fun i ⟨a1, a2⟩ => ⟨a1, fun h => a2 (.inl h)⟩) j h3 ⟨h1, h2⟩ (fun ⟨_, a2⟩ => a2 (.inr rfl))
    · simp
      refine setQ_mono fun i => ?_
      constructor
      · rintro ((h | h) | h)
        · exact .inl h
        · exact .inr (.inl h)
        · exact .inr (.inr h)
      · rintro (h | h | h)
        · exact .inl (.inl h)
        · exact .inl (.inr h)
        · exact .inr h
theorem f62 (Gl : Granted) (N : Nat) (hN : N + 1 < maxLen) (S1 S2 : Nat → Prop) : Fun Tryz.prog Gl 102 [.rom (Q N S2), .ptr (.arg 0) 0] [some (.box 112 [.hmap (.arg 1)]), some (.raw (Q N S1))] (.tup []) [some (.box 112 [.hmap (.arg 1)]), some (.raw (Q N fun i => S1 i ∨ S2 i))] := by
  refine fun_of (T := T) (n := 6) (rs := []) Tryz.func102 (by kernel_rfl) rfl rfl rfl tok mixed (by simp) fun C hC => ?_
  refine hC.vc [] 60 ?_
  simp
  refine hC.call [.arg 1] (f63 Gl N hN S1 S2) (by simp) ?_
  refine hC.vc [] 60 ?_
  simp
set_option maxRecDepth 20000 in
theorem f34_name (Gl : Granted) (N : Nat) (hN : N + 1 < maxLen) (w : Row) (hw : w.length = N) (e : E) (hop : e.op = 110) (S : Nat → Prop) :
    Fun Tryz.prog Gl 51 [e.av, rowAV w, .rom (Q N S)] [] (.rom (Q N (stepP (fun v => v = [e.name]) w S))) [] := by
  refine fun_of (T := T) (n := 120) (rs := [.tmp 6]) Tryz.func51 (by kernel_rfl) rfl rfl rfl tok mixed (by simp) fun C hC => ?_
  refine hC.vc [] 60 ?_
  simp [E.av, E.cells, hop]
  refine hC.makeSet 3 3 N (by rfl) (by rfl) (by simp) ?_
  refine hC.vc [] 60 ?_
  simp [hop]
  refine hC.setRange im66 (N := N) (S := S) (by rfl) (by rfl) (by simp) ?_
  refine hC.vc [] 60 ?_
  simp
  refine go_len 1 1 (w.map fun s => [.val (.string s)]) (by simp) fun hlen => ?_
  rw [List.length_map] at hlen
  refine go_loop (ι := {x : (Nat → Prop) × Option Nat // ∀ i, x.1 i → S i}) (fun x => ⟨[(1, rowAV w), (3, .ptr (.loc 3) 0), (7, .ptr (.loc 7) 0), (53, .ptr (.loc 53) 0)],
      [(.loc 3, some (.box 24 e.cells)), (.loc 16, some (.raw (Q N fun i => ∃ k, x.1.1 k ∧ i = k + 1 ∧ w[k]? = some e.name))), (.loc 7, some (.box 112 [.hmap (.loc 16)])), (.loc 53, some (.iter (iterS Tryz.prog 3 3 N S x.1.1 x.1.2)))]⟩)
    (fun x => cardN N fun i => S i ∧ ¬ x.1.1 i) ⟨(fun _ => False, none), fun _ h => h.elim⟩ [] (by simp [E.cells, hop]) fun x ih => ?_
  obtain ⟨⟨M, last⟩, hM⟩ := x
  simp only at ih hM
  refine hC.vc [] 60 ?_
  simp
  refine hC.setNext im66 (.loc 53) (N := N) (S := S) (M := M) (last := last) (by rfl) (by simp) (fun hall => ?_) (fun j h1 h2 h3 => ?_)
  · refine hC.vc [] 60 ?_
    simp
    have : M = S := funext fun i => propext ⟨hM i, hall i⟩
    subst this
    refine setQ_congr fun j => ?_
    exact (stepP_name _ _ _ _).symm
  · refine hC.vc [] 60 ?_
    simp
    refine hC.setEntry (.loc 53) (N := N) (S := S) (k := 3) (e := 3) (j := j) (M := fun i => M i ∨ i = j) (by rfl) (by simp) ?_
    refine hC.vc [] 60 ?_
    have hIM : ∀ i, (M i ∨ i = j) → S i := fun i hi => by
      rcases hi with hi | rfl
      · exact hM i hi
      · exact h1
    have hlt : (cardN N fun i => S i ∧ ¬(M i ∨ i = j)) < cardN N fun i => S i ∧ ¬M i := cardN_lt (fun i ⟨a1, a2⟩ => ⟨a1, fun h => a2 (.inl h)⟩) j h3 ⟨h1, h2⟩ (fun ⟨_, a2⟩ => a2 (.inr rfl))
    by_cases hj : j < w.length
    · by_cases hn : w[j] = e.name
      · simp [hj, hn, E.cells]
        have hw1 := wr64 ((j : Int) + 1) (by omega)
        refine hC.setPut im66 (.loc 16) (j := j + 1) (S := fun i => ∃ k, M k ∧ i = k + 1 ∧ w[k]? = some e.name) hN (by omega) (.inl (by rfl)) (by simp [hw1]) ?_
        refine hC.vc [] 60 ?_
        simp
        refine go_to [] (ih ⟨(fun i => M i ∨ i = j, some j), hIM⟩ hlt) ?_
        simp [E.cells]
        refine setQ_mono fun i => ?_
        constructor
        · rintro (⟨k, a1, a2, a3⟩ | rfl)
          · exact .inl ⟨k, a1, a2, a3⟩
          · exact .inr ⟨rfl, by rw [List.getElem?_eq_getElem hj, hn]⟩
        · rintro (⟨k, a1, a2, a3⟩ | ⟨a2, a3⟩)
          · exact .inl ⟨k, a1, a2, a3⟩
          · exact .inr a2
      · simp [hj, hn, E.cells]
        refine go_to [] (ih ⟨(fun i => M i ∨ i = j, some j), hIM⟩ hlt) ?_
        simp [E.cells]
        refine setQ_mono fun i => ?_
        constructor
        · rintro ⟨k, a1, a2, a3⟩
          exact .inl ⟨k, a1, a2, a3⟩
        · rintro (⟨k, a1, a2, a3⟩ | ⟨a2, a3⟩)
          · exact ⟨k, a1, a2, a3⟩
          · rw [List.getElem?_eq_getElem hj] at a3
            exact absurd (Option.some.inj a3) hn
    · simp [hj, E.cells]
      refine go_to [] (ih ⟨(fun i => M i ∨ i = j, some j), hIM⟩ hlt) ?_
      simp [E.cells]
      refine setQ_mono fun i => ?_
      constructor
      · rintro ⟨k, a1, a2, a3⟩
        exact .inl ⟨k, a1, a2, a3⟩
      · rintro (⟨k, a1, a2, a3⟩ | ⟨a2, a3⟩)
        · exact ⟨k, a1, a2, a3⟩
        · rw [List.getElem?_eq_none (by omega)] at a3
          cases a3
set_option maxRecDepth 20000 in
theorem f34_seq (Gl : Granted) (N : Nat) (hN : N + 1 < maxLen) (w : Row) (hw : w.length = N) (e : E) (hop : e.op = 115) (S : Nat → Prop) (hS : ∀ i, S i → i ≤ N)
    (hk : ∀ k ∈ e.kids, ∀ S, (∀ i, S i → i ≤ N) → Fun Tryz.prog Gl 51 [k.av, rowAV w, .rom (Q N S)] [] (.rom (Q N (stepP k.L w S))) []) :
    Fun Tryz.prog Gl 51 [e.av, rowAV w, .rom (Q N S)] [] (.rom (Q N (stepP (E.L.seqL e.kids) w S))) [] := by
  refine fun_of (T := T) (n := 120) (rs := [.tmp 6]) Tryz.func51 (by kernel_rfl) rfl rfl rfl tok mixed (by simp) fun C hC => ?_
  refine hC.vc [] 60 ?_
  simp [E.av, E.cells, hop]
  refine hC.makeSet 3 3 N (by rfl) (by rfl) (by simp) ?_
  refine hC.vc [] 60 ?_
  simp [hop]
  refine go_len 78 3 (e.kids.map E.pv) (by simp) fun hlen => ?_
  rw [List.length_map] at hlen
  refine go_loop (ι := {x : Nat × (Nat → Prop) // x.1 ≤ e.kids.length ∧ (∀ i, x.2 i → i ≤ N) ∧ stepP (E.L.seqL e.kids) w S = stepP (E.L.seqL (e.kids.drop x.1)) w x.2})
    (fun x => ⟨[(1, rowAV w), (3, .ptr (.loc 3) 0), (7, .ptr (.loc 7) 0), (78, .pv (.ro 3 (e.kids.map E.pv))), (79, vI e.kids.length), (80, vI x.1.1)],
      [(.loc 3, some (.box 24 e.cells)), (.loc 7, some (.box 112 [.rom (Q N x.1.2)]))]⟩)
    (fun x => e.kids.length - x.1.1) ⟨(0, S), by simp; exact hS⟩ [] (by simp [E.cells, hop]) fun x ih => ?_
  obtain ⟨⟨i, S'⟩, hi, hS', hn⟩ := x
  simp only at ih hi hS' hn
  refine hC.vc [] 60 ?_
  by_cases hlt : i < e.kids.length
  · rw [List.drop_eq_getElem_cons hlt] at hn
    simp [hlt, E.pv_eq, E.cells]
    refine hC.call [] (hk e.kids[i] (by simp) S' hS') (by simp [E.av, E.cells]) ?_
    refine hC.vc [] 60 ?_
    simp
    have hw1 := wr64 ((i : Int) + 1) (by omega)
    refine go_to [] (ih ⟨(i + 1, stepP e.kids[i].L w S'), hlt, fun j hj => hw ▸ hj.1, ?_⟩ (by simp; omega)) (by simp [hw1, E.cells])
    rw [hn]
    exact stepP_cat _ _ _ _
  · simp [hlt]
    rw [List.drop_eq_nil_of_le (by omega)] at hn
    rw [hn]
    have : stepP (E.L.seqL []) w S' = S' := stepP_nil (fun i hi => hw ▸ hS' i hi)
    rw [this]
set_option maxRecDepth 20000 in
theorem f34_alt (Gl : Granted) (N : Nat) (hN : N + 1 < maxLen) (w : Row) (hw : w.length = N) (e : E) (hop : e.op = 97) (S : Nat → Prop) (hS : ∀ i, S i → i ≤ N)
    (hk : ∀ k ∈ e.kids, ∀ S, (∀ i, S i → i ≤ N) → Fun Tryz.prog Gl 51 [k.av, rowAV w, .rom (Q N S)] [] (.rom (Q N (stepP k.L w S))) []) :
    Fun Tryz.prog Gl 51 [e.av, rowAV w, .rom (Q N S)] [] (.rom (Q N (stepP (E.L.altL e.kids) w S))) [] := by
  refine fun_of (T := T) (n := 120) (rs := [.tmp 6]) Tryz.func51 (by kernel_rfl) rfl rfl rfl tok mixed (by simp) fun C hC => ?_
  refine hC.vc [] 60 ?_
  simp [E.av, E.cells, hop]
  refine hC.makeSet 3 3 N (by rfl) (by rfl) (by simp) ?_
  refine hC.vc [] 60 ?_
  simp [hop]
  refine go_len 92 3 (e.kids.map E.pv) (by simp) fun hlen => ?_
  rw [List.length_map] at hlen
  refine go_loop (ι := {x : Nat × (Nat → Prop) // x.1 ≤ e.kids.length ∧ ∀ j, stepP (E.L.altL e.kids) w S j ↔ x.2 j ∨ stepP (E.L.altL (e.kids.drop x.1)) w S j})
    (fun x => ⟨[(1, rowAV w), (2, .rom (Q N S)), (3, .ptr (.loc 3) 0), (7, .ptr (.loc 7) 0), (8, .fn (.func 102) [] [.ptr (.loc 7) 0]), (92, .pv (.ro 3 (e.kids.map E.pv))), (93, vI e.kids.length), (94, vI x.1.1)],
      [(.loc 3, some (.box 24 e.cells)), (.loc 16, some (.raw (Q N x.1.2))), (.loc 7, some (.box 112 [.hmap (.loc 16)]))]⟩)
    (fun x => e.kids.length - x.1.1) ⟨(0, fun _ => False), by simp⟩ [] (by simp [E.cells, hop]) fun x ih => ?_
  obtain ⟨⟨i, O⟩, hi, hn⟩ := x
  simp only at ih hi hn
  refine hC.vc [] 60 ?_
  by_cases hlt : i < e.kids.length
  · rw [List.drop_eq_getElem_cons hlt] at hn
    simp [hlt, E.pv_eq, E.cells]
    refine hC.call [] (hk e.kids[i] (by simp) S hS) (by simp [E.av, E.cells]) ?_
    refine hC.vc [] 60 ?_
    simp
    refine hC.call [.loc 7, .loc 16] (f62 Gl N hN O (stepP e.kids[i].L w S)) (by simp) ?_
    refine hC.vc [] 60 ?_
    simp
    have hw1 := wr64 ((i : Int) + 1) (by omega)
    refine go_to [] (ih ⟨(i + 1, fun j => O j ∨ stepP e.kids[i].L w S j), hlt, fun j => ?_⟩ (by simp; omega)) (by simp [hw1, E.cells])
    rw [hn j, or_assoc]
    exact or_congr Iff.rfl (stepP_or _ _ _ _ j)
  · simp [hlt]
    refine setQ_congr fun j => ?_
    rw [hn j, List.drop_eq_nil_of_le (by omega)]
    exact ⟨.inl, fun h => h.elim id fun ⟨_, _, _, _, h⟩ => h.elim⟩
set_option maxRecDepth 20000 in
theorem f34_opt (Gl : Granted) (N : Nat) (hN : N + 1 < maxLen) (w : Row) (hw : w.length = N) (e : E) (hop : e.op = 63) (k : E) (hkk : e.kids = [k]) (S : Nat → Prop) (hS : ∀ i, S i → i ≤ N)
    (hk : ∀ k ∈ e.kids, ∀ S, (∀ i, S i → i ≤ N) → Fun Tryz.prog Gl 51 [k.av, rowAV w, .rom (Q N S)] [] (.rom (Q N (stepP k.L w S))) []) :
    Fun Tryz.prog Gl 51 [e.av, rowAV w, .rom (Q N S)] [] (.rom (Q N (fun j => S j ∨ stepP k.L w S j))) [] := by
  refine fun_of (T := T) (n := 120) (rs := [.tmp 6]) Tryz.func51 (by kernel_rfl) rfl rfl rfl tok mixed (by simp) fun C hC => ?_
  refine hC.vc [] 60 ?_
  simp [E.av, E.cells, hop, hkk]
  refine hC.makeSet 3 3 N (by rfl) (by rfl) (by simp) ?_
  refine hC.vc [] 60 ?_
  simp [hop]
  refine hC.call [.loc 7, .loc 16] (f62 Gl N hN (fun _ => False) S) (by simp) ?_
  refine hC.vc [] 60 ?_
  simp [E.pv_eq k]
  refine hC.call [] (hk k (by simp [hkk]) S hS) (by simp [E.av, E.cells]) ?_
  refine hC.vc [] 60 ?_
  simp
  refine hC.call [.loc 7, .loc 16] (f62 Gl N hN (fun i => False ∨ S i) (stepP k.L w S)) (by simp) ?_
  refine hC.vc [] 60 ?_
  simp
set_option maxRecDepth 20000 in
theorem f34_rep (Gl : Granted) (N : Nat) (hN : N + 1 < maxLen) (w : Row) (hw : w.length = N) (e : E) (hop : e.op = 42 ∨ e.op = 43) (k : E) (hkk : e.kids = [k]) (S : Nat → Prop) (hS : ∀ i, S i → i ≤ N)
    (hk : ∀ k ∈ e.kids, ∀ S, (∀ i, S i → i ≤ N) → Fun Tryz.prog Gl 51 [k.av, rowAV w, .rom (Q N S)] [] (.rom (Q N (stepP k.L w S))) []) :
    Fun Tryz.prog Gl 51 [e.av, rowAV w, .rom (Q N S)] [] (.rom (Q N (fun j => (e.op = 42 ∧ S j) ∨ stepP (Many k.L) w S j))) [] := by
  refine fun_of (T := T) (n := 120) (rs := [.tmp 6]) Tryz.func51 (by kernel_rfl) rfl rfl rfl tok mixed (by simp) fun C hC => ?_
  have hB : ∀ i, (e.op = 42 ∧ S i) → S i := fun i h => h.2
  rcases hop with hop | hop
  refine hC.vc [] 60 ?_
  simp [E.av, E.cells, hop, hkk]
  refine hC.makeSet 3 3 N (by rfl) (by rfl) (by simp) ?_
  refine hC.vc [] 60 ?_
  simp [hop]
  refine hC.call [.loc 7, .loc 16] (f62 Gl N hN (fun _ => False) S) (by simp) ?_
  refine hC.vc [] 60 ?_
  simp [E.pv_eq k]
  refine hC.call [] (hk k (by simp [hkk]) S hS) (by simp [E.av, E.cells]) ?_
  refine hC.vc [] 60 ?_
  simp
  rotate_left
  refine hC.vc [] 60 ?_
  simp [E.av, E.cells, hop, hkk]
  refine hC.makeSet 3 3 N (by rfl) (by rfl) (by simp) ?_
  refine hC.vc [] 60 ?_
  simp [hop, E.pv_eq k]
  refine hC.call [] (hk k (by simp [hkk]) S hS) (by simp [E.av, E.cells]) ?_
  refine hC.vc [] 60 ?_
  simp
  all_goals
    refine go_loop (ι := {x : (Nat → Prop) × (Nat → Prop) // Rounds k.L w S (fun i => e.op = 42 ∧ S i) x.1 x.2 ∧ (∀ i, x.2 i → i ≤ N)})
      (fun x => ⟨[(1, rowAV w), (3, .ptr (.loc 3) 0), (7, .ptr (.loc 7) 0), (8, .fn (.func 102) [] [.ptr (.loc 7) 0]), (14, .rom (Q N x.1.2))],
        [(.loc 3, some (.box 24 e.cells)), (.loc 16, some (.raw (Q N x.1.1))), (.loc 7, some (.box 112 [.hmap (.loc 16)]))]⟩)
      (fun x => N + 1 - cardN N x.1.1) ⟨(fun i => e.op = 42 ∧ S i, stepP k.L w S), rounds_start hB, fun i hi => hw ▸ hi.1⟩ [] (by
        simp [E.cells, hop, hkk, E.pv_eq k] <;> exact setQ_mono fun i => by simp [hop]) fun x ih => ?_
    obtain ⟨⟨O, X⟩, hR, hX⟩ := x
    simp only at ih hR hX
    refine hC.vc [] 60 ?_
    simp
    refine hC.setLen im66 (.loc 16) (N := N) (S := O) (by rfl) (by simp) ?_
    refine hC.vc [] 60 ?_
    simp
    refine hC.call [.loc 7, .loc 16] (f62 Gl N hN O X) (by simp) ?_
    refine hC.vc [] 60 ?_
    simp
    refine hC.setLen im66 (.loc 16) (N := N) (S := fun i => O i ∨ X i) (by rfl) (by simp) ?_
    refine hC.vc [] 60 ?_
    by_cases hc : cardN N (fun i => O i ∨ X i) = cardN N O
    · simp [hc]
      refine setQ_congr fun j => ?_
      have hx : ∀ i, X i → O i := fun i hi => cardN_eq (fun i h => .inl h) hc i (hX i hi) (.inr hi)
      have hend := rounds_end hR hx j
      have hj : (O j ∨ X j) ↔ O j := ⟨fun h => h.elim id (hx j), .inl⟩
      rw [hj]
      exact hend
    · have hc' : ¬ ((cardN N (fun i => O i ∨ X i) : Nat) : Int) = (cardN N O : Nat) := fun h => hc (by omega)
      simp [hc', E.cells, hkk, E.pv_eq k]
      refine hC.call [] (hk k (by simp [hkk]) X hX) (by simp [E.av, E.cells]) ?_
      refine hC.vc [] 60 ?_
      simp
      have h1 : cardN N O ≤ cardN N (fun i => O i ∨ X i) := cardN_mono fun i h => .inl h
      have h2 := cardN_le N (fun i => O i ∨ X i)
      exact go_to [] (ih ⟨(fun i => O i ∨ X i, stepP k.L w X), rounds_step hR, fun i hi => hw ▸ hi.1⟩ (by simp; omega)) (by simp [E.cells, hkk, E.pv_eq k])
end Go.Proofs.D
