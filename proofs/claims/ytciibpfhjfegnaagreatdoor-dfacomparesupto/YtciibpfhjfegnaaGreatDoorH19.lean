/-
  A TABLE THAT IS MADE ONCE; an expression's dfa.
-/
import Derived.Test.YtciibpfhjfegnaaGreatDoorH9
import Derived.Test.YtciibpfhjfegnaaGreatDoorH12
import Derived.Test.YtciibpfhjfegnaaGreatDoorH13
import Derived.Test.YtciibpfhjfegnaaGreatDoorL2
import Derived.Test.YtciibpfhjfegnaaGreatDoorL6
import Derived.Test.YtciibpfhjfegnaaGreatDoorG12
import Derived.Test.YtciibpfhjfegnaaGreatDoorG3
import Derived.Test.YtciibpfhjfegnaaGreatDoorAbsMB
set_option linter.unusedVariables false
set_option linter.unusedSimpArgs false
namespace Go.Proofs.D
open Go Go.Abs Go.RowKit
attribute [local simp] VC VCS stepVS stepTopS firstId memN bigB unmark markT mkOff calmP keepT boundB boundC stepV stepTop stepReg stepOp stMove stPick stBin stUn stConv stBox stAlloc stLoad stStore stFieldAddr stField stExtract stNilCheck stMakeFunc stIndexAddr stIndex stLen
  stBuild placesOf fillA stBuildSlice sliceCells repL chunks allPV toPV drawOk drawOk.go mayMakeO mayMake1 disjoint pairS Oper.apart Oper.looksAt Op.operands Call.operands Region.binds stAppend appBase appTail unName stSlice bndA
  LS.ev LS.get LS.blk LS.put LS.app LS.upd lkS lkH setS setH Nm.eqb guardOf nexts okPair dstOk AV.cellsOf takeAt putAt lkT sliceE fieldT intK isStrT isBoolT abin newOk LS.freshB LS.freshB.go LS.freshB.goH notIn AV.ments AV.ments.mentsL Blk.ments makes upsMents LS.start startL exitTo T T5 outs callSideR callSideO callSideD upsR backO freshAll argB onlyIO List.map List.append List.nil_append List.cons_append Nat.blt
  conv convS convH srcs srcOf blkOk leA leA.leL Go.Abs.leB leP laid laidM laidG isArg subH retP resAV resL res1 AV.frz AV.frz.frzL evL AV.ren AV.ren.renL Blk.ren renBs blksOf allSome nodupB onlyArgs blksMents callUps keyed inName inName.go backName callSide
theorem lies_set {w : World} {F : Nat → Prop} {hd : Nm → Hd} {H H' : List (Nm × Option Blk)} (hl : Lies w F hd H) {r : Nm} {k ty j : Nat} {cs : List AV} {c : AV} {v : Value} (hr : lkH H r = some (.box ty cs)) (hk : hd r = .box k) (hj : j < cs.length)
    (hv : ∀ w', Rep w' F hd c v) (h1 : v.oneCell' = true) (hH : ∀ s, lkH H' s = if s = r then some (.box ty (cs.set j c)) else lkH H s) :
    Lies (w.setCell ⟨k, j, none⟩ v) F hd H' ∧ (∀ i, i ≠ k → (w.setCell ⟨k, j, none⟩ v).heap[i]? = w.heap[i]?) ∧ (w.setCell ⟨k, j, none⟩ v).heap.size = w.heap.size := by
  have hb := hl.holds r
  rw [hr] at hb
  obtain ⟨k', arr, q1, q2, q3, q4, q5⟩ := hb
  rw [hk] at q1
  cases q1
  have hother : ∀ i, i ≠ k → (w.setCell ⟨k, j, none⟩ v).heap[i]? = w.heap[i]? := fun i hi => Below.heap_setCell w ⟨k, j, none⟩ v i hi
  have hsame := heap_setCell_same w k j arr ty v q2
  have hsz : (w.setCell ⟨k, j, none⟩ v).heap.size = w.heap.size := by simp [World.setCell]
  have hkF : ¬ F k := (hl.mine r k (by rw [hk]; exact rfl)).1
  have hF : ∀ i, F i → (w.setCell ⟨k, j, none⟩ v).heap[i]? = w.heap[i]? := fun i hi => hother i fun e => hkF (e ▸ hi)
  refine ⟨⟨fun i hi => by rw [hsz]; exact hl.fin i hi, hl.sep, fun s i hi => by rw [hsz]; exact hl.mine s i hi, fun s => ?_⟩, hother, hsz⟩
  rw [hH s]
  split
  · rename_i e
    subst e
    refine ⟨k, arr.setIfInBounds j v, hk, hsame, by simp [q3], fun i c' u hc hu => ?_, fun u hu => ?_⟩
    · rw [Array.getElem?_setIfInBounds] at hu
      rw [List.getElem?_set] at hc
      by_cases hij : j = i
      · subst hij
        have hja : j < arr.size := by omega
        simp [hj] at hc
        simp [hja] at hu
        subst hc hu
        exact hv _
      · rw [if_neg hij] at hc hu
        exact (q4 i c' u hc hu).mono hF (fun _ h => h) fun _ _ => .inl rfl
    · obtain ⟨i, hi⟩ := List.getElem?_of_mem hu
      rw [Array.getElem?_toList, Array.getElem?_setIfInBounds] at hi
      split at hi
      · split at hi
        · cases hi; exact h1
        · cases hi
      · exact q5 u (List.mem_of_getElem? (by rw [Array.getElem?_toList]; exact hi))
  · rename_i hsr
    refine (hl.holds s).mono hF (fun _ h => h) rfl (fun i hi => hother i fun e => ?_) fun _ _ _ _ => .inl rfl
    subst e
    exact hl.sep s r i hsr hi (by rw [hk]; exact rfl)
theorem left_set {w0 w w' : World} {F0 F : Nat → Prop} {hd0 hd : Nm → Hd} (h : Go.Abs.Left w0 F0 hd0 w F hd) {r : Nm} {k : Nat} (hk : hd r = .box k) (hother : ∀ i, i ≠ k → w'.heap[i]? = w.heap[i]?) (hsz : w'.heap.size = w.heap.size) (hos : w'.os = w.os) (htape : w'.tape = w.tape) (hout : w'.output = w.output) : Go.Abs.Left w0 F0 hd0 w' F hd := by
  refine ⟨h.mine, h.fin, h.more, h.kept, hos.trans h.os, htape.trans h.tape, hout.trans h.output, by rw [hsz]; exact h.size, fun i hi hn => ?_⟩
  rw [hother i fun e => ?_]
  · exact h.old i hi hn
  · subst e
    rcases h.mine r i (by rw [hk]; exact rfl) with g | g
    · omega
    · exact hn g
def tabC (a b : Int) (e : E) (d : List AV) : List AV := .pv (.val (.int .u32 a)) :: .pv (.val (.int .i32 b)) :: .pv (.val (.int .u32 0)) :: (e.cells ++ d)
abbrev no3 : List AV := [nm0, nm0, nm0]
theorem whole_fit {e : E} (he : Tame e) : (whole e).next.length ≤ 16777216 ∧ (whole e).names.length ≤ 1000 := by
  obtain ⟨hs, _⟩ := whole_sem e he.1 he.2
  have h1 := hs.len
  have h2 : (whole e).final.length = (wholeM e BW).1.length := by simp only [whole, List.length_map]
  have h3 := wholeM_len he.2 BW
  have h4 := names_len he
  refine ⟨?_, Nat.le_trans h4 (by decide)⟩
  rw [← h1, h2]
  exact Nat.le_trans h3 (Nat.le_of_eq rfl)
theorem h91 (e : E) (he : Tame e) : Fun Tryz.prog tab10 91 [.ptr (.arg 1) 0] [some (.box 101 (tabC 0 1 e no3)), some (.box 87 [.ptr (.arg 0) 0])] (.tup []) [some (.box 101 (tabC 0 1 e e.dfa.cells)), some (.box 87 [.ptr (.arg 0) 0])] := by
  obtain ⟨hs, _⟩ := whole_sem e he.1 he.2
  obtain ⟨f1, f2⟩ := whole_fit he
  have hnd : (whole e).names.Nodup := names_nodup e
  have hl := h92 (whole e) hs hnd (hs.toSem0.lim hnd) f2 f1
  have hw := h93 tab10 e he
  have hdfa : leastA (whole e) (wholeL e) = e.dfa := rfl
  rw [hdfa] at hl
  generalize whole e = d at hw hl
  refine fun_of (T := T5) (n := 10) (rs := []) Tryz.func91 (by kernel_rfl) rfl rfl rfl tok5 mixed (by simp) fun C hC => ?_
  refine hC.drawn (by kernel_rfl) (by simp [tabC, E.cells]) ?_
  refine hC.go [] 60 ?_
  simp [tabC, E.cells]
  refine hC.call [] hw (by simp [E.av, E.cells, Au.av, Au.cells]) ?_
  refine hC.go [] 60 ?_
  simp [Au.av, Au.cells]
  refine hC.call [] hl (by simp [Au.av, Au.cells]) ?_
  refine hC.go [] 60 ?_
  simp [Au.av, Au.cells, tabC, E.cells]
theorem lkH_two (b0 b1 : Blk) (s : Nm) : lkH (keyed 0 [some b0, some b1]) s = if s = .arg 0 then some b0 else if s = .arg 1 then some b1 else none := by
  simp only [keyed, lkH, Nm.eqb_iff]
  by_cases h0 : s = .arg 0
  · subst h0; simp
  · have h0' : ¬ Nm.arg 0 = s := fun e => h0 e.symm
    by_cases h1 : s = .arg 1
    · subst h1; simp
    · have h1' : ¬ Nm.arg 1 = s := fun e => h1 e.symm
      simp [h0, h0', h1, h1']
set_option maxHeartbeats 2000000 in
theorem h90 (e : E) (he : Tame e) : Fun Tryz.prog tab10 90 [.ptr (.arg 0) 0, .fn (.func 91) [] [.ptr (.arg 1) 0]] [some (.box 101 (tabC 0 0 e no3)), some (.box 87 [.ptr (.arg 0) 0])] (.tup []) [some (.box 101 (tabC 1 0 e e.dfa.cells)), some (.box 87 [.ptr (.arg 0) 0])] := by
  refine ⟨⟨_, Tryz.func90, by kernel_rfl, rfl⟩, fun w0 F0 hd0 cargs hg hl hlen hr => ?_⟩
  have hlk := lkH_two (.box 101 (tabC 0 0 e no3)) (.box 87 [.ptr (.arg 0) 0])
  have hb0 := hl.holds (.arg 0)
  have hb1 := hl.holds (.arg 1)
  rw [hlk] at hb0 hb1
  simp only [if_true, reduceCtorEq, if_false] at hb0 hb1
  match cargs, hlen with
  | [c0, c1], _ =>
    have r0 := hr 0 _ c0 rfl rfl
    have r1 := hr 1 _ c1 rfl rfl
    obtain ⟨k, arr, k1, k2, k3, k4, k5⟩ := hb0
    have hb1' : ∃ m arr1, hd0 (.arg 1) = .box m ∧ w0.heap[m]? = some (.cells arr1 87 (0, 0)) := by
      simp at hb1
      obtain ⟨m, arr1, m1, m2, _⟩ := hb1
      exact ⟨m, arr1, m1, m2⟩
    obtain ⟨m, arr1, m1, m2⟩ := hb1'
    have e0 : c0 = .pointer (some ⟨k, 0, none⟩) := by cases r0 with | ptr _ _ _ _ h => exact h k k1
    subst e0
    cases r1 with
    | fn _ _ _ va vb ha hb h h' =>
      match va, ha, vb, hb with
      | [], _, [u], _ =>
        have eu : u = .pointer (some ⟨m, 0, none⟩) := by
          have := h' 0 _ u rfl rfl
          cases this with | ptr _ _ _ _ h => exact h m m1
        subst eu
        have hsz9 : arr.size = 9 := by rw [k3]; rfl
        have a0 : arr[0]? = some (.int .u32 0) := by
          have : arr[0]? = some arr[0] := by simp [hsz9]
          rw [this, bool_of (k4 0 _ _ rfl this)]
        have a1 : arr[1]? = some (.int .i32 0) := by
          have : arr[1]? = some arr[1] := by simp [hsz9]
          rw [this, bool_of (k4 1 _ _ rfl this)]
        have hcell : ∀ (w : World) (cs : Array Value) (j : Nat), w.heap[k]? = some (.cells cs 101 (0, 0)) → w.cell? ⟨k, j, none⟩ = cs[j]? := fun w cs j hw => by simp [World.cell?, hw]
        have hfz : ∀ (w : World) (cs : Array Value) (j : Nat), w.heap[k]? = some (.cells cs 101 (0, 0)) → w.frozen? ⟨k, j, none⟩ = false := fun w cs j hw => frozen_of_row w k j cs 101 hw
        obtain ⟨l1, o1, s1⟩ := lies_set (H' := keyed 0 [some (.box 101 (tabC 0 1 e no3)), some (.box 87 [.ptr (.arg 0) 0])]) hl (r := .arg 0) (k := k) (ty := 101) (j := 1) (cs := tabC 0 0 e no3) (c := .pv (.val (.int .i32 1))) (v := .int .i32 1) (by rw [hlk]; simp) k1 (by simp [tabC]) (fun _ => rep_val rfl) rfl (fun s => by rw [lkH_two, hlk]; split <;> rfl)
        obtain ⟨w1, hw1⟩ : ∃ w1, w0.setCell ⟨k, 1, none⟩ (.int .i32 1) = w1 := ⟨_, rfl⟩
        rw [hw1] at l1 o1 s1
        have hkF : ∀ i, F0 i → i ≠ k := fun i hi e => (hl.mine (.arg 0) k (by rw [k1]; exact rfl)).1 (e ▸ hi)
        have hcall := (h91 e he).calls w1 F0 hd0 [.pointer (some ⟨m, 0, none⟩)] (tab10.mono hg (fun i hi => o1 i (hkF i hi)) fun _ h => h) l1 rfl (fun j x c hx hc => by
          match j, hx, hc with
          | 0, hx, hc =>
            simp at hx hc
            subst hx hc
            exact .ptr _ _ _ rfl fun q hq => by rw [m1] at hq; cases hq; rfl)
        have hw1os : w1.os = w0.os ∧ w1.tape = w0.tape ∧ w1.output = w0.output := by rw [← hw1]; exact ⟨rfl, rfl, rfl⟩
        have hleft1 : ∀ w F hd, Go.Abs.Left w1 F0 hd0 w F hd → Go.Abs.Left w0 F0 hd0 w F hd := fun w F hd h => by
          refine ⟨fun r i hi => by rw [← s1]; exact h.mine r i hi, fun i hi => by rw [← s1]; exact h.fin i hi, h.more, h.kept, h.os.trans hw1os.1, h.tape.trans hw1os.2.1, h.output.trans hw1os.2.2, by rw [← s1]; exact h.size, fun i hi hn => ?_⟩
          rw [h.old i (by rw [s1]; exact hi) hn]
          exact o1 i fun e => hn ⟨.arg 0, by rw [e, k1]; exact rfl⟩
        have hfin : ∀ w F hd, Lies w F hd (keyed 0 [some (.box 101 (tabC 0 1 e e.dfa.cells)), some (.box 87 [.ptr (.arg 0) 0])]) → Go.Abs.Left w1 F0 hd0 w F hd → hd (.arg 0) = .box k ∧ ∃ cs, w.heap[k]? = some (.cells cs 101 (0, 0)) ∧ cs[0]? = some (.int .u32 0) ∧ cs[1]? = some (.int .i32 1) := fun w F hd hL hLeft => by
          have hb := hL.holds (.arg 0)
          rw [lkH_two] at hb
          simp only [if_true] at hb
          obtain ⟨k', cs, p1, p2, p3, p4, p5⟩ := hb
          have hkk : hd (.arg 0) = .box k := by
            rcases hLeft.kept 0 with g | g
            · rw [g, k1]
            · rw [g] at p1; cases p1
          rw [hkk] at p1
          cases p1
          have hs9 : cs.size = 9 := by rw [p3]; rfl
          refine ⟨hkk, cs, p2, ?_, ?_⟩
          · have : cs[0]? = some cs[0] := by simp [hs9]
            rw [this, bool_of (p4 0 _ _ rfl this)]
          · have : cs[1]? = some cs[1] := by simp [hs9]
            rw [this, bool_of (p4 1 _ _ rfl this)]
        refine (do_of k ⟨m, 0, none⟩ w0 ?_ ?_ ?_ ?_ (fun w => ∃ F hd, Lies w F hd (keyed 0 [some (.box 101 (tabC 0 1 e e.dfa.cells)), some (.box 87 [.ptr (.arg 0) 0])]) ∧ Go.Abs.Left w1 F0 hd0 w F hd) ?_ ?_).mono ?_
        · rw [hcell w0 arr 0 k2, a0]
        · rw [hcell w0 arr 1 k2, a1]
        · exact hfz w0 arr 0 k2
        · exact hfz w0 arr 1 k2
        · rw [hw1]
          refine hcall.mono ?_
          rintro e' w' ⟨cv, F, hd, rfl, hcv, hL, hLeft⟩
          refine ⟨?_, F, hd, hL, hLeft⟩
          cases hcv with
          | tup _ cs hl' _ =>
            match cs, hl' with
            | [], _ => rfl
        · rintro w' ⟨F, hd, hL, hLeft⟩
          obtain ⟨_, cs, p1, p2, p3⟩ := hfin w' F hd hL hLeft
          exact ⟨by rw [hcell w' cs 0 p1, p2], by rw [hcell w' cs 1 p1, p3], hfz w' cs 0 p1, hfz w' cs 1 p1⟩
        · rintro e' w'' ⟨rfl, w', ⟨F, hd, hL, hLeft⟩, rfl⟩
          obtain ⟨hkk, cs, p1, p2, p3⟩ := hfin w' F hd hL hLeft
          have hLd : Lies w'.drew F hd (keyed 0 [some (.box 101 (tabC 0 1 e e.dfa.cells)), some (.box 87 [.ptr (.arg 0) 0])]) := ⟨hL.fin, hL.sep, hL.mine, fun s => (hL.holds s).mono (fun _ _ => rfl) (fun _ h => h) rfl (fun _ _ => rfl) fun _ _ _ _ => .inl rfl⟩
          have hLeftd : Go.Abs.Left w0 F0 hd0 w'.drew F hd := by
            have := hleft1 w' F hd hLeft
            exact ⟨this.mine, this.fin, this.more, this.kept, this.os, this.tape, this.output, this.size, this.old⟩
          obtain ⟨l2, o2, s2⟩ := lies_set (H' := keyed 0 [some (.box 101 (tabC 1 1 e e.dfa.cells)), some (.box 87 [.ptr (.arg 0) 0])]) hLd (r := .arg 0) (k := k) (ty := 101) (j := 0) (cs := tabC 0 1 e e.dfa.cells) (c := .pv (.val (.int .u32 1))) (v := .int .u32 1) (by rw [lkH_two]; simp) hkk (by simp [tabC]) (fun _ => rep_val rfl) rfl (fun s => by rw [lkH_two, lkH_two]; split <;> rfl)
          have hLeft2 := left_set hLeftd hkk o2 s2 rfl rfl rfl
          obtain ⟨l3, o3, s3⟩ := lies_set (H' := keyed 0 [some (.box 101 (tabC 1 0 e e.dfa.cells)), some (.box 87 [.ptr (.arg 0) 0])]) l2 (r := .arg 0) (k := k) (ty := 101) (j := 1) (cs := tabC 1 1 e e.dfa.cells) (c := .pv (.val (.int .i32 0))) (v := .int .i32 0) (by rw [lkH_two]; simp) hkk (by simp [tabC]) (fun _ => rep_val rfl) rfl (fun s => by rw [lkH_two, lkH_two]; split <;> rfl)
          have hLeft3 := left_set hLeft2 hkk o3 s3 rfl rfl rfl
          exact ⟨_, F, hd, rfl, .tup [] [] rfl (fun j c v h1 h2 => by simp at h1), l3, hLeft3⟩
def T6 : TT := (99, ⟨true, 3, 12, [.val (.int .u32 0), .val (.int .i32 0), .val (.int .u32 0)], .str [(0, 89), (0, 93), (1, 97)]⟩) :: T5
theorem tok6 : TOk Tryz.prog T6 := tok_cons (tok1 (z := .agg #[.int .u32 0, .int .i32 0, .int .u32 0]) Tryz.isAgg99 (by kernel_rfl) rfl rfl rfl (by decide) ⟨_, Tryz.underlying99, rfl⟩) tok5
attribute [local simp] T6
theorem h45 (e : E) (he : Tame e) : Fun Tryz.prog tab10 45 [.ptr (.arg 0) 0] [some (.box 101 (tabC 0 0 e no3))] e.dfa.av [some (.box 101 (tabC 1 0 e e.dfa.cells))] := by
  refine fun_of (T := T6) (n := 12) (rs := [.cell 2 31]) Tryz.func45 (by kernel_rfl) rfl rfl rfl tok6 mixed (by simp) fun C hC => ?_
  refine hC.go [] 60 ?_
  simp [tabC, E.cells]
  refine hC.call [.arg 0, .loc 1] (h90 e he) (by simp [tabC, E.cells, Au.cells]) ?_
  refine hC.go [] 60 ?_
  simp [tabC, E.cells, Au.av, Au.cells]
noncomputable def E.dfaOf (e : E) : AV := if e.right = true then .tup [e.dfa.av, vI 0] else .tup [.agg [.pv (.ro 1 []), .pv (.ro 1 []), .pv (.ro 1 [])], vI 2]
theorem h17 (e : E) (hs : e.small) (hc : e.cnt ≤ 1000000000) : Fun Tryz.prog tab10 17 [e.av] [] e.dfaOf [] := by
  by_cases hr : e.right = true
  · have he := right_tame hr hc
    rw [show e.dfaOf = .tup [e.dfa.av, vI 0] by rw [E.dfaOf, if_pos hr]]
    refine fun_of (T := T6) (n := 14) (rs := [.cell 2 31, .tmp 3]) Tryz.func17 (by kernel_rfl) rfl rfl rfl tok6 mixed (by simp) fun C hC => ?_
    refine hC.go [] 60 ?_
    simp [E.av, E.cells]
    refine hC.call [] (f18 tab10 e hs) (by simp [E.av, E.cells]) ?_
    refine hC.go [] 60 ?_
    simp [hr]
    refine hC.call [.loc 11] (h45 e he) (by simp [tabC, E.cells, Au.av, Au.cells]) ?_
    refine hC.go [] 60 ?_
    simp [tabC, E.cells, Au.av, Au.cells]
  · have hr' : e.right = false := by simpa using hr
    rw [show e.dfaOf = .tup [.agg [.pv (.ro 1 []), .pv (.ro 1 []), .pv (.ro 1 [])], vI 2] by rw [E.dfaOf, if_neg hr]]
    refine fun_of (T := T6) (n := 14) (rs := [.cell 2 31, .tmp 3]) Tryz.func17 (by kernel_rfl) rfl rfl rfl tok6 mixed (by simp) fun C hC => ?_
    refine hC.go [] 60 ?_
    simp [E.av, E.cells]
    refine hC.call [] (f18 tab10 e hs) (by simp [E.av, E.cells]) ?_
    refine hC.go [] 60 ?_
    simp [hr']
end Go.Proofs.D
namespace Go.Proofs.D
open Go Go.Abs Go.RowKit
attribute [local simp] VC VCS stepVS stepTopS firstId memN bigB unmark markT mkOff calmP keepT boundB boundC stepV stepTop stepReg stepOp stMove stPick stBin stUn stConv stBox stAlloc stLoad stStore stFieldAddr stField stExtract stNilCheck stMakeFunc stIndexAddr stIndex stLen
  stBuild placesOf fillA stBuildSlice sliceCells repL chunks allPV toPV drawOk drawOk.go mayMakeO mayMake1 disjoint pairS Oper.apart Oper.looksAt Op.operands Call.operands Region.binds stAppend appBase appTail unName stSlice bndA
  LS.ev LS.get LS.blk LS.put LS.app LS.upd lkS lkH setS setH Nm.eqb guardOf nexts okPair dstOk AV.cellsOf takeAt putAt lkT sliceE fieldT intK isStrT isBoolT abin newOk LS.freshB LS.freshB.go LS.freshB.goH notIn AV.ments AV.ments.mentsL Blk.ments makes upsMents LS.start startL exitTo T T5 outs callSideR callSideO callSideD upsR backO freshAll argB onlyIO List.map List.append List.nil_append List.cons_append Nat.blt
  conv convS convH srcs srcOf blkOk leA leA.leL Go.Abs.leB leP laid laidM laidG isArg subH retP resAV resL res1 AV.frz AV.frz.frzL evL AV.ren AV.ren.renL Blk.ren renBs blksOf allSome nodupB onlyArgs blksMents callUps keyed inName inName.go backName callSide
def aB : ByteArray := ⟨#[97]⟩
def bB : ByteArray := ⟨#[98]⟩
def ex7 : E := .mk 115 ⟨#[]⟩ [.mk 110 aB [], .mk 42 ⟨#[]⟩ [.mk 110 bB []]]
def ex7S : ByteArray := ⟨#[97, 32, 98, 42]⟩
theorem ex7_read : read ex7S = (ex7, ⟨⟨#[]⟩, false, 2⟩) := by kernel_rfl
theorem ex7_text : ex7.text false = ex7S := by kernel_rfl
theorem ex7_a : isName aB = true := by decide +kernel
theorem ex7_b : isName bB = true := by decide +kernel
theorem name_many7 (n : ByteArray) : (E.mk 110 n []).many = 1 := by rw [E.many_eq]; rfl
theorem name_ok7 {n : ByteArray} (h : isName n = true) : (E.mk 110 n []).ok = true := by rw [E.ok_eq]; simp [E.op, E.kids, E.name, h]
theorem ex7_many2 : (E.mk 42 ⟨#[]⟩ [.mk 110 bB []]).many = 2 := by
  rw [E.many_eq]
  show wr .i64 (1 + (E.mk 110 bB []).many) = 2
  rw [name_many7]
  kernel_rfl
theorem ex7_many : ex7.many = 4 := by
  rw [E.many_eq]
  show wr .i64 (wr .i64 (1 + (E.mk 110 aB []).many) + (E.mk 42 ⟨#[]⟩ [.mk 110 bB []]).many) = 4
  rw [ex7_many2, name_many7]
  kernel_rfl
theorem ex7_ok2 : (E.mk 42 ⟨#[]⟩ [.mk 110 bB []]).ok = true := by
  rw [E.ok_eq]
  simp [E.op, E.kids, E.name, name_ok7 ex7_b, E.suffix]
theorem ex7_ok : ex7.ok = true := by
  rw [E.ok_eq]
  simp [ex7, E.op, E.kids, E.name, ex7_ok2, name_ok7 ex7_a]
theorem ex7_right : ex7.right = true := by simp [E.right, ex7_many, ex7_ok]
theorem ex7_parse : parse ex7S = (ex7, 0) := by
  unfold parse
  rw [ex7_read]
  simp [ex7_right, ex7_text]
theorem ex7_small : ex7.small := E.small_mk (by decide) (by
  intro k hk
  simp at hk
  rcases hk with rfl | rfl
  · exact E.small_mk (by decide) (by simp)
  · refine E.small_mk (by decide) ?_
    intro k hk
    simp at hk
    subst hk
    exact E.small_mk (by decide) (by simp))
theorem ex7_cnt : ex7.cnt = 4 := by
  simp [ex7, cnt_eq, E.kids]
theorem many_all {b : ByteArray} {w : Row} (h : Many (fun v => v = [b]) w) : ∀ x ∈ w, x = b := by
  induction h with
  | one h => subst h; simp
  | more h _ ih =>
    subst h
    intro x hx
    rcases List.mem_append.1 hx with hx | hx
    · simpa using hx
    · exact ih x hx
theorem all_many {b : ByteArray} : ∀ w : Row, (∀ x ∈ w, x = b) → w = [] ∨ Many (fun v => v = [b]) w
  | [], _ => .inl rfl
  | x :: w, h => by
    obtain rfl := h x (by simp)
    rcases all_many w fun y hy => h y (by simp [hy]) with rfl | hm
    · exact .inr (.one rfl)
    · exact .inr (.more (u := [x]) (v := w) rfl hm)
theorem ex7_L (w : Row) : ex7.L w ↔ ∃ v, w = aB :: v ∧ ∀ x ∈ v, x = bB := by
  have e1 : E.L.headL (E.mk 42 ⟨#[]⟩ [.mk 110 bB []]).kids = fun v => v = [bB] := by
    funext v
    apply propext
    simp [E.kids, E.L.headL, L_eq, E.op, E.name]
  have e2 : ∀ v, (E.mk 42 ⟨#[]⟩ [.mk 110 bB []]).L v ↔ ∀ x ∈ v, x = bB := fun v => by
    rw [L_eq, e1]
    simp only [E.op]
    constructor
    · rintro (⟨_, rfl⟩ | h)
      · simp
      · exact many_all h
    · intro h
      rcases all_many v h with rfl | h
      · exact .inl ⟨trivial, rfl⟩
      · exact .inr h
  have e3 : ∀ v, (E.mk 110 aB []).L v ↔ v = [aB] := fun v => by rw [L_eq]; simp [E.op, E.name]
  rw [L_eq]
  simp only [ex7, E.op, E.kids, E.L.seqL]
  constructor
  · rintro ⟨u, v, rfl, hu, v', v2, rfl, h1, rfl⟩
    rw [e3] at hu
    subst hu
    exact ⟨v', by simp, (e2 v').1 h1⟩
  · rintro ⟨v, rfl, hv⟩
    exact ⟨[aB], v, rfl, (e3 _).2 rfl, v, [], by simp, (e2 v).2 hv, rfl⟩
def au7 : Au := ⟨[aB, bB], [[1, -1], [-1, 1]], [false, true]⟩
def l7 : Nat → Row → Prop
  | 0, w => ∃ v, w = aB :: v ∧ ∀ x ∈ v, x = bB
  | 1, v => ∀ x ∈ v, x = bB
  | _, _ => False
theorem ab_ne : aB ≠ bB := by decide
theorem au7_least : Least au7 l7 := by
  have st : ∀ (i : Nat) (a : ByteArray), i < 2 → a ∈ [aB, bB] → (i = 0 ∧ a = aB) ∨ (i = 0 ∧ a = bB) ∨ (i = 1 ∧ a = aB) ∨ (i = 1 ∧ a = bB) := fun i a hi ha => by
    simp at ha
    rcases ha with rfl | rfl
    · by_cases h : i = 0
      · exact .inl ⟨h, rfl⟩
      · exact .inr (.inr (.inl ⟨by omega, rfl⟩))
    · by_cases h : i = 0
      · exact .inr (.inl ⟨h, rfl⟩)
      · exact .inr (.inr (.inr ⟨by omega, rfl⟩))
  refine ⟨⟨⟨by decide, rfl, ?_, ?_, ?_, ?_⟩, ?_⟩, ?_, by decide⟩
  · intro r hr
    simp [au7] at hr
    rcases hr with rfl | rfl <;> rfl
  · intro i hi
    match i, hi with
    | 0, _ => simp [au7, l7]
    | 1, _ => simp [au7, l7]
    | i + 2, hi => exact absurd hi (by simp [au7])
  · intro i hi a ha
    rcases st i a hi ha with ⟨rfl, rfl⟩ | ⟨rfl, rfl⟩ | ⟨rfl, rfl⟩ | ⟨rfl, rfl⟩
    · exact .inr ⟨1, by decide, by decide, fun w => by simp [l7]⟩
    · exact .inl ⟨by decide, fun w => by simp [l7, ab_ne.symm]⟩
    · exact .inl ⟨by decide, fun w => by simp [l7, ab_ne]⟩
    · exact .inr ⟨1, by decide, by decide, fun w => by simp [l7]⟩
  · intro i hi a w h
    match i, hi, h with
    | 0, _, h =>
      obtain ⟨v, e, _⟩ := h
      cases e
      simp [au7]
    | 1, _, h =>
      have := h a (by simp)
      simp [au7, this]
    | i + 2, hi, _ => exact absurd hi (by simp [au7])
  · intro i hi
    match i, hi with
    | 0, _ => exact ⟨[aB], [], rfl, by simp⟩
    | 1, _ => exact ⟨[], by simp [l7]⟩
    | i + 2, hi => exact absurd hi (by simp [au7])
  · intro i j hi hj h
    match i, j, hi, hj, h with
    | 0, 0, _, _, _ => rfl
    | 1, 1, _, _, _ => rfl
    | 0, 1, _, _, h => exact absurd ((h []).2 (by simp [l7])) (by simp [l7])
    | 1, 0, _, _, h => exact absurd ((h []).1 (by simp [l7])) (by simp [l7])
    | i + 2, _, hi, _, _ => exact absurd hi (by simp [au7])
    | 0, j + 2, _, hj, _ => exact absurd hj (by simp [au7])
    | 1, j + 2, _, hj, _ => exact absurd hj (by simp [au7])
theorem ex7_keys : strKeys (ex7.tally (.map [])) = [[97], [98]] := by
  have h1 : ∀ D, (E.mk 110 aB []).tally D = bump D aB := fun D => by rw [tally_eq]; rfl
  have h2 : ∀ D, (E.mk 110 bB []).tally D = bump D bB := fun D => by rw [tally_eq]; rfl
  have h3 : ∀ D, (E.mk 42 ⟨#[]⟩ [.mk 110 bB []]).tally D = bump D bB := fun D => by rw [tally_eq]; simp [E.op, E.kids, E.tally.go, h2]
  have h4 : ex7.tally (.map []) = bump (bump (.map []) aB) bB := by rw [tally_eq]; simp [ex7, E.op, E.kids, E.tally.go, h1, h3]
  have h5 : strKeys (bump (bump (.map []) aB) bB) = [[97], [98]] := by kernel_rfl
  rw [h4, h5]
theorem ex7_names : ex7.names = [aB, bB] := by
  unfold E.names sortedNames
  rw [ex7_keys, List.mergeSort_of_pairwise (by decide)]
  rfl
theorem ex7_dfa : ex7.dfa = au7 := by
  obtain ⟨h1, h2⟩ := dfa_least ex7_ok (by rw [ex7_cnt]; omega)
  have hn : ex7.dfa.names = au7.names := ex7_names
  have := least_one h1 au7_least (by rw [hn]; decide) hn fun w => (h2 w).trans (ex7_L w)
  cases hd : ex7.dfa with
  | mk n x f =>
    rw [hd] at hn this
    simp only at hn this
    rw [hn, this.1, this.2]
attribute [local simp] T6
set_option maxRecDepth 20000 in
theorem h15 : Fun Tryz.prog tab10 15 [] [] (vB true) [] := by
  have hof := h17 ex7 ex7_small (by rw [ex7_cnt]; omega)
  rw [show ex7.dfaOf = .tup [ex7.dfa.av, vI 0] by rw [E.dfaOf, if_pos ex7_right], ex7_dfa] at hof
  have hrow : ∀ r ∈ au7.next, r.length = au7.names.length := au7_least.sem.row
  have s1 : au7.stp 0 aB = 1 := by decide
  have s2 : au7.stp 1 bB = 1 := by decide
  have s3 : au7.stp 0 bB = -1 := by decide
  have s4 : au7.acc (au7.run 0 [aB, bB]) = true := by decide
  have c1 := h18 tab10 au7 hrow 0 aB
  have c2 := h18 tab10 au7 hrow 1 bB
  have c3 := h18 tab10 au7 hrow 0 bB
  have c4 := h19 tab10 au7 hrow [aB, bB]
  rw [s1] at c1
  rw [s2] at c2
  rw [s3] at c3
  rw [s4] at c4
  refine fun_of (T := T5) (n := 42) (rs := [.tmp 0]) Tryz.func15 (by kernel_rfl) rfl rfl rfl tok5 mixed (by simp) fun C hC => ?_
  refine hC.go [] 60 ?_
  simp
  refine hC.call [] (f13 tab10 ex7S (by decide)) (by simp [ex7S, E.av, E.cells]) ?_
  rw [ex7_parse]
  refine hC.go [] 60 ?_
  simp [E.av, E.cells]
  refine hC.call [] hof (by simp [E.av, E.cells, Au.av, Au.cells]) ?_
  refine hC.go [] 60 ?_
  simp [Au.av, Au.cells, au7]
  refine hC.call [] c1 (by simp [Au.av, Au.cells, au7, aB]) ?_
  refine hC.go [] 60 ?_
  simp [Au.av, Au.cells, au7]
  refine hC.call [] c2 (by simp [Au.av, Au.cells, au7, bB]) ?_
  refine hC.go [] 60 ?_
  simp [Au.av, Au.cells, au7]
  refine hC.call [] c3 (by simp [Au.av, Au.cells, au7, bB]) ?_
  refine hC.go [] 60 ?_
  simp [Au.av, Au.cells, au7]
  refine hC.call [] c4 (by simp [Au.av, Au.cells, au7, aB, bB]) ?_
  refine hC.go [] 60 ?_
  simp [Au.av, Au.cells, au7]
end Go.Proofs.D
namespace Go.Proofs.D
open Go Go.Abs Go.RowKit
attribute [local simp] VC VCS stepVS stepTopS firstId memN bigB unmark markT mkOff calmP keepT boundB boundC stepV stepTop stepReg stepOp stMove stPick stBin stUn stConv stBox stAlloc stLoad stStore stFieldAddr stField stExtract stNilCheck stMakeFunc stIndexAddr stIndex stLen
  stBuild placesOf fillA stBuildSlice sliceCells repL chunks allPV toPV drawOk drawOk.go mayMakeO mayMake1 disjoint pairS Oper.apart Oper.looksAt Op.operands Call.operands Region.binds stAppend appBase appTail unName stSlice bndA
  LS.ev LS.get LS.blk LS.put LS.app LS.upd lkS lkH setS setH Nm.eqb guardOf nexts okPair dstOk AV.cellsOf takeAt putAt lkT sliceE fieldT intK isStrT isBoolT abin newOk LS.freshB LS.freshB.go LS.freshB.goH notIn AV.ments AV.ments.mentsL Blk.ments makes upsMents LS.start startL exitTo T T5 outs callSideR callSideO callSideD upsR backO freshAll argB onlyIO List.map List.append List.nil_append List.cons_append Nat.blt
  conv convS convH srcs srcOf blkOk leA leA.leL Go.Abs.leB leP laid laidM laidG isArg subH retP resAV resL res1 AV.frz AV.frz.frzL evL AV.ren AV.ren.renL Blk.ren renBs blksOf allSome nodupB onlyArgs blksMents callUps keyed inName inName.go backName callSide
theorem rowOrd_le : ∀ (l : List Int) (m n : Int), rowOrd m l = some n → m ≤ n
  | [], m, n, h => by simp [rowOrd] at h; omega
  | t :: l, m, n, h => by
    simp only [rowOrd] at h
    split at h
    · have := rowOrd_le l _ _ h
      omega
    · cases h
theorem tabOrd_le : ∀ (l : List (List Int)) (i : Nat) (m n : Int), tabOrd i m l = some n → m ≤ n
  | [], i, m, n, h => by simp [tabOrd] at h; omega
  | r :: l, i, m, n, h => by
    simp only [tabOrd] at h
    split at h
    · cases hr : rowOrd m r with
      | none => rw [hr] at h; cases h
      | some m' =>
        rw [hr] at h
        have h1 := rowOrd_le _ _ _ hr
        have h2 := tabOrd_le l _ _ _ h
        omega
    · cases h
theorem tab_row {l : List (List Int)} {i : Nat} {m n : Int} (hlt : i < l.length) (ht : tabOrd i m (l.drop i) = some n) : (i : Int) ≤ m ∧ ∃ m', rowOrd m l[i] = some m' ∧ tabOrd (i + 1) m' (l.drop (i + 1)) = some n ∧ m ≤ m' ∧ m' ≤ n := by
  rw [List.drop_eq_getElem_cons hlt] at ht
  simp only [tabOrd] at ht
  have him : (i : Int) ≤ m := by
    by_cases h : (i : Int) ≤ m
    · exact h
    · rw [if_neg h] at ht; cases ht
  rw [if_pos him] at ht
  obtain ⟨m', hm', ht'⟩ := Option.bind_eq_some_iff.1 ht
  exact ⟨him, m', hm', ht', rowOrd_le _ _ _ hm', tabOrd_le _ _ _ _ ht'⟩
theorem row_cell {l : List Int} {k : Nat} {p n : Int} (hlt : k < l.length) (h : rowOrd p (l.drop k) = some n) : l[k] ≤ p + 1 ∧ -1 ≤ l[k] ∧ rowOrd (max p l[k]) (l.drop (k + 1)) = some n ∧ max p l[k] ≤ n := by
  rw [List.drop_eq_getElem_cons hlt] at h
  simp only [rowOrd] at h
  have hcond : l[k] ≤ p + 1 ∧ -1 ≤ l[k] := by
    by_cases h' : l[k] ≤ p + 1 ∧ -1 ≤ l[k]
    · exact h'
    · rw [if_neg h'] at h; cases h
  rw [if_pos hcond] at h
  exact ⟨hcond.1, hcond.2, h, rowOrd_le _ _ _ h⟩
theorem dfa_fit {e : E} (he : Tame e) : e.dfa.names.length ≤ 1000 := (whole_fit he).2
noncomputable def code3 (id : Nat) : Code := match Tryz.f3.body with
  | some c => seqAt 60 id c
  | none => .ret
attribute [local simp] T6
set_option maxRecDepth 20000 in
set_option maxHeartbeats 4000000 in
theorem h3b {d : Au} {L : Nat → Row → Prop} (hL : Least d L) (hN : d.names.length ≤ 1000) (hnl : d.next.length ≤ 9223372036854775807) {C : Ctx} (hC : Rd C Tryz.prog tab10 T5 152 [.tmp 4] (vB true) (keyed 0 [])) :
    Go.Abs.Go C (.top [.code (code3 14)] ⟨[(6, .ptr (.loc 6) 0)], [(.loc 6, some (.box 31 d.cells))]⟩) := by
  have hfin := hL.sem.len
  have hpos := hL.sem.pos
  have hrow := hL.sem.row
  have hord := hL.ord
  show Go.Abs.Go C (.top [.code (.seq _ _)] _)
  obtain ⟨n, hnn⟩ : ∃ n, d.next.length = n := ⟨_, rfl⟩
  refine hC.til [16] [] 60 ?_
  simp
  refine go_loop (ι := {x : Nat × Int // x.1 ≤ d.next.length ∧ 0 ≤ x.2 ∧ tabOrd x.1 x.2 (d.next.drop x.1) = some ((d.next.length : Int) - 1)}) (fun x => ⟨[(6, .ptr (.loc 6) 0), (10, vI x.1.2), (11, vI x.1.1)], [(.loc 6, some (.box 31 d.cells))]⟩) (fun x => d.next.length - x.1.1) ⟨(0, 0), by simpa using hord⟩ [] (by simp [Au.cells]) fun x ih => ?_
  obtain ⟨⟨i, m⟩, hi, hm, ht⟩ := x
  simp only at hi hm ht ih
  by_cases hlt : i < d.next.length
  · have hw := wr64 ((i : Int) + 1) (by omega)
    obtain ⟨him, m', hm', ht', hl1, hl2⟩ := tab_row hlt ht
    have hrl := hrow _ (List.getElem_mem hlt)
    have him' : ¬ m < (i : Int) := by omega
    have hrlI : ((d.next[i].length : Nat) : Int) = d.names.length := by omega
    refine hC.go [] 60 ?_
    simp [hlt, Au.cells]
    refine hC.drawn (by kernel_rfl) (by simp [Au.cells]) ?_
    refine hC.til [21] [] 60 ?_
    simp [hlt, Au.cells, him', hrlI]
    refine go_loop (ι := {x : Nat × Int // x.1 ≤ d.next[i].length ∧ 0 ≤ x.2 ∧ rowOrd x.2 (d.next[i].drop x.1) = some m'}) (fun x => ⟨[(6, .ptr (.loc 6) 0), (10, vI x.1.2), (11, vI i), (12, vI x.1.1)], [(.loc 6, some (.box 31 d.cells))]⟩) (fun x => d.next[i].length - x.1.1) ⟨(0, m), by simpa using ⟨hm, hm'⟩⟩ [] (by simp [Au.cells]) fun x ihk => ?_
    obtain ⟨⟨k, p⟩, hk, hp, hq⟩ := x
    simp only at hk hp hq ihk
    by_cases hkl : k < d.next[i].length
    · have hwk := wr64 ((k : Int) + 1) (by omega)
      obtain ⟨hc1, hc2, hq, hpl⟩ := row_cell hkl hq
      obtain ⟨t, htt⟩ : ∃ t, d.next[i][k] = t := ⟨_, rfl⟩
      rw [htt] at hc1 hc2 hq hpl
      have hwp := wr64 (p + 1) (by omega)
      have c1 : ¬ p + 1 < t := by omega
      have c2 : ¬ t < -1 := by omega
      refine hC.go [] 60 ?_
      simp [hlt, hkl, Au.cells, htt, hwp, c1, c2]
      refine hC.max (k := .i64) (a := p) (b := t) rfl rfl rfl (by simp) ?_
      have hmx : (if t > p then t else p) = max p t := by
        by_cases h : t > p
        · rw [if_pos h]; omega
        · rw [if_neg h]; omega
      rw [hmx]
      refine hC.go [] 60 ?_
      simp
      exact go_to [] (ihk ⟨(k + 1, max p t), hkl, by dsimp only; omega, hq⟩ (by simp; omega)) (by simp [hwk, Au.cells])
    · rw [List.drop_eq_nil_of_le (by omega)] at hq
      simp only [rowOrd, Option.some.injEq] at hq
      subst hq
      refine hC.go [] 60 ?_
      simp [hlt, hkl, Au.cells]
      exact go_to [] (ih ⟨(i + 1, p), hlt, hp, ht'⟩ (by simp; omega)) (by simp [hw, Au.cells])
  · rw [List.drop_eq_nil_of_le (by omega)] at ht
    simp only [tabOrd, Option.some.injEq] at ht
    have hw1 := wr64 ((d.next.length : Int) - 1) (by omega)
    refine hC.go [] 60 ?_
    simp [hlt, Au.cells, hw1, ht]
set_option maxRecDepth 20000 in
set_option maxHeartbeats 4000000 in
theorem h3c {d : Au} {L : Nat → Row → Prop} (hL : Least d L) (hN : d.names.length ≤ 1000) (hnl : d.next.length ≤ 9223372036854775807) (w : List ByteArray) (h30 : ¬ 30 < (w.length : Int)) {C : Ctx} (hC : Rd C Tryz.prog tab10 T5 152 [.tmp 4] (vB true) (keyed 0 [])) :
    Go.Abs.Go C (.top [.code (code3 7)] ⟨[(1, .pv (namesV w)), (6, .ptr (.loc 6) 0)], [(.loc 6, some (.box 31 d.cells))]⟩) := by
  have hfin := hL.sem.len
  have hpos := hL.sem.pos
  have hrow := hL.sem.row
  show Go.Abs.Go C (.top [.code (.seq _ _)] _)
  refine hC.til [9] [] 60 ?_
  simp
  refine go_loop (ι := {x : Nat × Int // x.1 ≤ w.length ∧ d.run 0 w = d.run x.2 (w.drop x.1)}) (fun x => ⟨[(1, .pv (namesV w)), (6, .ptr (.loc 6) 0), (8, vI x.1.2), (9, vI x.1.1)], [(.loc 6, some (.box 31 d.cells))]⟩) (fun x => w.length - x.1.1) ⟨(0, 0), by simp⟩ [] (by simp [Au.cells]) fun x ih => ?_
  obtain ⟨⟨i, s⟩, hi, hn⟩ := x
  simp only at hi hn ih
  by_cases hlt : i < w.length
  · have hw := wr64 ((i : Int) + 1) (by omega)
    rw [List.drop_eq_getElem_cons hlt, run_cons] at hn
    refine hC.go [] 60 ?_
    simp [hlt, Au.cells]
    refine hC.drawn (by kernel_rfl) (by simp [Au.cells]) ?_
    refine hC.go [] 60 ?_
    simp [hlt, Au.cells]
    refine hC.call [] (h18 tab10 d hrow s w[i]) (by simp [Au.av, Au.cells]) ?_
    refine hC.go [] 60 ?_
    simp
    exact go_to [] (ih ⟨(i + 1, d.stp s w[i]), hlt, hn⟩ (by simp; omega)) (by simp [hw, Au.cells])
  · rw [List.drop_eq_nil_of_le (by omega), run_nil] at hn
    refine hC.til [12] [] 60 ?_
    simp [hlt]
    have c19 := h19 tab10 d hrow w
    rw [hn] at c19
    by_cases h0 : 0 ≤ s
    · obtain ⟨n, hs⟩ : ∃ n : Nat, s = n := ⟨s.toNat, by omega⟩
      subst hs
      by_cases h : n < d.next.length
      · have hI : (n : Int) < d.next.length := by omega
        have hf : n < d.final.length := by omega
        refine hC.go [] 60 ?_
        simp [Au.cells]
        refine hC.call [] c19 (by simp [Au.av, Au.cells]) ?_
        refine hC.til [1014] [] 60 ?_
        simp [hlt, Au.cells, h, hI, hf, acc_in d hf, hfin]
        exact go_to [] (h3b hL hN hnl hC) (by simp [Au.cells])
      · have hI : ¬ (n : Int) < d.next.length := by omega
        have hf : ¬ n < d.final.length := by omega
        refine hC.go [] 60 ?_
        simp [Au.cells]
        refine hC.call [] c19 (by simp [Au.av, Au.cells]) ?_
        refine hC.til [1014] [] 60 ?_
        simp [hlt, Au.cells, h, hI, hf, acc_out d hf, hfin]
        exact go_to [] (h3b hL hN hnl hC) (by simp [Au.cells])
    · refine hC.go [] 60 ?_
      simp [Au.cells]
      refine hC.call [] c19 (by simp [Au.av, Au.cells]) ?_
      refine hC.til [1014] [] 60 ?_
      simp [hlt, Au.cells, h0, acc_neg d h0]
      exact go_to [] (h3b hL hN hnl hC) (by simp [Au.cells])
attribute [local simp] T6
set_option maxRecDepth 100000 in
set_option maxHeartbeats 4000000 in
theorem h3 (e : E) (hs : e.small) (hc : e.cnt ≤ 1000000000) (w : List ByteArray) : Fun Tryz.prog tab10 3 [e.av, .pv (namesV w)] [] (vB true) [] := by
  have hof := h17 e hs hc
  refine fun_of (T := T5) (n := 152) (rs := [.tmp 4]) Tryz.func3 (by kernel_rfl) rfl rfl rfl tok5 mixed (by simp) fun C hC => ?_
  refine hC.go [] 60 ?_
  simp [E.av, E.cells]
  refine hC.call [] h15 (by simp) ?_
  refine hC.go [] 60 ?_
  simp
  refine hC.call [] (f18 tab10 e hs) (by simp [E.av, E.cells]) ?_
  cases hr : e.right with
  | false =>
    refine hC.go [] 60 ?_
    simp
  | true =>
    by_cases h30 : 30 < (w.length : Int)
    · refine hC.go [] 60 ?_
      simp [h30]
    · have he := right_tame hr hc
      obtain ⟨hL, h0⟩ := dfa_least he.1 he.2
      have hN := dfa_fit he
      rw [show e.dfaOf = .tup [e.dfa.av, vI 0] by rw [E.dfaOf, if_pos hr]] at hof
      generalize e.dfa = d at hof hL hN
      have hfin := hL.sem.len
      have hpos := hL.sem.pos
      have hp0 : ¬ d.next.length = 0 := by omega
      have hrow := hL.sem.row
      have hord := hL.ord
      refine hC.go [] 60 ?_
      simp [h30]
      refine hC.call [] hof (by simp [E.av, E.cells, Au.av, Au.cells]) ?_
      refine hC.til [1007] [] 60 ?_
      simp [Au.av, Au.cells, hfin, hp0]
      refine go_len 36 1 (d.next.map fun r => [ints r]) (by simp) fun hnl => ?_
      rw [List.length_map] at hnl
      exact go_to [] (h3c hL hN hnl w h30 hC) (by simp [Au.cells])
end Go.Proofs.D
