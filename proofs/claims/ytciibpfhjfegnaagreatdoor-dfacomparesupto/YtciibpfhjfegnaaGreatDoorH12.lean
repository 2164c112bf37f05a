/-
  NUMBERS AS THEY ARE WRITTEN; rows of numbers, as they are told apart.
-/
import Derived.Test.YtciibpfhjfegnaaGreatDoorG12
import Derived.Test.YtciibpfhjfegnaaGreatDoorG3
import Derived.Test.YtciibpfhjfegnaaGreatDoorAbsK
import Derived.Test.YtciibpfhjfegnaaGreatDoorShelfS
import Derived.Test.YtciibpfhjfegnaaGreatDoorAbsMB
set_option linter.unusedVariables false
set_option linter.unusedSimpArgs false
namespace Go.Proofs.D
open Go Go.Abs Go.RowKit
attribute [local simp] VC VCS stepVS stepTopS firstId memN bigB unmark markT mkOff calmP keepT boundB boundC stepV stepTop stepReg stepOp stMove stPick stBin stUn stConv stBox stAlloc stLoad stStore stFieldAddr stField stExtract stNilCheck stMakeFunc stIndexAddr stIndex stLen
  stBuild placesOf fillA stBuildSlice sliceCells repL chunks allPV toPV drawOk drawOk.go mayMakeO mayMake1 disjoint pairS Oper.apart Oper.looksAt Op.operands Call.operands Region.binds stAppend appBase appTail unName stSlice bndA
  LS.ev LS.get LS.blk LS.put LS.app LS.upd lkS lkH setS setH Nm.eqb guardOf nexts okPair dstOk AV.cellsOf takeAt putAt lkT sliceE fieldT intK isStrT isBoolT abin newOk LS.freshB LS.freshB.go LS.freshB.goH notIn AV.ments AV.ments.mentsL Blk.ments makes upsMents LS.start startL exitTo T T5 outs callSideR callSideO callSideD upsR backO freshAll argB onlyIO List.map List.append List.nil_append List.cons_append Nat.blt
  conv convS convH srcs srcOf blkOk leA leA.leL Go.Abs.leB leP laid laidM laidG isArg subH retP resAV resL res1 AV.frz AV.frz.frzL evL AV.ren AV.ren.renL Blk.ren renBs blksOf allSome nodupB onlyArgs blksMents callUps keyed inName inName.go backName callSide
theorem dec_range (u : Nat) : ∀ c ∈ Lib.decDigits u, 48 ≤ c.toNat ∧ c.toNat ≤ 57 := by
  induction u using Nat.strongRecOn with
  | _ u ih =>
    rw [Lib.decDigits]
    split
    · intro c hc
      simp at hc
      subst hc
      simp
      omega
    · intro c hc
      rcases List.mem_append.1 hc with hc | hc
      · exact ih (u / 10) (by omega) c hc
      · simp at hc
        subst hc
        simp
        omega
theorem dec_ne (u : Nat) : Lib.decDigits u ≠ [] := by
  rw [Lib.decDigits]
  split <;> simp
theorem dec_inj : ∀ (u v : Nat), Lib.decDigits u = Lib.decDigits v → u = v := by
  intro u
  induction u using Nat.strongRecOn with
  | _ u ih =>
    intro v h
    have one : ∀ a b : Nat, a < 10 → b < 10 → UInt8.ofNat (48 + a) = UInt8.ofNat (48 + b) → a = b := fun a b ha hb e => by
      have := congrArg UInt8.toNat e
      simp at this
      omega
    have hl : ∀ w : Nat, ¬ w < 10 → Lib.decDigits w = Lib.decDigits (w / 10) ++ [UInt8.ofNat (48 + w % 10)] := fun w hw => by rw [Lib.decDigits, dif_neg hw]
    have hs : ∀ w : Nat, w < 10 → Lib.decDigits w = [UInt8.ofNat (48 + w)] := fun w hw => by rw [Lib.decDigits, dif_pos hw]
    by_cases hu : u < 10
    · by_cases hv : v < 10
      · rw [hs u hu, hs v hv] at h
        exact one u v hu hv (List.cons.inj h).1
      · rw [hs u hu, hl v hv] at h
        have h1 := congrArg List.length h
        have h2 := List.length_pos_iff.2 (dec_ne (v / 10))
        rw [List.length_append] at h1
        simp only [List.length_cons, List.length_nil] at h1
        omega
    · by_cases hv : v < 10
      · rw [hl u hu, hs v hv] at h
        have h1 := congrArg List.length h
        have h2 := List.length_pos_iff.2 (dec_ne (u / 10))
        rw [List.length_append] at h1
        simp only [List.length_cons, List.length_nil] at h1
        omega
      · rw [hl u hu, hl v hv] at h
        obtain ⟨h1, h2⟩ := List.append_inj' h rfl
        have e1 := ih (u / 10) (by omega) (v / 10) h1
        have e2 := one (u % 10) (v % 10) (by omega) (by omega) (List.cons.inj h2).1
        omega
theorem itoa_inj {a b : Int} (h : Lib.itoa a = Lib.itoa b) : a = b := by
  unfold Lib.itoa at h
  have hm : ∀ u v : Nat, ¬ (45 :: Lib.decDigits u = Lib.decDigits v) := fun u v e => by
    have := dec_range v 45 (by rw [← e]; simp)
    simp at this
  split at h <;> split at h
  · have := dec_inj _ _ (List.cons.inj h).2
    omega
  · exact absurd h (hm _ _)
  · exact absurd h.symm (hm _ _)
  · have := dec_inj _ _ h
    omega
def itoaB (n : Int) : ByteArray := ⟨(Lib.itoa n).toArray⟩
theorem itoaB_list (n : Int) : (itoaB n).data.toList = Lib.itoa n := by simp [itoaB]
theorem itoaB_inj {a b : Int} (h : itoaB a = itoaB b) : a = b := itoa_inj (by rw [← itoaB_list, h, itoaB_list])
theorem itoaB_sep (n : Int) : (44 : UInt8) ∉ (itoaB n).data.toList := by
  rw [itoaB_list]
  unfold Lib.itoa
  intro h
  split at h
  · rcases List.mem_cons.1 h with h | h
    · cases h
    · have := dec_range _ _ h
      simp at this
  · have := dec_range _ _ h
    simp at this
theorem decimal_len (u : Nat) : ∀ k, u < 10 ^ (k + 1) → (Lib.decDigits u).length ≤ k + 1 := by
  induction u using Nat.strongRecOn with
  | _ u ih =>
    intro k hk
    rw [Lib.decDigits]
    split
    · simp
    · cases k with
      | zero => omega
      | succ k =>
        have := ih (u / 10) (by omega) k (by rw [Nat.pow_succ] at hk; omega)
        simp
        omega
theorem itoaB_size {n : Int} (h0 : -1000000000 ≤ n) (h1 : n ≤ 1000000000) : (itoaB n).size ≤ 20 := by
  have e : (itoaB n).size = (Lib.itoa n).length := by rw [← itoaB_list]; exact (Array.length_toList).symm
  rw [e]
  unfold Lib.itoa
  split
  · have := decimal_len n.natAbs 9 (by omega)
    simp
    omega
  · have := decimal_len n.toNat 9 (by omega)
    omega
def signB (l : List Int) : ByteArray := joinB (l.map itoaB) ⟨#[44]⟩
theorem signB_inj {l m : List Int} (hl : l ≠ []) (hm : m ≠ []) (h : signB l = signB m) : l = m := by
  have := joinB_inj 44 (l := l.map itoaB) (m := m.map itoaB) (fun x hx => by obtain ⟨n, _, rfl⟩ := List.mem_map.1 hx; exact itoaB_sep n) (fun x hx => by obtain ⟨n, _, rfl⟩ := List.mem_map.1 hx; exact itoaB_sep n) (by simpa using hl) (by simpa using hm) h
  have key : ∀ a b : List Int, a.map itoaB = b.map itoaB → a = b := by
    intro a
    induction a with
    | nil => intro b h; cases b with
      | nil => rfl
      | cons y b => simp at h
    | cons x a ih =>
      intro b h
      cases b with
      | nil => simp at h
      | cons y b =>
        simp only [List.map_cons, List.cons.injEq] at h
        rw [itoaB_inj h.1, ih b h.2]
  exact key l m this
theorem signB_one (n : Int) : signB [n] = itoaB n := ext_list (by simp [signB, joinB, Lib.join_one])
theorem signB_snoc (x : Int) (l : List Int) (n : Int) : signB (x :: l ++ [n]) = signB (x :: l) ++ (⟨#[44]⟩ ++ itoaB n) := by
  refine ext_list ?_
  rw [app_list, app_list]
  simp [signB, joinB, Lib.join_cons, Lib.joinTail]
theorem signB_size {l : List Int} (h : ∀ n ∈ l, -1000000000 ≤ n ∧ n ≤ 1000000000) : (signB l).size ≤ 21 * l.length := by
  refine Nat.le_trans (join_size _ _) ?_
  have e44 : (⟨#[44]⟩ : ByteArray).size = 1 := rfl
  simp only [List.map_map, Function.comp_def, e44]
  induction l with
  | nil => simp
  | cons x l ih =>
    have h1 := ih fun n hn => h n (by simp [hn])
    have h2 := itoaB_size (h x (by simp)).1 (h x (by simp)).2
    simp only [List.map_cons, List.sum_cons, List.length_cons]
    omega
def tab10 : Granted := ⟨fun w F => (∃ k cs t p, Tryz.prog.globalNamed "internal/strconv.uint64pow10" = some k ∧ F k ∧ w.heap[k]? = some (.cells cs t p) ∧ cs = (Lib.pow10Tab.map fun z => Value.int .u64 z).toArray), by
  rintro w w' F F' ⟨k, cs, t, p, h1, h2, h3, h4⟩ hw hF
  exact ⟨k, cs, t, p, h1, hF _ h2, (hw _ h2).trans h3, h4⟩⟩
theorem tab10_is {w : World} {F : Nat → Prop} (h : tab10.p w F) : Lib.TabIs Tryz.prog w "internal/strconv.uint64pow10" .u64 Lib.pow10Tab := by
  obtain ⟨k, cs, t, p, h1, h2, h3, h4⟩ := h
  simp only [Lib.TabIs, World.var?, h1, Option.bind_some, h3, h4]
theorem below_grow (w : World) (q : Nat) (os : Array Obj) : Below w.heap.size w (Go.Sort.grow (w.drewN q) os) :=
  ⟨rfl, rfl, rfl, by simp [Go.Sort.grow], fun i hi => by
    show ((w.drewN q).heap ++ os)[i]? = _
    rw [Array.getElem?_append_left (by show i < w.heap.size; omega)]
    rfl⟩
theorem h131 (n : Int) (h0 : -9223372036854775808 ≤ n) (h1 : n ≤ 9223372036854775807) : Fun Tryz.prog tab10 131 [vI n] [] (vS (itoaB n)) [] := by
  refine fun_shelf ⟨_, Tryz.func131, by kernel_rfl, rfl⟩ fun w F cargs hg hF hlen hr => ?_
  match cargs, hlen with
  | [c0], _ =>
    obtain rfl := bool_of (hr 0 _ c0 rfl rfl)
    exact (Tryz.strconv_Itoa n h0 h1 w (tab10_is hg)).mono fun e w' ⟨he, k, os, hw⟩ => ⟨_, he, .pv _ _ (.val _ rfl), by rw [hw]; exact below_grow w k os⟩
theorem h132 (Gl : Granted) (K : List Int) (t : Int) (ht : t < 0 ∨ ∃ n : Nat, t = n ∧ n < K.length) : Fun Tryz.prog Gl 132 [.pv (ints K), vI t] [] (vI (if t < 0 then -1 else K.getD t.toNat 0)) [] := by
  refine fun_of (T := T5) (n := 11) (rs := [.tmp 4]) Tryz.func132 (by kernel_rfl) rfl rfl rfl tok5 mixed (by simp) fun C hC => ?_
  by_cases h : t < 0
  · refine hC.go [] 60 ?_
    simp [h]
  · obtain ⟨n, rfl, hn⟩ := ht.resolve_left h
    refine hC.go [] 60 ?_
    simp [h, hn, List.getD]
end Go.Proofs.D
namespace Go.Proofs.D
open Go Go.Abs
attribute [local simp] VC VCS stepVS stepTopS firstId memN bigB unmark markT mkOff calmP keepT boundB boundC stepV stepTop stepReg stepOp stMove stPick stBin stUn stConv stBox stAlloc stLoad stStore stFieldAddr stField stExtract stNilCheck stMakeFunc stIndexAddr stIndex stLen
  stBuild placesOf fillA stBuildSlice sliceCells repL chunks allPV toPV drawOk drawOk.go mayMakeO mayMake1 disjoint pairS Oper.apart Oper.looksAt Op.operands Call.operands Region.binds stAppend appBase appTail unName stSlice bndA
  LS.ev LS.get LS.blk LS.put LS.app LS.upd lkS lkH setS setH Nm.eqb guardOf nexts okPair dstOk AV.cellsOf takeAt putAt lkT sliceE fieldT intK isStrT isBoolT abin newOk LS.freshB LS.freshB.go LS.freshB.goH notIn AV.ments AV.ments.mentsL Blk.ments makes upsMents LS.start startL exitTo T T5 outs callSideR callSideO callSideD upsR backO freshAll argB onlyIO List.map List.append List.nil_append List.cons_append Nat.blt
  conv convS convH srcs srcOf blkOk leA leA.leL Go.Abs.leB leP laid laidM laidG isArg subH retP resAV resL res1 AV.frz AV.frz.frzL evL AV.ren AV.ren.renL Blk.ren renBs blksOf allSome nodupB onlyArgs blksMents callUps keyed inName inName.go backName callSide
abbrev keyD (K : List Int) (s : Nat) : Int := K.getD s 0
abbrev natsD (l : List Nat) : Blk := .row 3 1 (l.map fun z : Nat => [.val (.int .i64 (z : Int))])
abbrev intsD (l : List Int) : Blk := .row 3 1 (l.map fun z => [.val (.int .i64 z)])
abbrev rowsD (l : List (List Int)) : Blk := .row 37 1 (l.map fun r => [ints r])
abbrev finD (l : List Bool) : Blk := .row 4 1 (l.map fun b => [.val (.bool b)])
def metN (K : List Int) (A : List Nat) : Ents := A.zipIdx.map fun p => (Value.int .i64 (keyD K p.1), vI (p.2 : Nat))
theorem metN_snoc (K : List Int) (A : List Nat) (s : Nat) : metN K (A ++ [s]) = metN K A ++ [(.int .i64 (keyD K s), vI A.length)] := by
  simp [metN, List.zipIdx_append]
theorem metN_mem {K : List Int} {A : List Nat} {s : Int} {n : Nat} (h : (A.map (keyD K))[n]? = some s) : (.int .i64 s, vI n) ∈ metN K A := by
  rw [List.getElem?_map] at h
  obtain ⟨x, hx, rfl⟩ := Option.map_eq_some_iff.1 h
  exact List.mem_map.2 ⟨(x, n), List.mem_zipIdx_iff_getElem?.2 hx, rfl⟩
theorem metN_not {K : List Int} {A : List Nat} {s : Int} (h : s ∉ A.map (keyD K)) : ∀ p ∈ metN K A, p.1 ≠ .int .i64 s := fun p hp e => by
  obtain ⟨q, hq, rfl⟩ := List.mem_map.1 hp
  obtain ⟨h1, h2⟩ := List.mem_zipIdx' hq
  simp only [Value.int.injEq, true_and] at e
  exact h (List.mem_map.2 ⟨q.1, by rw [h2]; exact List.getElem_mem _, e⟩)
theorem key_i64 (z : Int) (h0 : -9223372036854775808 ≤ z) (h1 : z ≤ 9223372036854775807) : keyOf Tryz.prog 3 (.int .i64 z) = some (.int .i64 z) := by
  refine Go.Maps.keyOf_int_mk Tryz.underlying3 ?_
  have e1 : IntKind.min .i64 = -9223372036854775808 := by decide
  have e2 : IntKind.max .i64 = 9223372036854775807 := by decide
  simp only [Lit.wf, Bool.and_eq_true, decide_eq_true_eq, e1, e2]
  exact ⟨h0, h1⟩
set_option maxRecDepth 20000 in
set_option maxHeartbeats 8000000 in
theorem h133 (Gl : Granted) (d : Au) (hlim : Lim d) (hN : d.names.length ≤ 1000) (hn : d.next.length ≤ 16777216) (K : List Int) (hC0 : K.length = d.next.length) (hK : ∀ c ∈ K, 0 ≤ c ∧ c ≤ 1000000000) :
    Fun Tryz.prog Gl 133 [d.av, .pv (ints K)] [] (numbered d K).av [] := by
  have hfl := hlim.fin
  have hDk : ∀ s (hs : s < d.next.length), (nextN d s).length = d.names.length := fun s hs => by
    have e1 : d.next[s]? = some d.next[s] := by simp
    rw [nextN_len e1, (hlim.row _ (List.getElem_mem hs)).1]
  have hDr : ∀ (s k : Nat) (hs : s < d.next.length) (hk : k < d.next[s].length), (nextN d s)[k]? = some (if d.next[s][k] < 0 then none else some d.next[s][k].toNat) := fun s k hs hk =>
    nextN_get (r := d.next[s]) (t := d.next[s][k]) (by simp) (by simp)
  have hnumb : (numbered d K).av = .agg [.pv (namesV d.names), .pv (rowsV (numM d K d.next.length).2), .pv (finV ((numM d K d.next.length).1.map fun s => d.final.getD s false))] := by
    simp only [numbered, Au.av, Au.cells]
  rw [hnumb]
  have hof := num_of hlim K
  have hle := num_len hlim K
  have h0 := hlim.pos
  have hrow := hlim.row
  clear hnumb hlim
  generalize hNe : d.names = N at hN hDk hrow
  obtain ⟨n, hnn⟩ : ∃ n, d.next.length = n := ⟨_, rfl⟩
  rw [hnn] at hfl hn hof hle h0 hC0
  simp only [hnn]
  have hK0 : 0 < K.length := by omega
  have hKr := fun s (hs : s < K.length) => hK K[s] (List.getElem_mem hs)
  have hr0 := hKr 0 hK0
  refine fun_of (T := T5) (n := 97) (rs := [.cell 4 31]) Tryz.func133 (by kernel_rfl) rfl rfl rfl tok5 mixed (by simp) fun C hC => ?_
  refine hC.go [22] 90 ?_
  simp [Au.av, Au.cells, hNe]
  refine hC.makeC 3 rfl rfl (by simp) ?_
  refine hC.go [22] 90 ?_
  simp [hK0]
  refine hC.putC (l := []) (av := vI 0) Tryz.underlying111 (Maps.int_keyed Tryz.underlying3) (.loc 17) (.inr rfl) (key_one _) (key_i64 _ (by omega) (by omega)) (by simp) (by simp) ?_
  refine hC.go [22] 90 ?_
  simp
  refine go_loop (ι := {i : Nat // i ≤ n ∧ i ≤ (numM d K i).1.length}) (fun x => ⟨[(1, .pv (ints K)), (2, .ptr (.loc 2) 0), (4, .ptr (.loc 4) 0), (5, .ptr (.loc 5) 0), (6, .hmap (.can 3)), (7, .own (.can 0)), (8, vI x.1)],
      [(.loc 2, some (.box 31 d.cells)), (.loc 4, some (.box 31 [nm0, nm0, nm0])), (.loc 5, some (.box 31 [.pv (namesV N), .own (.can 1), .own (.can 2)])), (.can 0, some (natsD (numM d K x.1).1)), (.can 1, some (rowsD (numM d K x.1).2)), (.can 2, some (finD (((numM d K x.1).1.take x.1).map fun s => d.final.getD s false))), (.can 3, some (.gen (mapC Tryz.prog 3 (metN K (numM d K x.1).1))))]⟩)
    (fun x => n - x.1) ⟨0, by simp⟩ [(.can 0, .nm (.loc 22)), (.can 1, .nil), (.can 2, .nil), (.can 3, .nm (.loc 17))] (by simp [num_first, Au.cells, hNe, metN, List.getD, hK0]) fun x ih => ?_
  obtain ⟨i, hi, hi2⟩ := x
  simp only at ih
  by_cases hlt : i < (numM d K i).1.length
  · have hle1 := hle (i + 1)
    have hle0 := hle i
    have hrows := num_rows d K i hi2
    obtain ⟨m1, hpre⟩ := num_pre d K i
    have ih' := ih ⟨i + 1, by omega, by rw [hpre, List.length_append]; omega⟩ (by simp; omega)
    obtain ⟨s, hs⟩ : ∃ s, (numM d K i).1[i] = s := ⟨_, rfl⟩
    have hsn := hof i s (by rw [← hs]; simp)
    have hstep := num_step d K i s (by rw [List.getElem?_eq_getElem hlt, hs])
    have hnd := num_nodup d K i
    have hofi := hof i
    rw [hstep] at hle1 hpre
    simp only at hle1 hpre
    simp only [hstep] at ih'
    simp only [hpre] at ih'
    rw [show ((numM d K i).1 ++ m1).take (i + 1) = (numM d K i).1.take i ++ [s] by rw [List.take_append_of_le_length (by omega), List.take_add_one, List.getElem?_eq_getElem hlt, hs]; rfl] at ih'
    rw [← hpre] at ih'
    dsimp only at ih' ⊢
    clear hstep ih hle
    generalize numM d K i = M at hlt hs ih' hnd hofi hrows hle0 hle1 hpre hi2
    obtain ⟨A, R⟩ := M
    simp only at hlt hs ih' hnd hofi hrows hle0 hle1 hpre hi2
    have hw1 := wr64 ((i : Int) + 1) (by omega)
    have hsd : s < d.next.length := by omega
    have hrl := (hrow _ (List.getElem_mem hsd))
    have hlen := hDk s hsd
    have hDs := fun k hk => hDr s k hsd hk
    rw [hnn] at hrl
    obtain ⟨r, hr⟩ : ∃ r, d.next[s] = r := ⟨_, rfl⟩
    simp only [hr] at hrl hDs
    clear hDr hDk hrow
    generalize nextN d s = l at ih' hlen hDs hle1 hpre
    generalize hfin : (A.take i).map (fun s => d.final.getD s false) = fs at ih'
    have hfsl : fs.length = i := by rw [← hfin, List.length_map, List.length_take]; omega
    have hfs : d.final.getD s false = d.final[s]'(by omega) := by simp [List.getD, show s < d.final.length by omega]
    rw [List.map_append, hfin] at ih'
    simp only [List.map_cons, List.map_nil, hfs] at ih'
    simp only [hfin]
    refine hC.go [] 90 ?_
    simp [hlt]
    refine hC.drawn (by kernel_rfl) (by simp [Au.cells]) ?_
    refine hC.go [] 90 ?_
    simp [Au.cells, hs, hsd, hr, hlt]
    refine go_loop (ι := {k : Nat // k ≤ r.length}) (fun x => ⟨[(1, .pv (ints K)), (2, .ptr (.loc 2) 0), (4, .ptr (.loc 4) 0), (5, .ptr (.loc 5) 0), (6, .hmap (.can 3)), (7, .own (.can 0)), (8, vI i), (9, .own (.can 4)), (36, .pv (ints r)), (37, vI r.length), (38, vI x.1)],
        [(.loc 2, some (.box 31 d.cells)), (.loc 4, some (.box 31 [nm0, nm0, nm0])), (.loc 5, some (.box 31 [.pv (namesV N), .own (.can 1), .own (.can 2)])), (.can 0, some (natsD (rowQ (keyD K) A l x.1).1)), (.can 1, some (rowsD R)), (.can 2, some (finD fs)), (.can 3, some (.gen (mapC Tryz.prog 3 (metN K (rowQ (keyD K) A l x.1).1)))), (.can 4, some (intsD (rowQ (keyD K) A l x.1).2))]⟩)
      (fun x => r.length - x.1) ⟨0, Nat.zero_le _⟩ [(.can 4, .nil)] (by simp [rowQ_zero, Au.cells]) fun x ihk => ?_
    obtain ⟨k, hk⟩ := x
    simp only at hk ihk
    obtain ⟨q1, q2, q3, m2, q4, q5⟩ := rowQ_facts (keyD K) (l := l) hnd k (by omega)
    have q3' : (rowQ (keyD K) A l k).1.length ≤ n := Nat.le_trans q3 hle1
    have hAi : (rowQ (keyD K) A l k).1[i]? = some s := by rw [q4, List.getElem?_append_left hlt, List.getElem?_eq_getElem hlt, hs]
    by_cases hkl : k < r.length
    · have hwk := wr64 ((k : Int) + 1) (by omega)
      have ihk' := ihk ⟨k + 1, hkl⟩ (by simp; omega)
      have hlk := hDs k hkl
      clear ih' ihk
      rcases hrl.2 r[k] (by simp) with hp | ⟨p, hp, hpn⟩
      · rw [if_pos (by omega)] at hlk
        rw [rowQ_none (keyD K) hlk] at ihk'
        generalize rowQ (keyD K) A l k = Q at q1 q2 q3 q3' q4 hAi ihk'
        obtain ⟨A', Z⟩ := Q
        simp only at q1 q2 q3 q3' q4 hAi ihk'
        refine hC.go [] 90 ?_
        simp [hkl, hp, Au.cells]
        refine ⟨by omega, ?_⟩
        exact go_to [(.can 4, .nm (.loc 46))] ihk' (by simp [hwk, Au.cells])
      · rw [if_neg (by omega)] at hlk
        rw [hp, Int.toNat_natCast] at hlk
        rw [rowQ_some (keyD K) hlk] at ihk'
        have hpC : p < K.length := by omega
        have hkp : keyD K p = K[p] := by simp [keyD, List.getD, hpC]
        rw [hkp] at ihk'
        have hKp := hKr p hpC
        generalize rowQ (keyD K) A l k = Q at q1 q2 q3 q3' q4 hAi ihk'
        obtain ⟨A', Z⟩ := Q
        simp only at q1 q2 q3 q3' q4 hAi ihk'
        have hz3 : ∃ z, (∀ w, (zeroValue 3).run Tryz.prog w = .ok z w) ∧ ∀ (w : World) (F : Nat → Prop) (hd : Nm → Hd), Rep w F hd (vI 0) z := ⟨.int .i64 0, Tryz.zeroValue3, fun _ _ _ => rep_val rfl⟩
        have hneg : ¬ (p : Int) < 0 := by omega
        refine hC.go [] 90 ?_
        simp [hkl, hp, hneg, hpC, Au.cells]
        by_cases hm : K[p] ∈ A'.map (keyD K)
        · rw [if_pos hm] at ihk'
          simp only at ihk'
          have hix := ixK_mem hm
          obtain ⟨ix, hixe⟩ : ∃ n, ixK K[p] (A'.map (keyD K)) = n := ⟨_, rfl⟩
          rw [hixe] at hix ihk'
          refine hC.getC Tryz.underlying111 (Maps.int_keyed Tryz.underlying3) (.can 3) (zero := vI 0) (l := metN K A') hz3 (.tup [vI ix, vB true]) rfl (key_one _) (key_i64 _ (by omega) (by omega)) (.inr ⟨vI ix, metN_mem hix, rfl⟩) (by simp) ?_
          refine hC.go [] 90 ?_
          simp
          refine ⟨by omega, ?_⟩
          exact go_to [(.can 4, .nm (.loc 75))] ihk' (by simp [hwk, Au.cells])
        · rw [if_neg hm] at ihk'
          simp only at ihk'
          refine hC.getC Tryz.underlying111 (Maps.int_keyed Tryz.underlying3) (.can 3) (zero := vI 0) (l := metN K A') hz3 (.tup [vI 0, vB false]) rfl (key_one _) (key_i64 _ (by omega) (by omega)) (.inl ⟨metN_not hm, rfl⟩) (by simp) ?_
          refine hC.go [] 90 ?_
          simp
          refine hC.drawn (by kernel_rfl) (by simp) ?_
          refine hC.go [] 90 ?_
          simp [hpC]
          refine ⟨by omega, ?_⟩
          refine hC.entryC (l := metN K A') (zero := vI 0) (z := .int .i64 0) Tryz.underlying111 (Maps.int_keyed Tryz.underlying3) (.can 3) Tryz.zeroValue3 (fun _ _ _ => rep_val rfl) rfl rfl (key_one _) (key_i64 _ (by omega) (by omega)) (metN_not hm) (by simp) ?_
          refine hC.go [] 90 ?_
          simp
          refine hC.storeC (.can 3) (k := 3) (key := .int .i64 K[p]) (zero := vI 0) (av := vI A'.length) (l := metN K A') rfl (by simp) ?_
          refine hC.go [] 90 ?_
          simp
          refine ⟨by omega, ?_⟩
          exact go_to [(.can 4, .nm (.loc 75)), (.can 0, .nm (.loc 69))] ihk' (by simp [hwk, Au.cells, metN_snoc, hkp, hpC])
    · have hkN : k = r.length := by omega
      subst hkN
      rw [← rowQ_all, hlen, ← hrl.1] at ih'
      clear ihk q1 q3 q3' q4 q5
      generalize rowQ (keyD K) A l r.length = Q at ih' q2 hAi
      obtain ⟨A', Z⟩ := Q
      simp only at ih' q2 hAi
      have hiA := (List.getElem?_eq_some_iff.1 hAi).1
      have hAe : A'[i] = s := (List.getElem?_eq_some_iff.1 hAi).2
      have hsf : s < d.final.length := by omega
      refine hC.til [19] [] 90 ?_
      simp
      refine go_to (M := ⟨[(1, .pv (ints K)), (2, .ptr (.loc 2) 0), (4, .ptr (.loc 4) 0), (5, .ptr (.loc 5) 0), (6, .hmap (.can 3)), (7, .own (.can 0)), (8, vI i), (9, .pv (ints Z))],
          [(.loc 2, some (.box 31 d.cells)), (.loc 4, some (.box 31 [nm0, nm0, nm0])), (.loc 5, some (.box 31 [.pv (namesV N), .own (.can 1), .own (.can 2)])), (.can 0, some (natsD A')), (.can 1, some (rowsD R)), (.can 2, some (finD fs)), (.can 3, some (.gen (mapC Tryz.prog 3 (metN K A'))))]⟩) [] ?_ (by simp [Au.cells])
      refine hC.drawn (by kernel_rfl) (by simp [Au.cells]) ?_
      refine hC.go [] 90 ?_
      simp [hiA, hAe, hsf, Au.cells]
      refine ⟨by omega, ?_⟩
      refine ⟨by omega, ?_⟩
      exact go_to [(.can 1, .nm (.loc 81)), (.can 2, .nm (.loc 93))] ih' (by simp [hw1, Au.cells])
  · have hin : i = (numM d K i).1.length := by omega
    rw [num_end d K i n (by omega) hi] at hC
    have htk : (numM d K i).1.take i = (numM d K i).1 := List.take_of_length_le (by omega)
    simp only [htk]
    refine hC.go [] 90 ?_
    simp [hlt, Au.av, Au.cells]
def metS (A : List (List Int)) : Ents := A.zipIdx.map fun p => (Value.string (signB p.1), vI (p.2 : Nat))
theorem metS_snoc (A : List (List Int)) (s : List Int) : metS (A ++ [s]) = metS A ++ [(.string (signB s), vI A.length)] := by
  simp [metS, List.zipIdx_append]
theorem metS_len (A : List (List Int)) : (metS A).length = A.length := by simp [metS]
theorem metS_mem {A : List (List Int)} {s : List Int} {n : Nat} (h : A[n]? = some s) : (.string (signB s), vI n) ∈ metS A :=
  List.mem_map.2 ⟨(s, n), List.mem_zipIdx_iff_getElem?.2 h, rfl⟩
theorem metS_not {A : List (List Int)} {s : List Int} (hne : ∀ x ∈ A, x ≠ []) (hs : s ≠ []) (h : s ∉ A) : ∀ p ∈ metS A, p.1 ≠ .string (signB s) := fun p hp e => by
  obtain ⟨q, hq, rfl⟩ := List.mem_map.1 hp
  obtain ⟨h1, h2⟩ := List.mem_zipIdx' hq
  simp only [Value.string.injEq] at e
  have hm : q.1 ∈ A := by rw [h2]; exact List.getElem_mem _
  exact h (signB_inj (hne _ hm) hs e ▸ hm)
theorem key_sign (s : ByteArray) (h : s.size ≤ maxLen) : keyOf Tryz.prog 9 (.string s) = some (.string s.data.toList) := by
  simp [keyOf, Tryz.underlying9, mapKey]
  exact h
theorem zrep {α : Type} (Z : List α) (i n : Nat) (z v : α) (hl : Z.length = i) (hi : i < n) : (Z ++ List.replicate (n - i) z).set i v = (Z ++ [v]) ++ List.replicate (n - (i + 1)) z := by
  have e : n - i = (n - (i + 1)) + 1 := by omega
  rw [e, List.replicate_succ, List.set_append_right _ _ (by omega), hl, Nat.sub_self, List.set_cons_zero]
  simp
theorem zget {α : Type} (Z : List α) (i n : Nat) (z : α) (hl : Z.length = i) (hi : i < n) : (Z ++ List.replicate (n - i) z)[i]? = some z := by
  rw [List.getElem?_append_right (by omega), hl, Nat.sub_self, List.getElem?_replicate]
  simp; omega
theorem signs_len (d : Au) (K : List Int) : (signs d K).length = d.next.length := by simp [signs]
theorem signs_at (d : Au) (K : List Int) {i : Nat} (hi : i < d.next.length) : (signs d K)[i]? = some (K.getD i 0 :: d.next[i].map (clsOf K)) := by
  simp [signs, signOf, hi]
theorem sign_ne {d : Au} {K : List Int} {x : List Int} (h : some x ∈ (signs d K).map some) : x ≠ [] := by
  obtain ⟨y, hy, e⟩ := List.mem_map.1 h
  cases e
  obtain ⟨i, _, rfl⟩ := List.mem_map.1 hy
  simp [signOf]
theorem Sem0.lim {d : Au} {L : Nat → Row → Prop} (h : Sem0 d L) (hn : d.names.Nodup) : Lim d := by
  refine ⟨h.pos, h.len, fun r hr => ⟨h.row r hr, fun t ht => ?_⟩⟩
  obtain ⟨i, hi⟩ := List.getElem?_of_mem hr
  obtain ⟨k, hk⟩ := List.getElem?_of_mem ht
  have hil := (List.getElem?_eq_some_iff.1 hi).1
  have hkl := (List.getElem?_eq_some_iff.1 hk).1
  have hkn : k < d.names.length := by rw [← h.row r hr]; exact hkl
  have ha : d.names[k]? = some d.names[k] := by simp
  have := getRow h hn hi ha
  rw [hk] at this
  cases this
  rcases h.step i hil d.names[k] (by simp) with ⟨e, _⟩ | ⟨m, e, hm, _⟩
  · exact .inl e
  · exact .inr ⟨m, e, hm⟩
abbrev infJ : TI := ⟨false, 1, 8, [.val (.int .i64 0)], .int .i64⟩
set_option maxRecDepth 20000 in
set_option maxHeartbeats 8000000 in
theorem h92 (d : Au) {L : Nat → Row → Prop} (hS : Sem d L) (hnd : d.names.Nodup) (hlim : Lim d) (hN : d.names.length ≤ 1000) (hn : d.next.length ≤ 16777216) : Fun Tryz.prog tab10 92 [d.av] [] (leastA d L).av [] := by
  have hfl := hlim.fin
  have hez := even_live hS hnd
  have hstart := cls_start hS.toSem0
  have hround := fun (K : List Int) (many : Nat) (h : Cls d L K many) => cls_round hS.toSem0 hnd hez h
  have hleast := fun (K : List Int) (h : Exact d L K) => leastA_eq hS hnd h
  obtain ⟨n, hnn⟩ : ∃ n, d.next.length = n := ⟨_, rfl⟩
  have h133 := fun (K : List Int) (hC0 : K.length = d.next.length) (hK : ∀ c ∈ K, 0 ≤ c ∧ c ≤ 1000000000) => h133 tab10 d hlim hN hn K hC0 hK
  have hrow := hlim.row
  have hcl : (cls0 d).length = d.next.length := by rw [cls0, List.length_map, hfl]
  clear hS
  rw [hnn] at hfl hn hcl
  refine fun_of (T := T5) (n := 93) (rs := [.cell 2 31]) Tryz.func92 (by kernel_rfl) rfl rfl rfl tok5 mixed (by simp) fun C hC => ?_
  refine hC.go [] 90 ?_
  simp [Au.av, Au.cells]
  refine hC.makeRow (e := 3) (inf := infJ) n rfl rfl (by simp [hnn]; omega) ?_
  refine hC.go [] 90 ?_
  simp
  refine go_loop (ι := {i : Nat // i ≤ n}) (fun x => ⟨[(1, .ptr (.loc 1) 0), (2, .ptr (.loc 2) 0), (3, .own (.can 0)), (21, .pv (finV d.final)), (22, vI n), (23, vI x.1)],
      [(.loc 1, some (.box 31 d.cells)), (.loc 2, some (.box 31 [nm0, nm0, nm0])), (.can 0, some (intsD ((cls0 d).take x.1 ++ List.replicate (n - x.1) 0)))]⟩)
    (fun x => n - x.1) ⟨0, by simp⟩ [(.can 0, .nm (.loc 19))] (by simp [Au.cells, hfl]) fun x ih => ?_
  obtain ⟨i, hi⟩ := x
  simp only at hi ih
  by_cases hlt : i < n
  · have hw := wr64 ((i : Int) + 1) (by omega)
    have ih' := ih ⟨i + 1, hlt⟩ (by simp; omega)
    have hif : i < d.final.length := by omega
    have htl : ((cls0 d).take i).length = i := by rw [List.length_take]; omega
    have htk : (cls0 d).take (i + 1) = (cls0 d).take i ++ [if d.final[i] = true then 1 else 0] := by
      rw [List.take_add_one]
      congr 1
      simp [cls0, hif]
    have hset := fun v => zrep ((cls0 d).take i) i n (0 : Int) v htl hlt
    have hget := zget ((cls0 d).take i) i n (0 : Int) htl hlt
    simp only [htk] at ih'
    dsimp only
    generalize (cls0 d).take i = Z at htl hset hget ih'
    rw [← hset] at ih'
    have hzl : i < (Z ++ List.replicate (n - i) (0 : Int)).length := (List.getElem?_eq_some_iff.1 hget).1
    have hzi : (Z ++ List.replicate (n - i) (0 : Int))[i] = 0 := (List.getElem?_eq_some_iff.1 hget).2
    generalize Z ++ List.replicate (n - i) (0 : Int) = Y at hget hzl hzi ih'
    have hlI : (i : Int) < n := by omega
    cases hb : d.final[i] with
    | true =>
      refine hC.go [] 90 ?_
      simp [hlI, hif, hb, Au.cells, hzl]
      refine hC.storeE (.can 0) (e := 3) (sz := 1) (inf := infJ) (es := Y.map fun z => [.val (.int .i64 z)]) (k := i) (f := 0) (el := [.val (.int .i64 0)]) [.val (.int .i64 1)] rfl (by simp [hget]) ?_
      refine hC.go [] 90 ?_
      simp
      exact go_to [] ih' (by simp [hw, hb, List.map_set, Au.cells])
    | false =>
      have hsame : Y.set i 0 = Y := by
        rw [← hzi]; exact List.set_getElem_self _
      refine hC.go [] 90 ?_
      simp [hlI, hif, hb, Au.cells, hzl]
      exact go_to [] ih' (by simp [hw, hb, hsame, Au.cells])
  · have hin : i = n := by omega
    subst hin
    have htk : (cls0 d).take i = cls0 d := List.take_of_length_le (by omega)
    simp only [htk, Nat.sub_self, List.replicate_zero, List.append_nil]
    refine hC.go [] 90 ?_
    simp [Au.cells]
    have hc0 : ∀ c ∈ cls0 d, c ≤ 16777216 := fun c hc => by
      obtain ⟨b, _, rfl⟩ := List.mem_map.1 hc
      cases b <;> decide
    refine go_loop (ι := {x : List Int × Nat // Cls d L x.1 x.2 ∧ ∀ c ∈ x.1, c ≤ 16777216}) (fun x => ⟨[(1, .ptr (.loc 1) 0), (2, .ptr (.loc 2) 0), (3, .pv (ints x.1.1)), (6, vI x.1.2)],
        [(.loc 1, some (.box 31 d.cells)), (.loc 2, some (.box 31 [nm0, nm0, nm0]))]⟩)
      (fun x => i + 1 - x.1.2) ⟨(cls0 d, 0), hstart, hc0⟩ [] (by simp [Au.cells]) fun x ih => ?_
    obtain ⟨⟨K, many⟩, hK, hKb⟩ := x
    simp only at hK hKb ih
    obtain ⟨r1, r2, r3, r4, r5, r6⟩ := hround K many hK
    have hKl := hK.len
    have hKp := hK.pos
    rw [hnn] at r4 hKl
    have hsl := signs_len d K
    have hsat := fun i hi => signs_at d K (i := i) hi
    have hsne := fun x hx => sign_ne (d := d) (K := K) (x := x) hx
    have hrel : relab (signs d K) = ((rowQ id [] ((signs d K).map some) i).2, (rowQ id [] ((signs d K).map some) i).1.length) := by
      have : i = ((signs d K).map some).length := by rw [List.length_map, hsl, hnn]
      rw [this, rowQ_all]
      rfl
    rw [hnn] at hsl
    refine hC.go [] 90 ?_
    simp
    refine hC.mapMake 9 rfl rfl (by simp [Au.cells]) ?_
    refine hC.go [] 90 ?_
    simp
    refine hC.makeRow (e := 3) (inf := infJ) i rfl rfl (by simp [hKl, Au.cells]; omega) ?_
    refine hC.go [] 90 ?_
    simp [Au.cells]
    have hspec := (relab_spec (signs d K)).2.1
    rw [hrel] at r1 r2 r3 r4 r5 r6 hspec
    simp only at r1 r2 r3 r4 r5 r6 hspec
    clear hrel
    obtain ⟨sg, hsg⟩ : ∃ sg, signs d K = sg := ⟨_, rfl⟩
    rw [hsg] at hsl hsat hsne r1 r2 r3 r4 r5 r6 hspec
    refine go_loop (ι := {j : Nat // j ≤ i}) (fun x => ⟨[(1, .ptr (.loc 1) 0), (2, .ptr (.loc 2) 0), (3, .pv (ints K)), (6, vI many), (7, .hmap (.can 0)), (8, .own (.can 1)), (38, .pv (rowsV d.next)), (39, vI i), (40, vI x.1)],
        [(.loc 1, some (.box 31 d.cells)), (.loc 2, some (.box 31 [nm0, nm0, nm0])), (.can 0, some (.gen (mapG Tryz.prog 9 (metS (rowQ id [] (sg.map some) x.1).1)))), (.can 1, some (intsD ((rowQ id [] (sg.map some) x.1).2 ++ List.replicate (i - x.1) 0)))]⟩)
      (fun x => i - x.1) ⟨0, by simp⟩ [(.can 0, .nm (.loc 33)), (.can 1, .nm (.loc 36))] (by simp [Au.cells, hnn, rowQ_zero, metS]) fun x ihj => ?_
    obtain ⟨j, hj⟩ := x
    simp only at hj ihj
    obtain ⟨q1, q2, q3, m2, q4, q5⟩ := rowQ_facts id (A := ([] : List (List Int))) (l := sg.map some) (by simp) j (by rw [List.length_map]; omega)
    have qne : ∀ x ∈ (rowQ id [] (sg.map some) j).1, x ≠ [] := fun x hx => by
      rw [q4, List.nil_append] at hx
      exact hsne x (q5 x hx)
    by_cases hjl : j < i
    · have hw := wr64 ((j : Int) + 1) (by omega)
      have ihj' := ihj ⟨j + 1, hjl⟩ (by simp; omega)
      have hjd : j < d.next.length := by omega
      have hjK : j < K.length := by omega
      obtain ⟨s, hs⟩ : ∃ s, K.getD j 0 :: d.next[j].map (clsOf K) = s := ⟨_, rfl⟩
      have hsj := hsat j hjd
      rw [hs] at hsj
      have hlk : (sg.map some)[j]? = some (some s) := by rw [List.getElem?_map, hsj]; rfl
      have hsn : s ≠ [] := by rw [← hs]; simp
      rw [rowQ_some id hlk] at ihj'
      obtain ⟨r, hr⟩ : ∃ r, d.next[j] = r := ⟨_, rfl⟩
      have hrl := hrow _ (List.getElem_mem hjd)
      rw [hr, hnn] at hrl
      rw [hr] at hs
      have hKj : K.getD j 0 = K[j] := by simp [List.getD, hjK]
      rw [hKj] at hs
      have hKb1 := hKb K[j] (by simp)
      have hKp1 := hKp K[j] (by simp)
      have hKc : ∀ t ∈ r, -1 ≤ clsOf K t ∧ clsOf K t ≤ 16777216 := fun t ht => by
        unfold clsOf
        split
        · omega
        · rcases hrl.2 t ht with h | ⟨m, rfl, hm⟩
          · omega
          · rw [Int.toNat_natCast]
            have hmK : m < K.length := by omega
            have e : K.getD m 0 = K[m] := by simp [List.getD, hmK]
            rw [e]
            have := hKb K[m] (by simp)
            have := hKp K[m] (by simp)
            omega
      generalize rowQ id [] (sg.map some) j = Q at q1 q2 q3 q4 qne ihj'
      obtain ⟨A, Z⟩ := Q
      simp only at q1 q2 q3 q4 qne ihj'
      refine hC.go [] 90 ?_
      simp [hjl, hjd, hr, hjK]
      refine hC.call [] (h131 K[j] (by omega) (by omega)) (by simp) ?_
      refine hC.go [] 90 ?_
      simp
      refine go_loop (ι := {x : Nat × ByteArray // x.1 ≤ r.length ∧ x.2 = signB (K[j] :: (r.take x.1).map (clsOf K))}) (fun x => ⟨[(1, .ptr (.loc 1) 0), (2, .ptr (.loc 2) 0), (3, .pv (ints K)), (6, vI many), (7, .hmap (.can 0)), (8, .own (.can 1)), (9, vI j), (10, .pv (ints r)), (11, vS x.1.2), (38, .pv (rowsV d.next)), (39, vI i), (40, vI j), (50, .pv (ints r)), (51, vI r.length), (52, vI x.1.1)],
          [(.loc 1, some (.box 31 d.cells)), (.loc 2, some (.box 31 [nm0, nm0, nm0])), (.can 0, some (.gen (mapG Tryz.prog 9 (metS A)))), (.can 1, some (intsD (Z ++ List.replicate (i - j) 0)))]⟩)
        (fun x => r.length - x.1.1) ⟨(0, itoaB K[j]), by simp, by simp [signB_one]⟩ [] (by simp [Au.cells]) fun x ihk => ?_
      obtain ⟨⟨k, tx⟩, hk, htx⟩ := x
      simp only at hk htx ihk
      have hzb : ∀ z ∈ K[j] :: r.map (clsOf K), -1000000000 ≤ z ∧ z ≤ 1000000000 := fun z hz => by
        rcases List.mem_cons.1 hz with rfl | hz
        · omega
        · obtain ⟨t, ht, rfl⟩ := List.mem_map.1 hz
          have := hKc t ht
          omega
      have hzt : (signB (K[j] :: (r.take k).map (clsOf K))).size ≤ 21 * ((r.take k).length + 1) := by
        have := signB_size (l := K[j] :: (r.take k).map (clsOf K)) fun z hz => hzb z (by
          rcases List.mem_cons.1 hz with rfl | hz
          · simp
          · obtain ⟨t, ht, rfl⟩ := List.mem_map.1 hz
            exact List.mem_cons_of_mem _ (List.mem_map.2 ⟨t, List.mem_of_mem_take ht, rfl⟩))
        simpa using this
      rw [List.length_take, ← htx] at hzt
      by_cases hkl : k < r.length
      · have hwk := wr64 ((k : Int) + 1) (by omega)
        have hcc := hKc r[k] (by simp)
        have htk : (r.take (k + 1)).map (clsOf K) = (r.take k).map (clsOf K) ++ [clsOf K r[k]] := by rw [List.take_add_one, List.getElem?_eq_getElem hkl, List.map_append]; rfl
        have hnext : tx ++ (⟨#[44]⟩ ++ itoaB (clsOf K r[k])) = signB (K[j] :: (r.take (k + 1)).map (clsOf K)) := by
          rw [htk, htx, ← List.cons_append, signB_snoc]
        have hof := h132 tab10 K r[k] (by
          rcases hrl.2 r[k] (by simp) with h | ⟨m, h, hm⟩
          · exact .inl (by omega)
          · exact .inr ⟨m, h, by omega⟩)
        rw [show (if r[k] < 0 then (-1 : Int) else K.getD r[k].toNat 0) = clsOf K r[k] from rfl] at hof
        have hsz1 := itoaB_size (n := clsOf K r[k]) (by omega) (by omega)
        refine hC.go [] 90 ?_
        simp [hkl]
        refine hC.call [] hof (by simp) ?_
        refine hC.go [] 90 ?_
        simp
        refine hC.call [] (h131 (clsOf K r[k]) (by omega) (by omega)) (by simp) ?_
        refine hC.go [] 90 ?_
        simp
        have e44 : (⟨#[44]⟩ : ByteArray).size = 1 := rfl
        refine ⟨by omega, by omega, ?_⟩
        exact go_to [] (ihk ⟨(k + 1, tx ++ (⟨#[44]⟩ ++ itoaB (clsOf K r[k]))), hkl, hnext⟩ (by simp; omega)) (by simp [hwk, Au.cells])
      · have htk : r.take k = r := List.take_of_length_le (by omega)
        rw [htk, hs] at htx
        subst htx
        refine hC.go [] 90 ?_
        simp [hkl]
        have hsm : (signB s).size ≤ maxLen := by simp only [maxLen]; omega
        have hz3 : ∃ z, (∀ w, (zeroValue 3).run Tryz.prog w = .ok z w) ∧ ∀ (w : World) (F : Nat → Prop) (hd : Nm → Hd), Rep w F hd (vI 0) z := ⟨.int .i64 0, Tryz.zeroValue3, fun _ _ _ => rep_val rfl⟩
        have hset := fun v => zrep Z j i (0 : Int) v q2 hjl
        have hget := zget Z j i (0 : Int) q2 hjl
        by_cases hm : s ∈ A
        · rw [if_pos (by simpa using hm)] at ihj'
          simp only [id_eq, List.map_id] at ihj'
          have hix := ixK_mem hm
          obtain ⟨ix, hixe⟩ : ∃ n, ixK s A = n := ⟨_, rfl⟩
          rw [hixe] at hix ihj'
          rw [← hset] at ihj'
          have hzl : j < (Z ++ List.replicate (i - j) (0 : Int)).length := (List.getElem?_eq_some_iff.1 hget).1
          generalize Z ++ List.replicate (i - j) (0 : Int) = Y at hget hzl ihj'
          refine hC.mapGet Tryz.underlying104 (Maps.string_keyed Tryz.underlying9) (.can 0) (zero := vI 0) (l := metS A) hz3 (.tup [vI ix, vB true]) rfl (key_one _) (key_sign _ hsm) (.inr ⟨vI ix, metS_mem hix, rfl⟩) (by simp) ?_
          refine hC.go [] 90 ?_
          simp
          refine hC.mapGet Tryz.underlying104 (Maps.string_keyed Tryz.underlying9) (.can 0) (zero := vI 0) (l := metS A) hz3 (vI ix) rfl (key_one _) (key_sign _ hsm) (.inr ⟨vI ix, metS_mem hix, rfl⟩) (by simp) ?_
          refine hC.go [] 90 ?_
          simp [hzl]
          refine hC.storeE (.can 1) (e := 3) (sz := 1) (inf := infJ) (es := Y.map fun z => [.val (.int .i64 z)]) (k := j) (f := 0) (el := [.val (.int .i64 0)]) [.val (.int .i64 (ix : Nat))] rfl (by simp [hget]) ?_
          refine hC.go [] 90 ?_
          simp
          exact go_to [] ihj' (by simp [hw, List.map_set, Au.cells])
        · rw [if_neg (by simpa using hm)] at ihj'
          simp only at ihj'
          rw [← hset] at ihj'
          have hzl : j < (Z ++ List.replicate (i - j) (0 : Int)).length := (List.getElem?_eq_some_iff.1 hget).1
          generalize Z ++ List.replicate (i - j) (0 : Int) = Y at hget hzl ihj'
          have hnot := metS_not qne hsn hm
          refine hC.mapGet Tryz.underlying104 (Maps.string_keyed Tryz.underlying9) (.can 0) (zero := vI 0) (l := metS A) hz3 (.tup [vI 0, vB false]) rfl (key_one _) (key_sign _ hsm) (.inl ⟨hnot, rfl⟩) (by simp) ?_
          refine hC.go [] 90 ?_
          simp
          refine hC.mapLen Tryz.underlying104 (k := 9) (.can 0) (l := metS A) rfl (by simp) ?_
          refine hC.go [] 90 ?_
          simp
          refine hC.mapPut (l := metS A) (av := vI A.length) Tryz.underlying104 (Maps.string_keyed Tryz.underlying9) (.can 0) (metS (A ++ [s])) (.inl rfl) (key_one _) (key_sign _ hsm) (.inl ⟨hnot, metS_snoc A s⟩) (by simp [metS_len]) ?_
          refine hC.go [] 90 ?_
          simp
          refine hC.mapGet Tryz.underlying104 (Maps.string_keyed Tryz.underlying9) (.can 0) (zero := vI 0) (l := metS (A ++ [s])) hz3 (vI A.length) rfl (key_one _) (key_sign _ hsm) (.inr ⟨vI A.length, metS_mem (by simp), rfl⟩) (by simp) ?_
          refine hC.go [] 90 ?_
          simp [hzl]
          refine hC.storeE (.can 1) (e := 3) (sz := 1) (inf := infJ) (es := Y.map fun z => [.val (.int .i64 z)]) (k := j) (f := 0) (el := [.val (.int .i64 0)]) [.val (.int .i64 (A.length : Nat))] rfl (by simp [hget]) ?_
          refine hC.go [] 90 ?_
          simp
          exact go_to [] ihj' (by simp [hw, List.map_set, Au.cells])
    · have hji : j = i := by omega
      subst hji
      clear ihj q1 q3 q4 q5 qne
      generalize rowQ id [] (sg.map some) j = Q at r1 r2 r3 r4 r5 r6 q2 hspec
      obtain ⟨A, Z⟩ := Q
      simp only at r1 r2 r3 r4 r5 r6 q2 hspec
      have hZb : ∀ c ∈ Z, c ≤ 16777216 := fun c hc => by
        obtain ⟨m, hm⟩ := List.getElem?_of_mem hc
        have hml := (List.getElem?_eq_some_iff.1 hm).1
        have hms : m < sg.length := by omega
        obtain ⟨u, hu, hul⟩ := hspec m sg[m] (by simp)
        rw [hm] at hu
        cases hu
        omega
      have hZp := r1.pos
      simp only [Nat.sub_self, List.replicate_zero, List.append_nil]
      refine hC.til [25] [] 90 ?_
      simp
      refine go_to (M := ⟨[(1, .ptr (.loc 1) 0), (2, .ptr (.loc 2) 0), (6, vI many), (7, .hmap (.can 0)), (8, .pv (ints Z))],
        [(.loc 1, some (.box 31 d.cells)), (.loc 2, some (.box 31 [nm0, nm0, nm0])), (.can 0, some (.gen (mapG Tryz.prog 9 (metS A))))]⟩) [] ?_ (by simp [Au.cells])
      refine hC.go [] 90 ?_
      simp
      refine hC.mapLen Tryz.underlying104 (k := 9) (.can 0) (l := metS A) rfl (by simp) ?_
      by_cases hfin : A.length = many
      · obtain ⟨e1, e2⟩ := r5 hfin
        have hres := hleast Z e1
        refine hC.go [] 90 ?_
        simp [metS_len, hfin, Au.cells]
        refine hC.call [] (h133 Z (by omega) (fun c hc => ⟨hZp c hc, by have := hZb c hc; omega⟩)) (by simp [Au.av, Au.cells]) ?_
        rw [hres]
        refine hC.go [] 90 ?_
        simp [Au.av, Au.cells]
      · have hfI : ¬ (A.length : Int) = many := by omega
        refine hC.go [] 90 ?_
        simp [metS_len, hfin, hfI, Au.cells]
        refine hC.mapLen Tryz.underlying104 (k := 9) (.can 0) (l := metS A) rfl (by simp) ?_
        refine hC.go [] 90 ?_
        simp [metS_len]
        exact go_to [] (ih ⟨(Z, A.length), r1, hZb⟩ (by simp; omega)) (by simp [Au.cells])
end Go.Proofs.D
