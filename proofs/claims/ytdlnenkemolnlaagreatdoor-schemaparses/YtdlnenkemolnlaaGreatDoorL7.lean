/-
  THE NAMES of an expression: once each, in order.
-/
import Derived.Test.YtdlnenkemolnlaaGreatDoorD36
import Derived.Test.YtdlnenkemolnlaaGreatDoorIter
import Derived.Test.YtdlnenkemolnlaaGreatDoorL0
set_option linter.unusedVariables false
set_option linter.unusedSimpArgs false
namespace Go.Proofs.D
open Go Go.Abs Go.RowKit Go.Sort Go.Maps
/-- What maps.Keys hands back: it goes through a map of which Q holds. -/
def KQ (Q : Obj → Prop) (w : World) (F : Nat → Prop) (v : Value) : Prop :=
  ∃ kb b o, v = .func (.func 166) #[] #[.pointer (some ⟨kb, 0, none⟩)] ∧ F kb ∧ w.heap[kb]? = some (.cells #[.map (some b)] 185 (0, 0)) ∧ F b ∧ w.heap[b]? = some o ∧ Q o
theorem KQ.mono {Q : Obj → Prop} {w w' : World} {F F' : Nat → Prop} {v : Value} (h : KQ Q w F v) (h1 : ∀ k, F k → w'.heap[k]? = w.heap[k]?) (h2 : ∀ k, F k → F' k) : KQ Q w' F' v := by
  obtain ⟨kb, b, o, q1, q2, q3, q4, q5, q6⟩ := h
  exact ⟨kb, b, o, q1, h2 _ q2, (h1 _ q2).trans q3, h2 _ q4, (h1 _ q4).trans q5, q6⟩
theorem dead_hd {w : World} {F : Nat → Prop} {hd : Nm → Hd} (h : Lies w F hd (keyed 0 [])) : hd = fun _ => .dead := funext fun r => h.holds r
theorem f49 (Gl : Granted) (Q : Obj → Prop) : Fun Tryz.prog Gl 137 [.rom Q] [] (.opq (KQ Q)) [] := by
  refine ⟨⟨_, Tryz.func137, by kernel_rfl, rfl⟩, fun w0 F0 hd0 cargs hg hl hlen hr => ?_⟩
  have hd := dead_hd hl
  subst hd
  match cargs, hlen with
  | [c], _ =>
    have h0 := hr 0 _ c rfl rfl
    cases h0 with
    | rom _ b o hF ho hq =>
      refine (callsIn_wide.1 (Tryz.maps_Keys_49 (some b) w0)).mono fun e w' ⟨he, hw⟩ => ?_
      subst hw
      have hbl := hl.fin b hF
      have hold : ∀ k, k < w0.heap.size → (w0.alloc (.cells #[.map (some b)] 185)).heap[k]? = w0.heap[k]? := fun k hk => Below.heap_alloc _ _ _ hk
      have hsz : (w0.alloc (.cells #[.map (some b)] 185)).heap.size = w0.heap.size + 1 := by simp
      refine ⟨_, fun k => F0 k ∨ k = w0.heap.size, fun _ => .dead, he, .opq _ _ rfl fun w2 F2 h1 h2 => ?_, ⟨fun k hk => ?_, fun r s k _ h => h.elim, fun r k h => h.elim, fun r => rfl⟩,
        ⟨fun r k h => h.elim, fun k hk => ?_, fun k hk => .inl hk, fun i => .inl rfl, rfl, rfl, rfl, by rw [hsz]; omega, fun k hk _ => hold k hk⟩⟩
      · exact ⟨w0.heap.size, b, o, rfl, h2 _ (.inr rfl), (h1 _ (.inr rfl)).trans (heap_alloc_new w0 _), h2 _ (.inl hF), (h1 _ (.inl hF)).trans ((hold b hbl).trans ho), hq⟩
      · rw [hsz]
        rcases hk with hk | rfl
        · have := hl.fin k hk; omega
        · omega
      · rcases hk with hk | rfl
        · exact .inl hk
        · exact .inr (.inl (Nat.le_refl _))
/-- The names in order. -/
def sortedNames (D : DataW Unit) : List ByteArray := ((strKeys D).mergeSort fun x y => decide (x ≤ y)).map fun l => ⟨l.toArray⟩
theorem leL_total (x y : List UInt8) : (decide (x ≤ y) || decide (y ≤ x)) = true := by
  simp only [Bool.or_eq_true, decide_eq_true_eq]
  exact List.le_total x y
theorem leL_trans (x y z : List UInt8) (h1 : decide (x ≤ y) = true) (h2 : decide (y ≤ z) = true) : decide (x ≤ z) = true := by
  simp only [decide_eq_true_eq] at *
  exact List.le_trans h1 h2
theorem sort_perm {l m : List (List UInt8)} (h : l.Perm m) : l.mergeSort (fun x y => decide (x ≤ y)) = m.mergeSort (fun x y => decide (x ≤ y)) := by
  have h1 := List.pairwise_mergeSort leL_trans leL_total l
  have h2 := List.pairwise_mergeSort leL_trans leL_total m
  have h3 : (l.mergeSort (fun x y => decide (x ≤ y))).Perm (m.mergeSort (fun x y => decide (x ≤ y))) := (List.mergeSort_perm l _).trans (h.trans (List.mergeSort_perm m _).symm)
  refine List.Perm.eq_of_pairwise (le := fun x y => decide (x ≤ y) = true) ?_ h1 h2 h3
  intro a b _ _ q1 q2
  simp only [decide_eq_true_eq] at q1 q2
  exact List.le_antisymm q1 q2
set_option maxRecDepth 20000 in
theorem f48 (Gl : Granted) (D : DataW Unit) (hD : Maps.size D ≤ 1000000) : Fun Tryz.prog Gl 136 [.opq (KQ (Nq D))] [] (.pv (.ro 1 ((sortedNames D).map fun s => [.val (.string s)]))) [] := by
  refine ⟨⟨_, Tryz.func136, by kernel_rfl, rfl⟩, fun w0 F0 hd0 cargs hg hl hlen hr => ?_⟩
  have hd := dead_hd hl
  subst hd
  match cargs, hlen with
  | [c], _ =>
    have h0 := hr 0 _ c rfl rfl
    cases h0 with
    | opq _ _ h1 hK =>
      obtain ⟨kb, b, o, rfl, hkb, hcell, hb, ho, hq⟩ := hK w0 F0 (fun _ _ => rfl) (fun _ h => h)
      obtain ⟨D', hD', hown⟩ := mapQ_owns ho hq
      subst hD'
      have hseq := AnyZ.keys_gives (ρ := Tryz.keys49_ren) { Tryz.keys49 with } Fence.wide 2 trivial rfl (by omega) kb b (Maps.size D') D' w0 (hl.fin kb hkb) (by simp [World.cell?, hcell]) hown
      have hs := AnyZ.sorted_in Tryz.sorted48 Fence.wide 5 trivial trivial trivial trivial rfl (by omega) (Tryz.sorts48 _) (enters_of Tryz.func165 (by kernel_rfl) rfl) 166 #[.pointer (some ⟨kb, 0, none⟩)] trivial (enters_of Tryz.func166 (by kernel_rfl) rfl) _ _ (by simp only [maxLen]; omega) (by omega) w0 hseq
      refine (callsIn_wide.1 hs).mono fun e w' ⟨v, ss, he, hperm, hrow, hnil, hbelow⟩ => ?_
      have hsort := sort_perm hperm
      rw [hsort] at hrow
      have hlen : ss.length = (sortedNames D').length := by
        simp [sortedNames, List.length_mergeSort, hperm.length_eq]
      obtain ⟨r1, r2⟩ := hrow
      have hblk : ∀ k, v.ownBlock = some k → w0.heap.size ≤ k ∧ k < w'.heap.size := by
        intro k hk
        rcases r2 with ⟨rfl, _⟩ | ⟨g, cap, cur, rfl, q3, q4, _⟩
        · simp [Value.ownBlock] at hk
        · simp [Value.ownBlock] at hk
          subst hk
          exact ⟨q3, (Array.getElem?_eq_some_iff.1 q4).1⟩
      have hrow' : w'.ownsRow 0 9 1 v ((sortedNames D').map fun s => [PV.val (.string s)]).length (((strKeys D').mergeSort fun x y => decide (x ≤ y)).map encStr) := by
        rw [List.length_map, ← hlen]
        exact ⟨r1, r2.imp id fun ⟨g, cap, cur, q2, q3, q4⟩ => ⟨g, cap, cur, q2, Nat.zero_le _, q4⟩⟩
      refine ⟨v, fun k => F0 k ∨ v.ownBlock = some k, fun _ => .dead, he, .pv _ _ (row_ro hrow' (fun i el hi => ?_) (fun i j el c u h1 h2 h3 => ?_) (fun k hk => .inr hk)), ⟨fun k hk => ?_, fun r s k _ h => h.elim, fun r k h => h.elim, fun r => rfl⟩,
        ⟨fun r k h => h.elim, fun k hk => ?_, fun k hk => .inl hk, fun i => .inl rfl, hbelow.os, hbelow.tape, hbelow.output, hbelow.size, fun k hk _ => hbelow.block k hk⟩⟩
      · rw [List.getElem?_map] at hi
        cases hx : (sortedNames D')[i]? with
        | none => rw [hx] at hi; cases hi
        | some x => rw [hx] at hi; cases hi; rfl
      · rw [List.getElem?_map] at h1
        cases hx : (sortedNames D')[i]? with
        | none => rw [hx] at h1; cases h1
        | some x =>
          rw [hx] at h1
          cases h1
          match j, h2 with
          | 0, h2 =>
            simp at h2
            subst h2
            simp only [sortedNames, List.getElem?_map] at hx
            rw [List.getElem?_map] at h3
            simp only [Nat.mul_one, Nat.add_zero] at h3
            cases hy : ((strKeys D').mergeSort fun x y => decide (x ≤ y))[i]? with
            | none => rw [hy] at hx; cases hx
            | some y =>
              rw [hy] at hx h3
              cases hx
              cases h3
              exact .val _ rfl
      · rcases hk with hk | hk
        · exact Nat.lt_of_lt_of_le (hl.fin k hk) hbelow.size
        · exact (hblk k hk).2
      · rcases hk with hk | hk
        · exact .inl hk
        · exact .inr (.inl (hblk k hk).1)
end Go.Proofs.D
/-
  THE NAMES of an expression.
-/
set_option linter.unusedVariables false
set_option linter.unusedSimpArgs false
namespace Go.Proofs.D
open Go Go.Abs
attribute [local simp] VC VCS stepVS stepTopS firstId memN bigB unmark markT mkOff calmP keepT boundB stepV stepTop stepReg stepOp stMove stPick stBin stUn stConv stBox stAlloc stLoad stStore stFieldAddr stField stExtract stNilCheck stMakeFunc stIndexAddr stIndex stLen
  stBuild placesOf fillA stBuildSlice sliceCells repL chunks allPV toPV drawOk drawOk.go mayMakeO mayMake1 disjoint pairOk Oper.apart Oper.looksAt Op.operands Call.operands Region.binds stAppend appBase appTail unName stSlice bndA
  LS.ev LS.get LS.blk LS.put LS.app LS.upd lkS lkH setS setH Nm.eqb guardOf nexts okPair dstOk AV.cellsOf takeAt putAt lkT sliceE fieldT intK isStrT isBoolT abin newOk LS.freshB LS.freshB.go LS.freshB.goH notIn AV.ments AV.ments.mentsL Blk.ments makes upsMents LS.start startL exitTo T Nat.blt
  conv convS convH srcs srcOf blkOk leA leA.leL Go.Abs.leB leP laid laidM laidG isArg subH retP resAV resL res1 AV.frz AV.frz.frzL evL AV.ren AV.ren.renL Blk.ren renBs blksOf allSome nodupB onlyArgs blksMents callUps keyed inName inName.go backName callSide
attribute [local simp] T2
def E.names (e : E) : List ByteArray := sortedNames (e.tally (.map []))
set_option maxRecDepth 20000 in
theorem f25 (Gl : Granted) (e : E) (hs : e.small) (hc : e.cnt ≤ 900000) : Fun Tryz.prog Gl 102 [e.av] [] (.pv (.ro 1 (e.names.map fun s => [.val (.string s)]))) [] := by
  have htal := tal_tally e (.map []) 0 tal_empty
  refine fun_of (T := T2) (n := 13) (rs := [.tmp 2]) Tryz.func102 (by kernel_rfl) rfl rfl rfl tok2 mixed (by simp) fun C hC => ?_
  refine hC.vc [] 60 ?_
  simp [E.av, E.cells]
  refine hC.makeIs 9 3 (by rfl) (by rfl) (by simp) ?_
  refine hC.vc [] 60 ?_
  simp
  refine hC.call [.loc 3, .loc 4, .loc 5] (f47 Gl e hs (.map []) 0 tal_empty (by omega)) (by simp [E.av, E.cells]) ?_
  refine hC.vc [] 60 ?_
  simp
  refine hC.call [.loc 5] (fun_own (a := []) (b := []) (by simp) rfl (f49 Gl (Nq (e.tally (.map []))))) (by simp) ?_
  refine hC.vc [] 60 ?_
  simp
  refine hC.call [] (f48 Gl (e.tally (.map [])) (by have := htal.size; omega)) (by simp) ?_
  refine hC.vc [] 60 ?_
  simp [E.names]
end Go.Proofs.D
/-
  THE NAMES of an expression are those in it, once each, in order.
-/
set_option linter.unusedVariables false
set_option linter.unusedSimpArgs false
namespace Go.Proofs.D
open Go Go.Abs Go.Sort Go.Maps
def E.occ : E → ByteArray → Prop
  | .mk op name kids => fun s => if op = 110 then s = name else go kids s
where go : List E → ByteArray → Prop
  | [] => fun _ => False
  | k :: l => fun s => k.occ s ∨ go l s
theorem occ_go (l : List E) (s : ByteArray) : E.occ.go l s ↔ ∃ k ∈ l, k.occ s := by
  induction l with
  | nil => simp [E.occ.go]
  | cons x l ih => simp [E.occ.go, ih]
theorem occ_eq (e : E) (s : ByteArray) : e.occ s ↔ if e.op = 110 then s = e.name else ∃ k ∈ e.kids, k.occ s := by
  obtain ⟨o, n, k⟩ := e
  by_cases h : o = 110
  · simp [E.occ, E.op, E.name, E.kids, h]
  · simp [E.occ, E.op, E.name, E.kids, h, occ_go]
theorem keyS_inj {s t : ByteArray} (h : keyS s = keyS t) : s = t := by
  obtain ⟨⟨l⟩⟩ := s
  obtain ⟨⟨m⟩⟩ := t
  simp [keyS] at h
  rw [h]
theorem bump_has {D : DataW Unit} (h : IsMap D) (s : ByteArray) (k : Lit) : has (bump D s) k = true ↔ has D k = true ∨ k = keyS s := by
  by_cases hk : k = keyS s
  · subst hk
    rw [bump, has_put_same h (key_str s)]
    simp
  · rw [bump, has_put_other hk]
    simp [hk]
theorem tally_has (e : E) (D : DataW Unit) (N : Nat) (h : Tal D N) (k : Lit) : has (e.tally D) k = true ↔ has D k = true ∨ ∃ s, k = keyS s ∧ e.occ s := by
  rw [tally_eq]
  by_cases h1 : e.op = 110
  · rw [if_pos h1, bump_has h.tidy.isMap]
    refine or_congr Iff.rfl ?_
    constructor
    · intro hk; exact ⟨e.name, hk, (occ_eq e _).2 (by rw [if_pos h1])⟩
    · rintro ⟨s, rfl, hs⟩
      have := (occ_eq e s).1 hs
      rw [if_pos h1] at this
      rw [this]
  · rw [if_neg h1]
    have key : ∀ l : List E, (∀ x ∈ l, x ∈ e.kids) → ∀ D N, Tal D N → (has (E.tally.go l D) k = true ↔ has D k = true ∨ ∃ s, k = keyS s ∧ ∃ x ∈ l, x.occ s) := by
      intro l
      induction l with
      | nil => intro _ D N _; simp [E.tally.go]
      | cons x l ih =>
        intro hl D N hD
        simp only [E.tally.go]
        rw [ih (fun y hy => hl y (by simp [hy])) _ _ (tal_tally x D N hD), tally_has x D N hD]
        constructor
        · rintro ((h | ⟨s, a, b⟩) | ⟨s, a, y, b, c⟩)
          · exact .inl h
          · exact .inr ⟨s, a, x, by simp, b⟩
          · exact .inr ⟨s, a, y, by simp [b], c⟩
        · rintro (h | ⟨s, a, y, b, c⟩)
          · exact .inl (.inl h)
          · rcases List.mem_cons.1 b with rfl | b
            · exact .inl (.inr ⟨s, a, c⟩)
            · exact .inr ⟨s, a, y, b, c⟩
    rw [key e.kids (fun _ h => h) D N h]
    refine or_congr Iff.rfl ?_
    refine exists_congr fun s => and_congr Iff.rfl ?_
    rw [occ_eq, if_neg h1]
termination_by SizeOf.sizeOf e
decreasing_by exact E.kids_lt (hl x (by simp))
def isStr : Lit → Bool
  | .string _ => true
  | _ => false
def AllStr : DataW Unit → Bool
  | .map es => !es.any fun p => !isStr p.1
  | _ => true
theorem allStr_put {D : DataW Unit} (h : AllStr D = true) (s : ByteArray) (d : DataW Unit) : AllStr (D.put (keyS s) d) = true := by
  cases D <;> try exact h
  rename_i es
  show (!((DataW.insert (keyS s, d) (es.filter fun p => !p.1.sameKey (keyS s))).any fun p => !isStr p.1)) = true
  simp only [AllStr, Bool.not_eq_true'] at h ⊢
  rw [any_insert]
  simp only [isStr, Bool.not_true, Bool.false_or]
  rw [List.any_eq_false] at h ⊢
  intro p hp
  exact h p (List.mem_filter.1 hp).1
theorem allStr_tally (e : E) (D : DataW Unit) (h : AllStr D = true) : AllStr (e.tally D) = true := by
  rw [tally_eq]
  split
  · exact allStr_put h _ _
  · have key : ∀ l : List E, (∀ x ∈ l, x ∈ e.kids) → ∀ D, AllStr D = true → AllStr (E.tally.go l D) = true := by
      intro l
      induction l with
      | nil => intro _ D h; exact h
      | cons x l ih =>
        intro hl D h
        simp only [E.tally.go]
        exact ih (fun y hy => hl y (by simp [hy])) _ (allStr_tally x D h)
    exact key e.kids (fun _ h => h) D h
termination_by SizeOf.sizeOf e
decreasing_by exact E.kids_lt (hl x (by simp))
/-- Of a datum of names: its keys. -/
theorem keys_mem {D : DataW Unit} (hT : Tidy D) (hA : AllStr D = true) (l : List UInt8) : l ∈ strKeys D ↔ has D (.string l) = true := by
  obtain ⟨es, rfl, _⟩ := hT
  simp only [AllStr, Bool.not_eq_true', List.any_eq_false] at hA
  simp only [strKeys, List.mem_map, has, List.any_eq_true]
  constructor
  · rintro ⟨p, hp, rfl⟩
    refine ⟨p, hp, ?_⟩
    have := hA p hp
    obtain ⟨q, d⟩ := p
    cases q <;> simp [isStr] at this
    simp [strOf, Lit.sameKey]
  · rintro ⟨p, hp, hk⟩
    exact ⟨p, hp, by rw [WideAt.sameKey_eq hk]; rfl⟩
theorem keys_nodup {D : DataW Unit} (hT : Tidy D) (hA : AllStr D = true) : (strKeys D).Nodup := by
  obtain ⟨es, rfl, hp⟩ := hT
  simp only [AllStr, Bool.not_eq_true', List.any_eq_false] at hA
  simp only [strKeys, List.Nodup, List.pairwise_map]
  refine hp.imp_of_mem fun {a b} ha hb hne heq => hne ?_
  have h1 := hA a ha
  have h2 := hA b hb
  obtain ⟨q, d⟩ := a
  obtain ⟨q', d'⟩ := b
  cases q <;> simp [isStr] at h1
  cases q' <;> simp [isStr] at h2
  simp [strOf] at heq
  rw [heq]
theorem names_mem (e : E) (s : ByteArray) : s ∈ e.names ↔ e.occ s := by
  have hT := tal_tally e (.map []) 0 tal_empty
  have hA := allStr_tally e (.map []) rfl
  simp only [E.names, sortedNames, List.mem_map, List.mem_mergeSort]
  constructor
  · rintro ⟨l, hl, rfl⟩
    rw [keys_mem hT.tidy hA] at hl
    rcases (tally_has e (.map []) 0 tal_empty _).1 hl with h | ⟨s, h1, h2⟩
    · simp [has] at h
    · have : s = ⟨l.toArray⟩ := keyS_inj (by rw [← h1])
      exact this ▸ h2
  · intro h
    refine ⟨s.data.toList, ?_, by simp⟩
    rw [keys_mem hT.tidy hA]
    exact (tally_has e (.map []) 0 tal_empty _).2 (.inr ⟨s, rfl, h⟩)
theorem names_rise (e : E) : (e.names.map fun s => s.data.toList).Pairwise (fun a b => a < b) := by
  have hT := tal_tally e (.map []) 0 tal_empty
  have hA := allStr_tally e (.map []) rfl
  have h1 := List.pairwise_mergeSort leL_trans leL_total (strKeys (e.tally (.map [])))
  have h2 : ((strKeys (e.tally (.map []))).mergeSort fun x y => decide (x ≤ y)).Nodup := (List.mergeSort_perm _ _).nodup_iff.2 (keys_nodup hT.tidy hA)
  have h3 : (e.names.map fun s => s.data.toList) = (strKeys (e.tally (.map []))).mergeSort fun x y => decide (x ≤ y) := by
    simp only [E.names, sortedNames, List.map_map]
    have : ((fun s : ByteArray => s.data.toList) ∘ fun l : List UInt8 => (⟨l.toArray⟩ : ByteArray)) = id := by funext l; simp
    rw [this, List.map_id]
  rw [h3]
  exact (h1.and h2).imp fun {a b} ⟨p, q⟩ => by
    simp only [decide_eq_true_eq] at p
    exact (List.le_iff_lt_or_eq.1 p).resolve_right q
end Go.Proofs.D
