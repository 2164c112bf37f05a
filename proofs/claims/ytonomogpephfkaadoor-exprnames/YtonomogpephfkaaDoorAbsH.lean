/-
  THE EVALUATOR: it goes through a body as far as it can be told, and says what is left to be shown.
-/
import Derived.Test.YtonomogpephfkaaDoorAbsJ
set_option linter.unusedVariables false
set_option linter.unusedSimpArgs false
namespace Go.Abs
open Go.RowKit

def stepOp (T : TT) (W : List Nat) (o : Oper) (L : LS) : SR := match o.op with
  | .move x => stMove L x
  | .assign x => stMove L x
  | .pick c x y => stPick L c x y
  | .binOp op t x y _ => stBin T L op t x y
  | .unOp op _ x => stUn L op x
  | .convert s d x => stConv T L s d x
  | .box t x => stBox L o.dst t x
  | .alloc t => stAlloc T L o.dst t
  | .load t x => stLoad T L t x
  | .store t x y => stStore T L t x y
  | .fieldAddr t x f => stFieldAddr T L t x f
  | .field t x f => stField T L t x f
  | .extract x j => stExtract L x j
  | .nilCheck x => stNilCheck L x
  | .makeFunc f l l' => stMakeFunc L f l l'
  | .indexAddr t x y => stIndexAddr T L t x y
  | .index t x y => stIndex T L t x y
  | .call { callee := .builtin .len, args := ⟨[x]⟩, argTypes := ⟨[t]⟩ } => stLen T L t x
  | .call { callee := .builtin .append, args := ⟨[x, y]⟩, argTypes := ⟨[t, t']⟩ } => if Nat.beq t t' = true then stAppend T L o.dst t x y else .stop
  | .build t parts => stBuild T L t parts.toList
  | .buildSlice t n parts => stBuildSlice T W L o.dst t n parts.toList
  | .slice t x lo up mx => stSlice T L t x lo up mx
  | _ => .stop
theorem stepOp_ok {C : Ctx} {T : TT} (hT : TOk C.P T) {W : List Nat} {o : Oper} {L : LS} (hdst : ∀ d, o.dst = some d → d < C.fn.ntmps) : SRok C o L (stepOp T W o L) := by
  unfold stepOp
  split
  · exact stMove_ok hdst (.inl ‹_›)
  · exact stMove_ok hdst (.inr ‹_›)
  · exact stPick_ok hdst ‹_›
  · exact stBin_ok hT hdst ‹_›
  · exact stUn_ok hdst ‹_›
  · exact stConv_ok hT hdst ‹_›
  · exact stBox_ok hdst ‹_›
  · exact stAlloc_ok hT hdst ‹_›
  · exact stLoad_ok hT hdst ‹_›
  · exact stStore_ok hT hdst ‹_›
  · exact stFieldAddr_ok hT hdst ‹_›
  · exact stField_ok hT hdst ‹_›
  · exact stExtract_ok hdst ‹_›
  · exact stNilCheck_ok hdst ‹_›
  · exact stMakeFunc_ok hdst ‹_›
  · exact stIndexAddr_ok hT hdst ‹_›
  · exact stIndex_ok hT hdst ‹_›
  · exact stLen_ok hT hdst ‹_› rfl rfl rfl
  · split
    · rename_i e
      rw [Nat.beq_eq] at e
      subst e
      exact stAppend_ok hT hdst ‹_› rfl rfl rfl
    · trivial
  · exact stBuild_ok hT hdst ‹_›
  · exact stBuildSlice_ok hT hdst ‹_›
  · exact stSlice_ok hT hdst ‹_›
  · trivial

inductive Conf where
  | top (todo : List Item) (L : LS)
  | reg (ops : Array Oper) (draw : Bool) (i : Nat) (opl : List Oper) (done : List Trace) (todo : List Item) (L : LS)
/-- What is to be shown where the evaluator stands. -/
def Go (C : Ctx) : Conf → Prop
  | .top todo L => GoS C todo L
  | .reg ops draw i opl done todo L => (∀ j, opl[j]? = ops[i + j]?) → RT C ops draw (List.range' i opl.length) done L (GoS C todo)

def mayMakeO : List Oper → List Nm
  | [] => []
  | o :: l => mayMake1 o ++ mayMakeO l
theorem mayMakeO_eq {ops : Array Oper} : ∀ (opl : List Oper) (i : Nat), (∀ j, opl[j]? = ops[i + j]?) → mayMake ops (List.range' i opl.length) = mayMakeO opl
  | [], i, _ => rfl
  | o :: l, i, h => by
    have h0 := h 0
    simp only [List.getElem?_cons_zero, Nat.add_zero] at h0
    simp only [List.length_cons, List.range'_succ, mayMake, ← h0, mayMakeO]
    rw [mayMakeO_eq l (i + 1) fun j => by have := h (j + 1); simpa [Nat.add_assoc, Nat.add_comm 1 j] using this]
theorem rt_plain {C : Ctx} {ops : Array Oper} {K : LS → Prop} : ∀ (l : List Nat) (done done' : List Trace) (L : LS), RT C ops false l done L K → RT C ops false l done' L K
  | [], _, _, _, h => h
  | i :: rest, done, done', L, h => by
    rcases h with ⟨o, L1, y, vm, ho, h1, hd, hr⟩ | h
    · exact .inl ⟨o, L1, y, vm, ho, h1, fun e => Bool.noConfusion e, rt_plain rest _ _ L1 hr⟩
    · exact .inr h
def nexts (draw : Bool) (y : Trace) (done : List Trace) : List Trace := match draw with
  | true => y :: done
  | false => []
def okPair (ops : Array Oper) (draw : Bool) (done : List Trace) (o : Oper) (y : Trace) (vm : List Nm) (opl : List Oper) : Bool := match draw with
  | false => true
  | true => (done.all fun x => pairOk ops x o y vm) && disjoint (mayMakeO opl) vm
/-- One operation of a region is shown. -/
theorem reg_step {C : Ctx} {ops : Array Oper} {draw : Bool} {i : Nat} {o : Oper} {opl : List Oper} {done : List Trace} {todo : List Item} {L : LS} {fp : List (Nm × Blk)} {A : Actn} (hg : guardOf ops o L = some true)
    (h1 : Sem1 C o L.ev fp A) (h2 : ∀ q ∈ fp, L.blk q.1 = some q.2) (h3 : ∀ r ∈ news fp A.ups, L.blk r = none ∧ L.Fresh r ∧ r ∈ mayMake1 o)
    (hok : okPair ops draw done o ⟨i, fp.map (·.1), A.ups.map (·.1)⟩ (A.v.ments ++ upsMents A.ups) opl = true)
    (h : Go C (.reg ops draw (i + 1) opl (nexts draw ⟨i, fp.map (·.1), A.ups.map (·.1)⟩ done) todo (L.app o.dst A))) : Go C (.reg ops draw i (o :: opl) done todo L) := by
  intro hl
  have h0 := hl 0
  simp only [List.getElem?_cons_zero, Nat.add_zero] at h0
  have hl' : ∀ j, opl[j]? = ops[i + 1 + j]? := fun j => by have := hl (j + 1); simpa [Nat.add_assoc, Nat.add_comm 1 j] using this
  have hr := h hl'
  simp only [List.length_cons, List.range'_succ, RT]
  refine .inl ⟨o, _, _, _, h0.symm, .inl ⟨hg, fp, A, h1, h2, h3, rfl, rfl, rfl⟩, fun e => ?_, ?_⟩
  · subst e
    simp only [okPair, Bool.and_eq_true] at hok
    rw [mayMakeO_eq opl (i + 1) hl']
    exact hok
  · cases draw with
    | true => exact hr
    | false => exact rt_plain _ _ _ _ hr
theorem reg_skip {C : Ctx} {ops : Array Oper} {draw : Bool} {i : Nat} {o : Oper} {opl : List Oper} {done : List Trace} {todo : List Item} {L : LS} (hg : guardOf ops o L = some false)
    (hok : okPair ops draw done o ⟨i, [], []⟩ [] opl = true) (h : Go C (.reg ops draw (i + 1) opl (nexts draw ⟨i, [], []⟩ done) todo (L.put o.dst (.tup [])))) : Go C (.reg ops draw i (o :: opl) done todo L) := by
  intro hl
  have h0 := hl 0
  simp only [List.getElem?_cons_zero, Nat.add_zero] at h0
  have hl' : ∀ j, opl[j]? = ops[i + 1 + j]? := fun j => by have := hl (j + 1); simpa [Nat.add_assoc, Nat.add_comm 1 j] using this
  have hr := h hl'
  simp only [List.length_cons, List.range'_succ, RT]
  refine .inl ⟨o, _, _, _, h0.symm, .inr ⟨hg, rfl, rfl, rfl⟩, fun e => ?_, ?_⟩
  · subst e
    simp only [okPair, Bool.and_eq_true] at hok
    rw [mayMakeO_eq opl (i + 1) hl']
    exact hok
  · cases draw with
    | true => exact hr
    | false => exact rt_plain _ _ _ _ hr

/-- One operation that may come to more than one state. -/
theorem reg_stepN {C : Ctx} {ops : Array Oper} {i : Nat} {o : Oper} {opl : List Oper} {done : List Trace} {todo : List Item} {L : LS} (S : LS → Prop) (hs : StepN C ops o L S)
    (h : ∀ L1, S L1 → Go C (.reg ops false (i + 1) opl [] todo L1)) : Go C (.reg ops false i (o :: opl) done todo L) := by
  intro hl
  have h0 := hl 0
  simp only [List.getElem?_cons_zero, Nat.add_zero] at h0
  have hl' : ∀ j, opl[j]? = ops[i + 1 + j]? := fun j => by have := hl (j + 1); simpa [Nat.add_assoc, Nat.add_comm 1 j] using this
  simp only [List.length_cons, List.range'_succ, RT]
  exact .inr ⟨trivial, o, S, h0.symm, hs, fun L1 h1 => h L1 h1 hl'⟩

def dstOk (n : Nat) (o : Oper) : Bool := match o.dst with
  | some d => Nat.blt d n
  | none => true
theorem dstOk_spec {n : Nat} {o : Oper} (h : dstOk n o = true) : ∀ d, o.dst = some d → d < n := by
  intro d hd
  simp only [dstOk, hd, Nat.blt_eq] at h
  exact h

/-- One step of the evaluator; V: what is to be shown behind it. -/
def stepTop (C : Ctx) (R : LS → Prop) (V : Conf → Prop) (L : LS) : List Item → Prop
  | [] => R L
  | .inBlock m :: rest => V (.top rest L)
  | .code c :: rest => match c with
    | .skip => V (.top rest L)
    | .ret => R L
    | .label _ => V (.top rest L)
    | .seq x y => V (.top (.code x :: .code y :: rest) L)
    | .block m x => V (.top (.code x :: .inBlock m :: rest) L)
    | .exit m => match exitTo m rest with
      | some rest' => V (.top rest' L)
      | none => Go C (.top (.code (.exit m) :: rest) L)
    | .cond c x y => match L.ev c with
      | .pv (.val (.bool true)) => V (.top (.code x :: rest) L)
      | .pv (.val (.bool false)) => V (.top (.code y :: rest) L)
      | _ => Go C (.top (.code (.cond c x y) :: rest) L)
    | .region id ops draw => match draw with
      | false => V (.reg ops false 0 ops.toList [] rest L)
      | true => if (drawOk ops && (mayMakeO ops.toList).all fun r => L.freshB r) = true then V (.reg ops true 0 ops.toList [] rest L) else Go C (.top (.code (.region id ops true) :: rest) L)
    | c => Go C (.top (.code c :: rest) L)
  | todo => Go C (.top todo L)
def stepReg (C : Ctx) (T : TT) (W : List Nat) (n : Nat) (V : Conf → Prop) (ops : Array Oper) (draw : Bool) (i : Nat) (done : List Trace) (todo : List Item) (L : LS) : List Oper → Prop
  | [] => V (.top todo L)
  | o :: opl => match guardOf ops o L with
    | none => Go C (.reg ops draw i (o :: opl) done todo L)
    | some false => if okPair ops draw done o ⟨i, [], []⟩ [] opl = true then V (.reg ops draw (i + 1) opl (nexts draw ⟨i, [], []⟩ done) todo (L.put o.dst (.tup []))) else Go C (.reg ops draw i (o :: opl) done todo L)
    | some true => match stepOp T W o L with
      | .stop => Go C (.reg ops draw i (o :: opl) done todo L)
      | .act fp A p => if (dstOk n o && okPair ops draw done o ⟨i, fp.map (·.1), A.ups.map (·.1)⟩ (A.v.ments ++ upsMents A.ups) opl) = true then
          p ∧ V (.reg ops draw (i + 1) opl (nexts draw ⟨i, fp.map (·.1), A.ups.map (·.1)⟩ done) todo (L.app o.dst A))
        else Go C (.reg ops draw i (o :: opl) done todo L)
def stepV (C : Ctx) (T : TT) (W : List Nat) (n : Nat) (R : LS → Prop) (V : Conf → Prop) : Conf → Prop
  | .top todo L => stepTop C R V L todo
  | .reg ops draw i opl done todo L => stepReg C T W n V ops draw i done todo L opl
/-- What is left to be shown, the evaluator having gone k steps. -/
def VC (C : Ctx) (T : TT) (W : List Nat) (n : Nat) (R : LS → Prop) : Nat → Conf → Prop
  | 0 => Go C
  | k + 1 => stepV C T W n R (VC C T W n R k)

theorem stepTop_sound {C : Ctx} (hm : C.P.follows .mixedOrders = true) {R : LS → Prop} (hR : ∀ L, R L → GoS C [] L ∧ ∀ k, GoS C (.code .ret :: k) L) {V : Conf → Prop} (hV : ∀ c, V c → Go C c) {L : LS} {todo : List Item} (h : stepTop C R V L todo) : GoS C todo L := by
  unfold stepTop at h
  split at h
  · exact (hR _ h).1
  · exact go_inBlock (hV _ h)
  · split at h
    · exact go_skip (hV _ h)
    · exact (hR _ h).2 _
    · exact go_label (hV _ h)
    · exact go_seq (hV _ h)
    · exact go_block (hV _ h)
    · split at h
      · exact go_exit ‹_› (hV _ h)
      · exact h
    · split at h
      · exact go_cond (t := true) ‹_› (hV _ h)
      · exact go_cond (t := false) ‹_› (hV _ h)
      · exact h
    · rename_i id ops draw
      cases draw with
      | false =>
        have := hV _ h (fun j => by simp)
        refine go_region ?_
        rw [List.range_eq_range']
        simpa using this
      | true =>
        simp only at h
        split at h
        · rename_i hc
          simp only [Bool.and_eq_true, List.all_eq_true] at hc
          have := hV _ h (fun j => by simp)
          have he := mayMakeO_eq (ops := ops) ops.toList 0 (fun j => by simp)
          refine go_regionD hm hc.1 (fun r hr => hc.2 r ?_) ?_
          · rw [← he]
            rw [List.range_eq_range'] at hr
            simpa using hr
          · rw [List.range_eq_range']
            simpa using this
        · exact h
    · exact h
  · exact h
theorem stepReg_sound {C : Ctx} {T : TT} (hT : TOk C.P T) {W : List Nat} {n : Nat} (hn : C.fn.ntmps = n) {V : Conf → Prop} (hV : ∀ c, V c → Go C c) {ops : Array Oper} {draw : Bool} {i : Nat} {done : List Trace} {todo : List Item} {L : LS} {opl : List Oper}
    (h : stepReg C T W n V ops draw i done todo L opl) : Go C (.reg ops draw i opl done todo L) := by
  unfold stepReg at h
  split at h
  · intro _
    exact hV _ h
  · split at h
    · exact h
    · split at h
      · exact reg_skip ‹_› ‹_› (hV _ h)
      · exact h
    · rename_i hg
      split at h
      · exact h
      · rename_i fp A p hs
        split at h
        · rename_i hc
          simp only [Bool.and_eq_true] at hc
          obtain ⟨hp, h⟩ := h
          have hok := stepOp_ok (C := C) hT (W := W) (L := L) (fun d hd => by rw [hn]; exact dstOk_spec hc.1 d hd)
          rw [hs] at hok
          obtain ⟨h1, h2, h3⟩ := hok hp
          exact reg_step hg h1 h2 h3 hc.2 (hV _ h)
        · exact h
theorem vc_sound {C : Ctx} {T : TT} (hT : TOk C.P T) {W : List Nat} {n : Nat} (hn : C.fn.ntmps = n) (hm : C.P.follows .mixedOrders = true) {R : LS → Prop} (hR : ∀ L, R L → GoS C [] L ∧ ∀ k, GoS C (.code .ret :: k) L) : ∀ (k : Nat) (c : Conf), VC C T W n R k c → Go C c
  | 0, c, h => h
  | k + 1, .top todo L, h => stepTop_sound hm hR (vc_sound hT hn hm hR k) h
  | k + 1, .reg ops draw i opl done todo L, h => stepReg_sound hT hn (vc_sound hT hn hm hR k) h

/-! ### a type's row, out of closed facts -/
def zeroOk : List PV → Bool
  | [] => true
  | .val v :: l => v.oneCell' && zeroOk l
  | .nilS _ :: l => zeroOk l
  | .ro _ _ :: _ => false
theorem zeroOk_spec {l : List PV} (h : zeroOk l = true) : ∀ p ∈ l, (∃ v, p = .val v ∧ v.oneCell' = true) ∨ ∃ sz, p = .nilS sz := by
  induction l with
  | nil => intro p hp; cases hp
  | cons x l ih =>
    intro p hp
    cases x with
    | val v =>
      simp only [zeroOk, Bool.and_eq_true] at h
      rcases List.mem_cons.1 hp with rfl | hp
      · exact .inl ⟨v, rfl, h.1⟩
      · exact ih h.2 p hp
    | nilS sz =>
      rcases List.mem_cons.1 hp with rfl | hp
      · exact .inr ⟨sz, rfl⟩
      · exact ih h p hp
    | ro sz es => cases h
theorem tok1 {P : Program} {t : Nat} {i : TI} {z : Value} (ha : ∀ w, (isAgg t).run P w = .ok i.agg w) (hi : (P.info? t).map (fun i => (i.zero, i.size, i.bytes)) = some (some z, i.size, i.bytes)) (hz : z.cells.toList = i.zero.map PV.raw)
    (hl : i.zero.length = i.size) (h0 : zeroOk i.zero = true) (h1 : 0 < i.size) (hu : match i.und with
    | .str fs => ∃ d, P.underlying t = some (.struct d) ∧ d.toList.map (fun f => (f.offset, f.type)) = fs
    | .slice e => P.underlying t = some (.slice e)
    | .int k => P.underlying t = some (.int k)
    | .string => P.underlying t = some .string
    | .bool => P.underlying t = some .bool
    | .other => True) : TOk1 P t i := by
  refine ⟨ha, ?_, zeroOk_spec h0, h1, hu⟩
  cases h : P.info? t with
  | none => rw [h] at hi; cases hi
  | some inf =>
    rw [h] at hi
    simp only [Option.map_some, Option.some.injEq, Prod.mk.injEq] at hi
    exact ⟨inf, z, rfl, hi.2.1, hi.2.2, hi.1, hz, hl⟩
theorem tok_nil {P : Program} : TOk P [] := fun p hp => by cases hp
theorem tok_cons {P : Program} {t : Nat} {i : TI} {T : TT} (h : TOk1 P t i) (hT : TOk P T) : TOk P ((t, i) :: T) := fun p hp => by
  rcases List.mem_cons.1 hp with rfl | hp
  · exact h
  · exact hT p hp

end Go.Abs
