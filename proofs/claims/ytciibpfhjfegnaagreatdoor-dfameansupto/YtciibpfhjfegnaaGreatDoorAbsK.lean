/-
  THE EVALUATOR: it goes through a body as far as it can be told, and says what is left to be shown.
-/
import Derived.Test.YtciibpfhjfegnaaGreatDoorAbsJ
set_option linter.unusedVariables false
set_option linter.unusedSimpArgs false
namespace Go.Abs
open Go.RowKit

def stepOp (T : TT) (W : List Nat) (o : Oper) (L : LS) : SR := match o.op with
  | .move x => stMove L x
  | .assign x => stMove L x
  | .pick c x y => stPick L c x y
  | .binOp op t x y _ => stBin T L op t x y
  | .unOp op _ x => stUn L op x
  | .convert s d x => stConv T L s d x
  | .box t x => stBox L o.dst t x
  | .alloc t => stAlloc T L o.dst t
  | .load t x => stLoad T L t x
  | .store t x y => stStore T L t x y
  | .fieldAddr t x f => stFieldAddr T L t x f
  | .field t x f => stField T L t x f
  | .extract x j => stExtract L x j
  | .nilCheck x => stNilCheck L x
  | .makeFunc f l l' => stMakeFunc L f l l'
  | .indexAddr t x y => stIndexAddr T L t x y
  | .index t x y => stIndex T L t x y
  | .call { callee := .builtin .len, args := ⟨[x]⟩, argTypes := ⟨[t]⟩ } => stLen T L t x
  | .call { callee := .builtin .append, args := ⟨[x, y]⟩, argTypes := ⟨[t, t']⟩ } => if Nat.beq t t' = true then stAppend T L o.dst t x y else .stop
  | .build t parts => stBuild T L t parts.toList
  | .buildSlice t n parts => stBuildSlice T W L o.dst t n parts.toList
  | .slice t x lo up mx => stSlice T L t x lo up mx
  | _ => .stop
theorem stepOp_ok {C : Ctx} {T : TT} (hT : TOk C.P T) {W : List Nat} {o : Oper} {L : LS} (hdst : ∀ d, o.dst = some d → d < C.fn.ntmps) : SRok C o L (stepOp T W o L) := by
  unfold stepOp
  split
  · exact stMove_ok hdst (.inl ‹_›)
  · exact stMove_ok hdst (.inr ‹_›)
  · exact stPick_ok hdst ‹_›
  · exact stBin_ok hT hdst ‹_›
  · exact stUn_ok hdst ‹_›
  · exact stConv_ok hT hdst ‹_›
  · exact stBox_ok hdst ‹_›
  · exact stAlloc_ok hT hdst ‹_›
  · exact stLoad_ok hT hdst ‹_›
  · exact stStore_ok hT hdst ‹_›
  · exact stFieldAddr_ok hT hdst ‹_›
  · exact stField_ok hT hdst ‹_›
  · exact stExtract_ok hdst ‹_›
  · exact stNilCheck_ok hdst ‹_›
  · exact stMakeFunc_ok hdst ‹_›
  · exact stIndexAddr_ok hT hdst ‹_›
  · exact stIndex_ok hT hdst ‹_›
  · exact stLen_ok hT hdst ‹_› rfl rfl rfl
  · split
    · rename_i e
      rw [Nat.beq_eq] at e
      subst e
      exact stAppend_ok hT hdst ‹_› rfl rfl rfl
    · trivial
  · exact stBuild_ok hT hdst ‹_›
  · exact stBuildSlice_ok hT hdst ‹_›
  · exact stSlice_ok hT hdst ‹_›
  · trivial

inductive Conf where
  | top (todo : List Item) (L : LS)
  | reg (ops : Array Oper) (draw : Bool) (i : Nat) (opl : List Oper) (done : List Trace) (todo : List Item) (L : LS)
/-- The mark of a region whose operations were seen ahead to be apart, or bound. -/
def markT : Trace := ⟨1000000, [], []⟩
def unmark : List Trace → Option (List Trace)
  | m :: rest => if Nat.beq m.i 1000000 = true then some rest else none
  | [] => none
def statAt (ops : Array Oper) (i j : Nat) : Bool := match ops[i]?, ops[j]? with
  | some p, some o => boundB o i || Oper.apart ops p o
  | _, _ => false
/-- Are all pairs of operations apart, or bound? -/
def statOk (ops : Array Oper) : Bool := (List.range ops.size).all fun j => (List.range j).all fun i => statAt ops i j
def Triv (ops : Array Oper) (x : Trace) : Prop := x.rd = [] ∧ x.wr = [] ∧ ∀ p, ops[x.i]? = some p → mayMake1 p = []
/-- .. as the evaluator sees it. -/
def pairS (ops : Array Oper) (x : Trace) (o : Oper) (y : Trace) (vm : List Nm) : Bool :=
  (o.after.any fun e => e.on == x.i && Region.binds .any e) ||
  match ops[x.i]? with
  | some p => Oper.apart ops p o && disjoint x.wr (y.rd ++ y.wr) && disjoint y.wr x.rd && disjoint (mayMake1 p) vm
  | none => false
theorem pairS_ok {ops : Array Oper} {x y : Trace} {o : Oper} {vm : List Nm} (h : pairS ops x o y vm = true) : pairOk ops x o y vm = true := if_pos h
theorem pairS_all {ops : Array Oper} {y : Trace} {o : Oper} {vm : List Nm} {l : List Trace} (h : (l.all fun x => pairS ops x o y vm) = true) : (l.all fun x => pairOk ops x o y vm) = true := by
  rw [List.all_eq_true] at h ⊢
  exact fun x hx => pairS_ok (h x hx)
/-- What is to be shown where the evaluator stands. -/
def Go (C : Ctx) : Conf → Prop
  | .top todo L => GoS C todo L
  | .reg ops draw i opl done todo L => (∀ j, opl[j]? = ops[i + j]?) → match unmark done with
    | none => RT C ops draw (List.range' i opl.length) done L (GoS C todo)
    | some rest => statOk ops = true → ∀ D : List Trace, (∀ x ∈ D, x.i < i ∧ (x ∈ rest ∨ Triv ops x)) → RT C ops draw (List.range' i opl.length) D L (GoS C todo)

def mayMakeO : List Oper → List Nm
  | [] => []
  | o :: l => mayMake1 o ++ mayMakeO l
theorem mayMakeO_eq {ops : Array Oper} : ∀ (opl : List Oper) (i : Nat), (∀ j, opl[j]? = ops[i + j]?) → mayMake ops (List.range' i opl.length) = mayMakeO opl
  | [], i, _ => rfl
  | o :: l, i, h => by
    have h0 := h 0
    simp only [List.getElem?_cons_zero, Nat.add_zero] at h0
    simp only [List.length_cons, List.range'_succ, mayMake, ← h0, mayMakeO]
    rw [mayMakeO_eq l (i + 1) fun j => by have := h (j + 1); simpa [Nat.add_assoc, Nat.add_comm 1 j] using this]
theorem rt_plain {C : Ctx} {ops : Array Oper} {K : LS → Prop} : ∀ (l : List Nat) (done done' : List Trace) (L : LS), RT C ops false l done L K → RT C ops false l done' L K
  | [], _, _, _, h => h
  | i :: rest, done, done', L, h => by
    rcases h with ⟨o, L1, y, vm, ho, h1, hd, hr⟩ | h
    · exact .inl ⟨o, L1, y, vm, ho, h1, fun e => Bool.noConfusion e, rt_plain rest _ _ L1 hr⟩
    · exact .inr h
def mkOff (ops : Array Oper) (x : Trace) (vm : List Nm) : Bool := match vm with
  | [] => true
  | _ :: _ => match ops[x.i]? with
    | some p => disjoint (mayMake1 p) vm
    | none => false
def calmP (ops : Array Oper) (x : Trace) (o : Oper) (y : Trace) (vm : List Nm) : Bool := if (disjoint x.wr (y.rd ++ y.wr) && (disjoint y.wr x.rd && mkOff ops x vm)) = true then true else boundC ops o x.i
def keepT (o : Oper) (y : Trace) : Bool := match y.rd, y.wr, mayMake1 o with
  | [], [], [] => false
  | _, _, _ => true
def nexts (o : Oper) (draw : Bool) (y : Trace) (done : List Trace) : List Trace := match draw with
  | true => match unmark done with
    | some rest => if keepT o y = true then markT :: y :: rest else markT :: rest
    | none => y :: done
  | false => []
def okPair (ops : Array Oper) (draw : Bool) (done : List Trace) (o : Oper) (y : Trace) (vm : List Nm) (opl : List Oper) : Bool := match draw with
  | false => true
  | true => match unmark done with
    | some rest => (rest.all fun x => calmP ops x o y vm) && disjoint (mayMakeO opl) vm
    | none => Nat.blt y.i 1000000 && ((done.all fun x => pairS ops x o y vm) && disjoint (mayMakeO opl) vm)
theorem disjoint_nil (l : List Nm) : disjoint l [] = true := by
  induction l with
  | nil => rfl
  | cons x l ih => simp [disjoint, notIn, ih]
theorem stat_pair {ops : Array Oper} (h : statOk ops = true) {i j : Nat} {o : Oper} (ho : ops[j]? = some o) (hij : i < j) : ∃ p, ops[i]? = some p ∧ (boundB o i || Oper.apart ops p o) = true := by
  have hj : j < ops.size := (Array.getElem?_eq_some_iff.1 ho).1
  unfold statOk at h
  rw [List.all_eq_true] at h
  have h1 := h j (List.mem_range.2 hj)
  rw [List.all_eq_true] at h1
  have h2 := h1 i (List.mem_range.2 hij)
  unfold statAt at h2
  split at h2
  · rename_i p o' hp ho'
    rw [ho] at ho'
    cases ho'
    exact ⟨p, hp, h2⟩
  · cases h2
theorem calm_pair {ops : Array Oper} (h : statOk ops = true) {x y : Trace} {o : Oper} {j : Nat} {vm : List Nm} (ho : ops[j]? = some o) (hx : x.i < j) {rest : List Trace} (hr : x ∈ rest ∨ Triv ops x) (hc : (rest.all fun x => calmP ops x o y vm) = true) : pairOk ops x o y vm = true := by
  obtain ⟨p, hp, hs⟩ := stat_pair h ho hx
  unfold pairOk
  rw [hp]
  cases hb : boundC ops o x.i with
  | true => exact ite_self _
  | false =>
    have hb0 : boundB o x.i = false := by
      unfold boundC at hb
      split at hb
      · cases hb
      · rename_i g; simpa using g
    rw [hb0, Bool.false_or] at hs
    unfold boundB at hb0
    rw [hb0, Bool.false_or]
    refine if_pos ?_
    simp only [hs, Bool.true_and]
    rcases hr with hr | ⟨t1, t2, t3⟩
    · rw [List.all_eq_true] at hc
      have := hc x hr
      unfold calmP at this
      rw [hb] at this
      simp only [Bool.and_eq_true] at this ⊢
      split at this
      case isFalse => cases this
      rename_i hq
      have this := hq
      refine ⟨⟨this.1, this.2.1⟩, ?_⟩
      have h3 := this.2.2
      unfold mkOff at h3
      split at h3
      · exact disjoint_nil _
      · rw [hp] at h3; exact h3
    · rw [t1, t2, t3 p hp, disjoint_nil]
      rfl
theorem keep_not {o : Oper} {y : Trace} (h : ¬ keepT o y = true) : y.rd = [] ∧ y.wr = [] ∧ mayMake1 o = [] := by
  unfold keepT at h
  split at h
  · exact ⟨‹_›, ‹_›, ‹_›⟩
  · exact absurd rfl h
/-- One operation of a region, whichever way it is gone. -/
theorem reg_one {C : Ctx} {ops : Array Oper} {draw : Bool} {i : Nat} {o : Oper} {opl : List Oper} {done : List Trace} {todo : List Item} {L L1 : LS} {y : Trace} {vm : List Nm} (hy : y.i = i) (h1 : Step1 C ops i o L L1 y vm)
    (hok : okPair ops draw done o y vm opl = true) (h : Go C (.reg ops draw (i + 1) opl (nexts o draw y done) todo L1)) : Go C (.reg ops draw i (o :: opl) done todo L) := by
  intro hl
  have h0 := hl 0
  simp only [List.getElem?_cons_zero, Nat.add_zero] at h0
  have hl' : ∀ j, opl[j]? = ops[i + 1 + j]? := fun j => by have := hl (j + 1); simpa [Nat.add_assoc, Nat.add_comm 1 j] using this
  have hr := h hl'
  cases draw with
  | false =>
    have hu : unmark (nexts o false y done) = none := rfl
    rw [hu] at hr
    simp only at hr
    have key : ∀ D : List Trace, RT C ops false (List.range' i (o :: opl).length) D L (GoS C todo) := fun D => by
      simp only [List.length_cons, List.range'_succ, RT]
      exact .inl ⟨o, _, _, _, h0.symm, h1, fun e => Bool.noConfusion e, rt_plain _ _ _ _ hr⟩
    cases unmark done with
    | none => exact key _
    | some rest => exact fun _ D _ => key D
  | true =>
    cases hu : unmark done with
    | none =>
      simp only [okPair, hu, Bool.and_eq_true, Nat.blt_eq] at hok
      have hne : ¬ Nat.beq y.i 1000000 = true := fun e => by rw [Nat.beq_eq] at e; omega
      have hn : nexts o true y done = y :: done := by simp only [nexts, hu]
      rw [hn] at hr
      have hu2 : unmark (y :: done) = none := by simp only [unmark, if_neg hne]
      rw [hu2] at hr
      simp only at hr ⊢
      simp only [List.length_cons, List.range'_succ, RT]
      refine .inl ⟨o, _, _, _, h0.symm, h1, fun _ => ?_, hr⟩
      rw [mayMakeO_eq opl (i + 1) hl']
      exact ⟨pairS_all hok.2.1, hok.2.2⟩
    | some rest =>
      simp only [okPair, hu, Bool.and_eq_true] at hok
      intro hst D hD
      have hall : (D.all fun x => pairOk ops x o y vm) = true := by
        rw [List.all_eq_true]
        intro x hx
        exact calm_pair hst h0.symm (hD x hx).1 (hD x hx).2 hok.1
      have hgo : RT C ops true (List.range' (i + 1) opl.length) (y :: D) L1 (GoS C todo) := by
        by_cases hk : keepT o y = true
        · have hn : nexts o true y done = markT :: y :: rest := by simp only [nexts, hu, hk, if_true]
          rw [hn] at hr
          refine hr hst (y :: D) fun x hx => ?_
          rcases List.mem_cons.1 hx with rfl | hx
          · exact ⟨by omega, .inl (by simp)⟩
          · exact ⟨by have := (hD x hx).1; omega, (hD x hx).2.imp (fun h => by simp [h]) id⟩
        · have hn : nexts o true y done = markT :: rest := by simp only [nexts, hu, hk]; rfl
          rw [hn] at hr
          obtain ⟨k1, k2, k3⟩ := keep_not hk
          refine hr hst (y :: D) fun x hx => ?_
          rcases List.mem_cons.1 hx with rfl | hx
          · refine ⟨by omega, .inr ⟨k1, k2, fun p hp => ?_⟩⟩
            rw [hy, ← h0] at hp
            cases hp
            exact k3
          · exact ⟨by have := (hD x hx).1; omega, (hD x hx).2⟩
      simp only [List.length_cons, List.range'_succ, RT]
      refine .inl ⟨o, _, _, _, h0.symm, h1, fun _ => ⟨hall, ?_⟩, hgo⟩
      rw [mayMakeO_eq opl (i + 1) hl']
      exact hok.2
/-- One operation of a region is shown. -/
theorem reg_step {C : Ctx} {ops : Array Oper} {draw : Bool} {i : Nat} {o : Oper} {opl : List Oper} {done : List Trace} {todo : List Item} {L : LS} {fp : List (Nm × Blk)} {A : Actn} (hg : guardOf ops o L = some true)
    (h1 : Sem1 C o L.ev fp A) (h2 : ∀ q ∈ fp, L.blk q.1 = some q.2) (h3 : ∀ r ∈ news fp A.ups, L.blk r = none ∧ L.Fresh r ∧ r ∈ mayMake1 o)
    (hok : okPair ops draw done o ⟨i, fp.map (·.1), A.ups.map (·.1)⟩ (A.v.ments ++ upsMents A.ups) opl = true)
    (h : Go C (.reg ops draw (i + 1) opl (nexts o draw ⟨i, fp.map (·.1), A.ups.map (·.1)⟩ done) todo (L.app o.dst A))) : Go C (.reg ops draw i (o :: opl) done todo L) :=
  reg_one rfl (.inl ⟨hg, fp, A, h1, h2, h3, rfl, rfl, rfl⟩) hok h
theorem reg_skip {C : Ctx} {ops : Array Oper} {draw : Bool} {i : Nat} {o : Oper} {opl : List Oper} {done : List Trace} {todo : List Item} {L : LS} (hg : guardOf ops o L = some false)
    (hok : okPair ops draw done o ⟨i, [], []⟩ [] opl = true) (h : Go C (.reg ops draw (i + 1) opl (nexts o draw ⟨i, [], []⟩ done) todo (L.put o.dst (.tup [])))) : Go C (.reg ops draw i (o :: opl) done todo L) :=
  reg_one rfl (.inr ⟨hg, rfl, rfl, rfl⟩) hok h

/-- One operation that may come to more than one state. -/
theorem reg_stepN {C : Ctx} {ops : Array Oper} {i : Nat} {o : Oper} {opl : List Oper} {done : List Trace} {todo : List Item} {L : LS} (S : LS → Prop) (hs : StepN C ops o L S)
    (h : ∀ L1, S L1 → Go C (.reg ops false (i + 1) opl [] todo L1)) : Go C (.reg ops false i (o :: opl) done todo L) := by
  intro hl
  have h0 := hl 0
  simp only [List.getElem?_cons_zero, Nat.add_zero] at h0
  have hl' : ∀ j, opl[j]? = ops[i + 1 + j]? := fun j => by have := hl (j + 1); simpa [Nat.add_assoc, Nat.add_comm 1 j] using this
  have key : ∀ D : List Trace, RT C ops false (List.range' i (o :: opl).length) D L (GoS C todo) := fun D => by
    simp only [List.length_cons, List.range'_succ, RT]
    exact .inr ⟨trivial, o, S, h0.symm, hs, fun L1 h1 => h L1 h1 hl'⟩
  cases unmark done with
  | none => exact key _
  | some rest => exact fun _ D _ => key D

def dstOk (n : Nat) (o : Oper) : Bool := match o.dst with
  | some d => Nat.blt d n
  | none => true
theorem dstOk_spec {n : Nat} {o : Oper} (h : dstOk n o = true) : ∀ d, o.dst = some d → d < n := by
  intro d hd
  simp only [dstOk, hd, Nat.blt_eq] at h
  exact h

/-- One step of the evaluator; V: what is to be shown behind it. -/
def stepTop (C : Ctx) (R : LS → Prop) (V : Conf → Prop) (L : LS) : List Item → Prop
  | [] => R L
  | .inBlock m :: rest => V (.top rest L)
  | .code c :: rest => match c with
    | .skip => V (.top rest L)
    | .ret => R L
    | .label _ => V (.top rest L)
    | .seq x y => V (.top (.code x :: .code y :: rest) L)
    | .block m x => V (.top (.code x :: .inBlock m :: rest) L)
    | .exit m => match exitTo m rest with
      | some rest' => V (.top rest' L)
      | none => Go C (.top (.code (.exit m) :: rest) L)
    | .cond c x y => match L.ev c with
      | .pv (.val (.bool true)) => V (.top (.code x :: rest) L)
      | .pv (.val (.bool false)) => V (.top (.code y :: rest) L)
      | _ => Go C (.top (.code (.cond c x y) :: rest) L)
    | .region id ops draw => match draw with
      | false => V (.reg ops false 0 ops.toList [] rest L)
      | true => if (drawOk ops && (mayMakeO ops.toList).all fun r => L.freshB r) = true then V (.reg ops true 0 ops.toList [] rest L) else Go C (.top (.code (.region id ops true) :: rest) L)
    | c => Go C (.top (.code c :: rest) L)
  | todo => Go C (.top todo L)
def stepReg (C : Ctx) (T : TT) (W : List Nat) (n : Nat) (V : Conf → Prop) (ops : Array Oper) (draw : Bool) (i : Nat) (done : List Trace) (todo : List Item) (L : LS) : List Oper → Prop
  | [] => V (.top todo L)
  | o :: opl => match guardOf ops o L with
    | none => Go C (.reg ops draw i (o :: opl) done todo L)
    | some false => if okPair ops draw done o ⟨i, [], []⟩ [] opl = true then V (.reg ops draw (i + 1) opl (nexts o draw ⟨i, [], []⟩ done) todo (L.put o.dst (.tup []))) else Go C (.reg ops draw i (o :: opl) done todo L)
    | some true => match stepOp T W o L with
      | .stop => Go C (.reg ops draw i (o :: opl) done todo L)
      | .act fp A p => if (dstOk n o && okPair ops draw done o ⟨i, fp.map (·.1), A.ups.map (·.1)⟩ (A.v.ments ++ upsMents A.ups) opl) = true then
          p ∧ V (.reg ops draw (i + 1) opl (nexts o draw ⟨i, fp.map (·.1), A.ups.map (·.1)⟩ done) todo (L.app o.dst A))
        else Go C (.reg ops draw i (o :: opl) done todo L)
def stepV (C : Ctx) (T : TT) (W : List Nat) (n : Nat) (R : LS → Prop) (V : Conf → Prop) : Conf → Prop
  | .top todo L => stepTop C R V L todo
  | .reg ops draw i opl done todo L => stepReg C T W n V ops draw i done todo L opl
/-- What is left to be shown, the evaluator having gone k steps. -/
def VC (C : Ctx) (T : TT) (W : List Nat) (n : Nat) (R : LS → Prop) : Nat → Conf → Prop
  | 0 => Go C
  | k + 1 => stepV C T W n R (VC C T W n R k)

theorem stepTop_sound {C : Ctx} (hm : C.P.follows .mixedOrders = true) {R : LS → Prop} (hR : ∀ L, R L → GoS C [] L ∧ ∀ k, GoS C (.code .ret :: k) L) {V : Conf → Prop} (hV : ∀ c, V c → Go C c) {L : LS} {todo : List Item} (h : stepTop C R V L todo) : GoS C todo L := by
  unfold stepTop at h
  split at h
  · exact (hR _ h).1
  · exact go_inBlock (hV _ h)
  · split at h
    · exact go_skip (hV _ h)
    · exact (hR _ h).2 _
    · exact go_label (hV _ h)
    · exact go_seq (hV _ h)
    · exact go_block (hV _ h)
    · split at h
      · exact go_exit ‹_› (hV _ h)
      · exact h
    · split at h
      · exact go_cond (t := true) ‹_› (hV _ h)
      · exact go_cond (t := false) ‹_› (hV _ h)
      · exact h
    · rename_i id ops draw
      cases draw with
      | false =>
        have := hV _ h (fun j => by simp)
        simp only [unmark] at this
        refine go_region ?_
        rw [List.range_eq_range']
        simpa using this
      | true =>
        simp only at h
        split at h
        · rename_i hc
          simp only [Bool.and_eq_true, List.all_eq_true] at hc
          have := hV _ h (fun j => by simp)
          simp only [unmark] at this
          have he := mayMakeO_eq (ops := ops) ops.toList 0 (fun j => by simp)
          refine go_regionD hm hc.1 (fun r hr => hc.2 r ?_) ?_
          · rw [← he]
            rw [List.range_eq_range'] at hr
            simpa using hr
          · rw [List.range_eq_range']
            simpa using this
        · exact h
    · exact h
  · exact h
theorem stepReg_sound {C : Ctx} {T : TT} (hT : TOk C.P T) {W : List Nat} {n : Nat} (hn : C.fn.ntmps = n) {V : Conf → Prop} (hV : ∀ c, V c → Go C c) {ops : Array Oper} {draw : Bool} {i : Nat} {done : List Trace} {todo : List Item} {L : LS} {opl : List Oper}
    (h : stepReg C T W n V ops draw i done todo L opl) : Go C (.reg ops draw i opl done todo L) := by
  unfold stepReg at h
  split at h
  · intro _
    cases unmark done with
    | none => exact hV _ h
    | some rest => exact fun _ D _ => hV _ h
  · split at h
    · exact h
    · split at h
      · exact reg_skip ‹_› ‹_› (hV _ h)
      · exact h
    · rename_i hg
      split at h
      · exact h
      · rename_i fp A p hs
        split at h
        · rename_i hc
          simp only [Bool.and_eq_true] at hc
          obtain ⟨hp, h⟩ := h
          have hok := stepOp_ok (C := C) hT (W := W) (L := L) (fun d hd => by rw [hn]; exact dstOk_spec hc.1 d hd)
          rw [hs] at hok
          obtain ⟨h1, h2, h3⟩ := hok hp
          exact reg_step hg h1 h2 h3 hc.2 (hV _ h)
        · exact h
theorem vc_sound {C : Ctx} {T : TT} (hT : TOk C.P T) {W : List Nat} {n : Nat} (hn : C.fn.ntmps = n) (hm : C.P.follows .mixedOrders = true) {R : LS → Prop} (hR : ∀ L, R L → GoS C [] L ∧ ∀ k, GoS C (.code .ret :: k) L) : ∀ (k : Nat) (c : Conf), VC C T W n R k c → Go C c
  | 0, c, h => h
  | k + 1, .top todo L, h => stepTop_sound hm hR (vc_sound hT hn hm hR k) h
  | k + 1, .reg ops draw i opl done todo L, h => stepReg_sound hT hn (vc_sound hT hn hm hR k) h

/-- A region that draws its order, its operations seen at once to be apart, or bound. -/
theorem go_drawn {C : Ctx} (hm : C.P.follows .mixedOrders = true) {id : Nat} {ops : Array Oper} {rest : List Item} {L : LS} (hs : (drawOk ops && statOk ops) = true) (hf : ((mayMakeO ops.toList).all fun r => L.freshB r) = true)
    (h : Go C (.reg ops true 0 ops.toList [markT] rest L)) : Go C (.top (.code (.region id ops true) :: rest) L) := by
  simp only [Bool.and_eq_true, List.all_eq_true] at hs hf
  have := h (fun j => by simp)
  have hu : unmark [markT] = some [] := rfl
  rw [hu] at this
  have := this hs.2 [] (fun x hx => by cases hx)
  have he := mayMakeO_eq (ops := ops) ops.toList 0 (fun j => by simp)
  refine go_regionD hm hs.1 (fun r hr => hf r ?_) ?_
  · rw [← he]
    rw [List.range_eq_range'] at hr
    simpa using hr
  · rw [List.range_eq_range']
    simpa using this
/-! ### the same, that stops ahead of long regions whose order is drawn -/
def bigB : List Oper → Bool
  | _ :: _ :: _ :: _ :: _ :: _ :: _ :: _ => true
  | _ => false
def memN (x : Nat) : List Nat → Bool
  | [] => false
  | y :: l => if Nat.beq x y = true then true else memN x l
/-- The first region of a code. -/
def firstId : Code → Option Nat
  | .region id _ _ => some id
  | .seq x _ => firstId x
  | .block _ x => firstId x
  | .loop x => firstId x
  | _ => none
def stepTopS (C : Ctx) (S : List Nat) (R : LS → Prop) (V : Conf → Prop) (L : LS) (todo : List Item) : Prop := match todo with
  | [] => stepTop C R V L []
  | x :: rest => match x with
    | .code c => match c with
      | .region id ops draw => match draw with
        | true => if memN id S = true then Go C (.top (.code (.region id ops true) :: rest) L) else if bigB ops.toList = true then Go C (.top (.code (.region id ops true) :: rest) L) else stepTop C R V L (.code (.region id ops true) :: rest)
        | false => if memN id S = true then Go C (.top (.code (.region id ops false) :: rest) L) else stepTop C R V L (.code (.region id ops false) :: rest)
      | .seq a b => match S with
        | [] => stepTop C R V L (.code (.seq a b) :: rest)
        | _ :: _ => match firstId a with
          | some id => if memN (id + 1000) S = true then Go C (.top (.code (.seq a b) :: rest) L) else stepTop C R V L (.code (.seq a b) :: rest)
          | none => stepTop C R V L (.code (.seq a b) :: rest)
      | c => stepTop C R V L (.code c :: rest)
    | x => stepTop C R V L (x :: rest)
def stepVS (C : Ctx) (T : TT) (S W : List Nat) (n : Nat) (R : LS → Prop) (V : Conf → Prop) : Conf → Prop
  | .top todo L => stepTopS C S R V L todo
  | .reg ops draw i opl done todo L => stepReg C T W n V ops draw i done todo L opl
def VCS (C : Ctx) (T : TT) (S W : List Nat) (n : Nat) (R : LS → Prop) : Nat → Conf → Prop
  | 0 => Go C
  | k + 1 => stepVS C T S W n R (VCS C T S W n R k)
theorem stepTopS_sound {C : Ctx} {S : List Nat} (hm : C.P.follows .mixedOrders = true) {R : LS → Prop} (hR : ∀ L, R L → GoS C [] L ∧ ∀ k, GoS C (.code .ret :: k) L) {V : Conf → Prop} (hV : ∀ c, V c → Go C c) {L : LS} {todo : List Item} (h : stepTopS C S R V L todo) : GoS C todo L := by
  unfold stepTopS at h
  split at h
  · exact stepTop_sound hm hR hV h
  · split at h
    · split at h
      · split at h
        · split at h
          · exact h
          · split at h
            · exact h
            · exact stepTop_sound hm hR hV h
        · split at h
          · exact h
          · exact stepTop_sound hm hR hV h
      · split at h
        · exact stepTop_sound hm hR hV h
        · split at h
          · split at h
            · exact h
            · exact stepTop_sound hm hR hV h
          · exact stepTop_sound hm hR hV h
      · exact stepTop_sound hm hR hV h
    · exact stepTop_sound hm hR hV h
theorem vcs_sound {C : Ctx} {T : TT} (hT : TOk C.P T) {S W : List Nat} {n : Nat} (hn : C.fn.ntmps = n) (hm : C.P.follows .mixedOrders = true) {R : LS → Prop} (hR : ∀ L, R L → GoS C [] L ∧ ∀ k, GoS C (.code .ret :: k) L) : ∀ (k : Nat) (c : Conf), VCS C T S W n R k c → Go C c
  | 0, c, h => h
  | k + 1, .top todo L, h => stepTopS_sound hm hR (vcs_sound hT hn hm hR k) h
  | k + 1, .reg ops draw i opl done todo L, h => stepReg_sound hT hn (vcs_sound hT hn hm hR k) h

/-! ### a type's row, out of closed facts -/
def zeroOk : List PV → Bool
  | [] => true
  | .val v :: l => v.oneCell' && zeroOk l
  | .nilS _ :: l => zeroOk l
  | .ro _ _ :: _ => false
  | .opq _ :: _ => false
theorem zeroOk_spec {l : List PV} (h : zeroOk l = true) : ∀ p ∈ l, (∃ v, p = .val v ∧ v.oneCell' = true) ∨ ∃ sz, p = .nilS sz := by
  induction l with
  | nil => intro p hp; cases hp
  | cons x l ih =>
    intro p hp
    cases x with
    | val v =>
      simp only [zeroOk, Bool.and_eq_true] at h
      rcases List.mem_cons.1 hp with rfl | hp
      · exact .inl ⟨v, rfl, h.1⟩
      · exact ih h.2 p hp
    | nilS sz =>
      rcases List.mem_cons.1 hp with rfl | hp
      · exact .inr ⟨sz, rfl⟩
      · exact ih h p hp
    | ro sz es => cases h
    | opq => cases h
theorem tok1 {P : Program} {t : Nat} {i : TI} {z : Value} (ha : ∀ w, (isAgg t).run P w = .ok i.agg w) (hi : (P.info? t).map (fun i => (i.zero, i.size, i.bytes)) = some (some z, i.size, i.bytes)) (hz : z.cells.toList = i.zero.map PV.raw)
    (hl : i.zero.length = i.size) (h0 : zeroOk i.zero = true) (h1 : 0 < i.size) (hu : match i.und with
    | .str fs => ∃ d, P.underlying t = some (.struct d) ∧ d.toList.map (fun f => (f.offset, f.type)) = fs
    | .slice e => P.underlying t = some (.slice e)
    | .int k => P.underlying t = some (.int k)
    | .string => P.underlying t = some .string
    | .bool => P.underlying t = some .bool
    | .other => True) : TOk1 P t i := by
  refine ⟨ha, ?_, zeroOk_spec h0, h1, hu⟩
  cases h : P.info? t with
  | none => rw [h] at hi; cases hi
  | some inf =>
    rw [h] at hi
    simp only [Option.map_some, Option.some.injEq, Prod.mk.injEq] at hi
    exact ⟨inf, z, rfl, hi.2.1, hi.2.2, hi.1, hz, hl⟩
theorem tok_nil {P : Program} : TOk P [] := fun p hp => by cases hp
theorem tok_cons {P : Program} {t : Nat} {i : TI} {T : TT} (h : TOk1 P t i) (hT : TOk P T) : TOk P ((t, i) :: T) := fun p hp => by
  rcases List.mem_cons.1 hp with rfl | hp
  · exact h
  · exact hT p hp

end Go.Abs
/-
  THE RULES for whoever goes through a body: what a function of pure values is, calls, loops, forgetting.
-/
set_option linter.unusedVariables false
set_option linter.unusedSimpArgs false
namespace Go.Abs
open Go.RowKit

/-- A function by its number: it is one of the program's own, with a body; of args, the blocks that are handed on holding pre, it makes v, and they hold post. -/
structure Fun (P : Program) (Gl : Granted) (g : FuncId) (args : List AV) (pre : List (Option Blk)) (v : AV) (post : List (Option Blk)) : Prop where
  fn : ∃ fng, P.funcs[g]? = some fng ∧ (fng.name == "runtime.NumGoroutine") = false ∧ fng.body.isNone = false
  calls : ACalls P Gl g args pre v post

/-- A call under way. -/
structure Rd (C : Ctx) (P : Program) (Gl : Granted) (T : TT) (n : Nat) (rs : List ResultVar) (v : AV) (post : List (Nm × Option Blk)) : Prop where
  prog : C.P = P
  gl : C.Gl = Gl
  tok : TOk C.P T
  n : C.fn.ntmps = n
  mixed : C.P.follows .mixedOrders = true
  fin : ∀ (L : LS) (x : AV), resAV T L rs = some x → x.frz (lkH post) L.blk = v → subH L post → GoS C [] L ∧ ∀ k, GoS C (.code .ret :: k) L

theorem fun_of {P : Program} {Gl : Granted} {f : FuncId} {fn : Func} {c : Code} {args : List AV} {pre post : List (Option Blk)} {v : AV} {T : TT} {n : Nat} {rs : List ResultVar} (hf : P.funcs[f]? = some fn) (hname : (fn.name == "runtime.NumGoroutine") = false) (hb : fn.body = some c) (hn : fn.ntmps = n) (hrs : fn.results.toList = rs)
    (hT : TOk P T) (hm : P.follows .mixedOrders = true) (hl : args.length ≤ n) (h : ∀ C, Rd C P Gl T n rs v (keyed 0 post) → Go C (.top [.code c] (LS.start args pre))) : Fun P Gl f args pre v post :=
  ⟨⟨fn, hf, hname, by rw [hb]; rfl⟩, acalls_of hf hb (by rw [hn]; exact hl) fun w0 F0 hd0 => h _ ⟨rfl, rfl, hT, hn, hm, fun L x h1 h2 h3 => ⟨go_done hT hf (by rw [hrs]; exact h1) h2 h3, fun k => go_ret hT hf (by rw [hrs]; exact h1) h2 h3⟩⟩⟩

/-- What is to be shown at a return. -/
def retP (T : TT) (rs : List ResultVar) (v : AV) (post : List (Nm × Option Blk)) (L : LS) : Prop := match resAV T L rs with
  | some x => x.frz (lkH post) L.blk = v ∧ subH L post
  | none => False
theorem Rd.vc {C : Ctx} {P : Program} {Gl : Granted} {T : TT} {n : Nat} {rs : List ResultVar} {v : AV} {post : List (Nm × Option Blk)} (h : Rd C P Gl T n rs v post) (W : List Nat) (k : Nat) {c : Conf} (hv : VC C T W n (retP T rs v post) k c) : Go C c :=
  vc_sound h.tok h.n h.mixed (fun L hL => by
    unfold retP at hL
    split at hL
    · exact h.fin L _ ‹_› hL.1 hL.2
    · exact hL.elim) k c hv

/-- .. it stops ahead of long regions whose order is drawn. -/
theorem Rd.go {C : Ctx} {P : Program} {Gl : Granted} {T : TT} {n : Nat} {rs : List ResultVar} {v : AV} {post : List (Nm × Option Blk)} (h : Rd C P Gl T n rs v post) (W : List Nat) (k : Nat) {c : Conf} (hv : VCS C T [] W n (retP T rs v post) k c) : Go C c :=
  vcs_sound h.tok h.n h.mixed (fun L hL => by
    unfold retP at hL
    split at hL
    · exact h.fin L _ ‹_› hL.1 hL.2
    · exact hL.elim) k c hv
/-- .. it stops ahead of the regions S, too. -/
theorem Rd.til {C : Ctx} {P : Program} {Gl : Granted} {T : TT} {n : Nat} {rs : List ResultVar} {v : AV} {post : List (Nm × Option Blk)} (h : Rd C P Gl T n rs v post) (S W : List Nat) (k : Nat) {c : Conf} (hv : VCS C T S W n (retP T rs v post) k c) : Go C c :=
  vcs_sound h.tok h.n h.mixed (fun L hL => by
    unfold retP at hL
    split at hL
    · exact h.fin L _ ‹_› hL.1 hL.2
    · exact hL.elim) k c hv
theorem Rd.drawn {C : Ctx} {P : Program} {Gl : Granted} {T : TT} {n : Nat} {rs : List ResultVar} {v : AV} {post : List (Nm × Option Blk)} (h : Rd C P Gl T n rs v post) {id : Nat} {ops : Array Oper} {rest : List Item} {L : LS} (hs : (drawOk ops && statOk ops) = true) (hf : ((mayMakeO ops.toList).all fun r => L.freshB r) = true)
    (hg : Go C (.reg ops true 0 ops.toList [markT] rest L)) : Go C (.top (.code (.region id ops true) :: rest) L) := go_drawn h.mixed hs hf hg

def allSome : List (Option Blk) → Bool
  | [] => true
  | some _ :: l => allSome l
  | none :: _ => false
theorem allSome_spec {L : LS} {ns : List Nm} (h : allSome (blksOf L ns) = true) : ∀ s ∈ ns, ∃ b, L.blk s = some b := by
  induction ns with
  | nil => intro s hs; cases hs
  | cons x l ih =>
    simp only [blksOf] at h
    cases hx : L.blk x with
    | none => rw [hx] at h; cases h
    | some b =>
      rw [hx] at h
      intro s hs
      rcases List.mem_cons.1 hs with rfl | hs
      · exact ⟨b, hx⟩
      · exact ih h s hs
/-- What a call asks of the operation that makes it. -/
def callSide (n : Nat) (ops : Array Oper) (draw : Bool) (i : Nat) (o : Oper) (opl : List Oper) (done : List Trace) (L : LS) (g : FuncId) (args : List AV) (ns : List Nm) (pre : List (Option Blk)) (v : AV) (post : List (Option Blk)) : Prop := match o.op with
  | .call c => match c.callee with
    | .value x => match L.ev x with
      | .fn (.func g') first caps => g' = g ∧ guardOf ops o L = some true ∧ dstOk n o = true ∧ AV.ren.renL (inName ns) (first ++ evL L c.args.toList ++ caps) = args ∧ renBs (inName ns) (blksOf L ns) = pre ∧ allSome (blksOf L ns) = true ∧ nodupB ns = true ∧ post.length = ns.length ∧
        onlyArgs ns.length v.ments = true ∧ onlyArgs ns.length (blksMents post) = true ∧ okPair ops draw done o ⟨i, ns, ns⟩ ((v.ren (backName ns)).ments ++ upsMents (callUps ns ns post)) opl = true
      | _ => False
    | _ => False
  | _ => False
theorem fp_names {L : LS} {ns : List Nm} (h : ∀ s ∈ ns, ∃ b, L.blk s = some b) : (ns.filterMap fun s => (L.blk s).map fun b => (s, b)).map (·.1) = ns := by
  induction ns with
  | nil => rfl
  | cons x l ih =>
    obtain ⟨b, hb⟩ := h x (by simp)
    simp [hb, ih fun s hs => h s (by simp [hs])]
/-- A call. -/
theorem Rd.call {C : Ctx} {P : Program} {Gl : Granted} {T : TT} {n : Nat} {rs : List ResultVar} {v : AV} {post : List (Nm × Option Blk)} (h : Rd C P Gl T n rs v post) {g : FuncId} {args : List AV} {pre' post' : List (Option Blk)} {r : AV} (ns : List Nm) (hc : Fun P Gl g args pre' r post') {ops : Array Oper} {draw : Bool} {i : Nat} {o : Oper} {opl : List Oper} {done : List Trace} {todo : List Item} {L : LS}
    (hs : callSide n ops draw i o opl done L g args ns pre' r post') (hnext : Go C (.reg ops draw (i + 1) opl (nexts o draw ⟨i, ns, ns⟩ done) todo (L.app o.dst ⟨r.ren (backName ns), callUps ns ns post'⟩))) : Go C (.reg ops draw i (o :: opl) done todo L) := by
  unfold callSide at hs
  split at hs
  · rename_i c ho
    split at hs
    · rename_i x hcal
      split at hs
      · rename_i g' first caps hx
        obtain ⟨rfl, hg, hd, hargs, hpre, hall, hnd, hlen, hv, hpost, hok⟩ := hs
        obtain ⟨fng, h1, h2, h3⟩ := hc.fn
        have hp0 := h.prog
        have hg0 := h.gl
        subst hp0
        subst hg0
        have hall := allSome_spec hall
        have e1 := fp_names hall
        have e2 := callUps_keys ns ns post' hlen
        refine reg_step hg (sem1_call (C := C) (L := L) (fun d hd' => by rw [h.n]; exact dstOk_spec hd d hd') ho hcal hx h1 h2 h3 hargs hpre hall (nodupB_spec hnd) hlen hv hpost hc.calls) ?_ ?_ ?_ ?_
        · intro q hq
          obtain ⟨s, hs, hq⟩ := List.mem_filterMap.1 hq
          obtain ⟨b, hb⟩ := hall s hs
          rw [hb] at hq
          cases hq
          exact hb
        · intro s hs
          exfalso
          obtain ⟨h1, h2⟩ := List.mem_filter.1 hs
          rw [e2] at h1
          obtain ⟨b, hb⟩ := hall s h1
          simp only [Bool.not_eq_true', List.any_eq_false] at h2
          have := h2 (s, b) (List.mem_filterMap.2 ⟨s, h1, by simp [hb]⟩)
          exact this ((Nm.eqb_iff _ _).2 rfl)
        · rw [e1, e2]; exact hok
        · rw [e1, e2]; exact hnext
      · exact hs.elim
    · exact hs.elim
  · exact hs.elim

/-! ### forgetting, renaming, laying rows open -/
inductive Src where
  | nm (s : Nm)
  | nil
/-- What a name of the state to come is now: itself, if nothing else is said. -/
def srcOf : List (Nm × Src) → Nm → Src
  | [], r => .nm r
  | (k, s) :: l, r => if k.eqb r = true then s else srcOf l r
def srcs (θ : List (Nm × Src)) : List (Nm × Option Blk) → List Nm
  | [] => []
  | (r, b) :: l => match b with
    | none => srcs θ l
    | some _ => match srcOf θ r with
      | .nm s => s :: srcs θ l
      | .nil => srcs θ l
def leP (p q : PV) : Prop := match p with
  | .nilS _ => match q with
    | .nilS _ => True
    | .ro _ es => es = []
    | .val _ => False
    | .opq _ => False
  | p => p = q
/-- A row of the call's own, taken for what is only read from now on. -/
def laid (live : List Nm) (L : LS) (s : Nm) (q : PV) : Prop := match q with
  | .ro sz es => match L.blk s with
    | some (.row _ sz' es') => notIn s live = true ∧ sz' = sz ∧ es' = es
    | _ => False
  | _ => False
/-- .. a map, as a value of one cell. -/
def laidG (live : List Nm) (L : LS) (s : Nm) (q : PV) : Prop := match q with
  | .opq Q => match L.blk s with
    | some (.gen Q') => notIn s live = true ∧ Q = mapAt Q'
    | _ => False
  | _ => False
/-- A map of the call's own, taken for what is only read from now on. -/
def laidM (live : List Nm) (L : LS) (s : Nm) (Q : Obj → Prop) : Prop := match L.blk s with
  | some (.raw Q') => notIn s live = true ∧ ∀ o, Q' o → Q o
  | _ => False
def leA (θ : List (Nm × Src)) (live : List Nm) (L : LS) (x : AV) : AV → Prop
  | .any => True
  | .pv q => match x with
    | .pv p => leP p q
    | .own s => laid live L s q
    | .hmap s => laidG live L s q
    | _ => False
  | .own r => match x with
    | .own s => srcOf θ r = .nm s
    | .pv p => match p with
      | .nilS _ => srcOf θ r = .nil
      | _ => False
    | _ => False
  | .ptr r off => match x with
    | .ptr s off' => srcOf θ r = .nm s ∧ off' = off
    | _ => False
  | .ept r sz i f => match x with
    | .ept s sz' i' f' => srcOf θ r = .nm s ∧ sz' = sz ∧ i' = i ∧ f' = f
    | _ => False
  | .hmap r => match x with
    | .hmap s => srcOf θ r = .nm s
    | _ => False
  | .rop cs => match x with
    | .rop cs' => cs' = cs
    | _ => False
  | .rom Q => match x with
    | .rom Q' => ∀ o, Q' o → Q o
    | .hmap s => laidM live L s Q
    | _ => False
  | .opq Q => match x with
    | .opq Q' => Q' = Q
    | _ => False
  | .agg m => match x with
    | .agg l => leL θ live L l m
    | _ => False
  | .tup m => match x with
    | .tup l => leL θ live L l m
    | _ => False
  | .fn f a b => match x with
    | .fn f' a' b' => f' = f ∧ leL θ live L a' a ∧ leL θ live L b' b
    | _ => False
where leL (θ : List (Nm × Src)) (live : List Nm) (L : LS) : List AV → List AV → Prop
  | l, [] => l = []
  | l, y :: m => match l with
    | [] => False
    | x :: l => leA θ live L x y ∧ leL θ live L l m
def leB (θ : List (Nm × Src)) (live : List Nm) (L : LS) (b b' : Blk) : Prop := match b with
  | .box ty cs => match b' with
    | .box ty' cs' => ty = ty' ∧ leA.leL θ live L cs cs'
    | _ => False
  | .row e sz es => match b' with
    | .row e' sz' es' => e = e' ∧ sz = sz' ∧ es = es'
    | _ => False
  | .raw Q => match b' with
    | .raw Q' => ∀ o, Q o → Q' o
    | _ => False
  | .iter Q => match b' with
    | .iter Q' => ∀ b ob o, Q b ob o → Q' b ob o
    | _ => False
  | .gen Q => match b' with
    | .gen Q' => ∀ w F o, Q w F o → Q' w F o
    | _ => False
def isArg : Nm → Bool
  | .arg _ => true
  | _ => false
def blkOk (θ : List (Nm × Src)) (live : List Nm) (L : LS) (r : Nm) (b : Option Blk) : Prop := match b with
  | none => True
  | some b => match srcOf θ r with
    | .nil => isArg r = false ∧ match b with
      | .row _ _ es => es = []
      | _ => False
    | .nm s => (isArg r = true → s = r) ∧ match L.blk s with
      | some b' => leB θ live L b' b
      | none => False
def convS (θ : List (Nm × Src)) (live : List Nm) (L : LS) : List (Nat × AV) → Prop
  | [] => True
  | (t, v) :: l => leA θ live L (L.get t) v ∧ convS θ live L l
def convH (θ : List (Nm × Src)) (live : List Nm) (L : LS) : List (Nm × Option Blk) → Prop
  | [] => True
  | (r, b) :: l => blkOk θ live L r b ∧ convH θ live L l
/-- Whoever knows L may go on from M. -/
def conv (θ : List (Nm × Src)) (L M : LS) : Prop := nodupB (srcs θ M.H) = true ∧ convS θ (srcs θ M.H) L M.σ ∧ convH θ (srcs θ M.H) L M.H

theorem convS_get {θ : List (Nm × Src)} {live : List Nm} {L : LS} : ∀ {l : List (Nat × AV)} (t : Nat), convS θ live L l → leA θ live L (L.get t) (lkS l t)
  | [], t, _ => by simp [lkS, leA]
  | (k, v) :: l, t, h => by
    simp only [lkS]
    split
    · rename_i e; subst e; exact h.1
    · exact convS_get t h.2
theorem convH_get {θ : List (Nm × Src)} {live : List Nm} {L : LS} : ∀ {l : List (Nm × Option Blk)} (r : Nm), convH θ live L l → blkOk θ live L r (lkH l r)
  | [], r, _ => trivial
  | (k, v) :: l, r, h => by
    simp only [lkH]
    split
    · rename_i e
      rw [Nm.eqb_iff] at e
      subst e
      exact h.1
    · exact convH_get r h.2
theorem srcs_mem {θ : List (Nm × Src)} : ∀ {l : List (Nm × Option Blk)} {r s : Nm} {b : Blk}, lkH l r = some b → srcOf θ r = .nm s → s ∈ srcs θ l
  | [], r, s, b, h, _ => by cases h
  | (k, v) :: l, r, s, b, h, hs => by
    simp only [lkH] at h
    split at h
    · rename_i e
      rw [Nm.eqb_iff] at e
      subst e
      subst h
      simp [srcs, hs]
    · have := srcs_mem h hs
      simp only [srcs]
      cases v with
      | none => exact this
      | some c => cases srcOf θ k <;> simp [this]
theorem srcs_inj {θ : List (Nm × Src)} : ∀ {l : List (Nm × Option Blk)} {r r' s : Nm} {b b' : Blk}, (srcs θ l).Nodup → lkH l r = some b → lkH l r' = some b' → srcOf θ r = .nm s → srcOf θ r' = .nm s → r = r'
  | [], r, r', s, b, b', _, h, _, _, _ => by cases h
  | (k, v) :: l, r, r', s, b, b', hn, h, h', hs, hs' => by
    have hn' : (srcs θ l).Nodup := by
      simp only [srcs] at hn
      cases v with
      | none => exact hn
      | some c =>
        cases hk : srcOf θ k with
        | nm q => rw [hk] at hn; exact (List.nodup_cons.1 hn).2
        | nil => rw [hk] at hn; exact hn
    simp only [lkH] at h h'
    by_cases e : k.eqb r = true
    · rw [if_pos e] at h
      rw [Nm.eqb_iff] at e
      subst e
      by_cases e' : k.eqb r' = true
      · rw [Nm.eqb_iff] at e'; exact e'
      · rw [if_neg e'] at h'
        subst h
        simp only [srcs, hs] at hn
        exact absurd (srcs_mem h' hs') (List.nodup_cons.1 hn).1
    · rw [if_neg e] at h
      by_cases e' : k.eqb r' = true
      · rw [if_pos e'] at h'
        rw [Nm.eqb_iff] at e'
        subst e'
        subst h'
        simp only [srcs, hs'] at hn
        exact absurd (srcs_mem h hs) (List.nodup_cons.1 hn).1
      · rw [if_neg e'] at h'
        exact srcs_inj hn' h h' hs hs'

def convHd (θ : List (Nm × Src)) (M : LS) (hd : Nm → Hd) (r : Nm) : Hd := match M.blk r with
  | none => .dead
  | some _ => match srcOf θ r with
    | .nm s => hd s
    | .nil => .row (.slice none 0 0)
def convF (live : List Nm) (F : Nat → Prop) (hd : Nm → Hd) (k : Nat) : Prop := F k ∨ ∃ s, s ∉ live ∧ (hd s).owns k
theorem convHd_nm {θ : List (Nm × Src)} {M : LS} {hd : Nm → Hd} {r s : Nm} (h : srcOf θ r = .nm s) : convHd θ M hd r = hd s ∨ convHd θ M hd r = .dead := by
  unfold convHd
  cases M.blk r <;> simp [h]
theorem leP_rep {w : World} {F : Nat → Prop} {p q : PV} {v : Value} (h : leP p q) (hr : RepP w F p v) : RepP w F q v := by
  unfold leP at h
  split at h
  · cases hr
    split at h
    · exact .nilS _
    · subst h
      exact .ro _ [] none 0 (fun _ _ => undef) (fun _ => rfl) (by simp) (by simp) (fun i e h => by simp at h) (fun h => absurd rfl h) (fun i j e c h => by simp at h)
    · exact h.elim
    · exact h.elim
  · subst h; exact hr
theorem leA_rep {θ : List (Nm × Src)} {live : List Nm} {L M : LS} {w : World} {F : Nat → Prop} {hd : Nm → Hd} (hb : ∀ r, HoldB w F hd r (L.blk r)) {x : AV} {v : Value} (h : Rep w F hd x v) : ∀ {y : AV}, leA θ live L x y → Rep w (convF live F hd) (convHd θ M hd) y v := by
  have hL : ∀ (m l : List AV) (cs : List Value), leA.leL θ live L l m → (∀ (j : Nat) (c : AV) (v : Value), l[j]? = some c → cs[j]? = some v → ∀ {y : AV}, leA θ live L c y → Rep w (convF live F hd) (convHd θ M hd) y v) →
      l.length = m.length ∧ ∀ (j : Nat) (c : AV) (v : Value), m[j]? = some c → cs[j]? = some v → Rep w (convF live F hd) (convHd θ M hd) c v := by
    intro m
    induction m with
    | nil => intro l cs hl _; simp only [leA.leL] at hl; subst hl; exact ⟨rfl, fun j c v h => by simp at h⟩
    | cons y m ih =>
      intro l cs hl hh
      cases l with
      | nil => simp only [leA.leL] at hl
      | cons x l =>
        simp only [leA.leL] at hl
        cases cs with
        | nil =>
          obtain ⟨i1, _⟩ := ih l [] hl.2 (fun j c v h1 h2 => by simp at h2)
          exact ⟨by simp [i1], fun j c v _ h2 => by simp at h2⟩
        | cons u cs =>
          obtain ⟨i1, i2⟩ := ih l cs hl.2 (fun j c v h1 h2 => hh (j + 1) c v (by simpa using h1) (by simpa using h2))
          refine ⟨by simp [i1], fun j c v h1 h2 => ?_⟩
          cases j with
          | zero => simp at h1 h2; subst h1 h2; exact hh 0 x u rfl rfl hl.1
          | succ j => simp at h1 h2; exact i2 j c v h1 h2
  induction h with
  | pv p v h =>
    intro y hy
    cases y <;> simp only [leA] at hy
    · exact .pv _ v (leP_rep hy (h.mono (fun _ _ => rfl) (fun _ h => .inl h)))
    · rename_i r
      split at hy
      · cases h
        refine .own r _ rfl fun u hu => ?_
        simp only [convHd, hy] at hu
        split at hu
        · cases hu
        · exact (Hd.row.inj hu)
      · exact hy.elim
    · exact .any _
  | agg l cs hl h h1 ih =>
    intro y hy
    cases y <;> simp only [leA] at hy
    · obtain ⟨i1, i2⟩ := hL _ l cs hy (fun j c v h1 h2 {y} hc => ih j c v h1 h2 hc)
      exact .agg _ cs (by rw [hl, i1]) i2 h1
    · exact .any _
  | tup l cs hl h ih =>
    intro y hy
    cases y <;> simp only [leA] at hy
    · obtain ⟨i1, i2⟩ := hL _ l cs hy (fun j c v h1 h2 {y} hc => ih j c v h1 h2 hc)
      exact .tup _ cs (by rw [hl, i1]) i2
    · exact .any _
  | own s v h1 h =>
    intro y hy
    cases y <;> simp only [leA] at hy
    · unfold laid at hy
      split at hy
      · rename_i sz es
        have hbs := hb s
        split at hy
        · rename_i e sz' es' hbl
          obtain ⟨hni, rfl, rfl⟩ := hy
          rw [hbl] at hbs
          obtain ⟨u, cells, q1, q2, q3, q4, q5⟩ := hbs
          obtain rfl := h u q1
          exact .pv _ _ (row_ro q2 q3 (fun i j el c u' a1 a2 a3 => (q4 i j el c u' a1 a2 a3).mono (fun _ _ => rfl) (fun _ h => .inl h)) (fun k hk => .inr ⟨s, (notIn_iff _ _).1 hni, by rw [q1]; exact hk⟩))
        · exact hy.elim
      · exact hy.elim
    · rename_i r
      refine .own r v h1 fun u hu => h u ?_
      rcases convHd_nm (M := M) (hd := hd) hy with e | e
      · exact e ▸ hu
      · rw [e] at hu; cases hu
    · exact .any _
  | ptr s off v h1 h =>
    intro y hy
    cases y <;> simp only [leA] at hy
    · rename_i r off'
      obtain ⟨hy, rfl⟩ := hy
      refine .ptr r off v h1 fun u hu => h u ?_
      rcases convHd_nm (M := M) (hd := hd) hy with e | e
      · exact e ▸ hu
      · rw [e] at hu; cases hu
    · exact .any _
  | ept s sz i f v h1 h =>
    intro y hy
    cases y <;> simp only [leA] at hy
    · rename_i r _ _ _
      obtain ⟨hy, rfl, rfl, rfl⟩ := hy
      refine .ept r sz i f v h1 fun g n c hu => h g n c ?_
      rcases convHd_nm (M := M) (hd := hd) hy with e | e
      · exact e ▸ hu
      · rw [e] at hu; cases hu
    · exact .any _
  | rop cs ad u hs h1 hc hr =>
    intro y hy
    cases y <;> simp only [leA] at hy
    · subst hy
      exact .rop cs ad u hs (.inl h1) hc (fun j c hj => (hr j c hj).mono (fun _ _ => rfl) (fun _ h => .inl h))
    · exact .any _
  | fn f a b va vb ha hb' h h' ih ih' =>
    intro y hy
    cases y <;> simp only [leA] at hy
    · obtain ⟨rfl, y1, y2⟩ := hy
      obtain ⟨i1, i2⟩ := hL _ a va y1 (fun j c v h1 h2 {y} hc => ih j c v h1 h2 hc)
      obtain ⟨i3, i4⟩ := hL _ b vb y2 (fun j c v h1 h2 {y} hc => ih' j c v h1 h2 hc)
      exact .fn _ _ _ va vb (by rw [ha, i1]) (by rw [hb', i3]) i2 i4
    · exact .any _
  | hmap s v h1 h =>
    intro y hy
    cases y <;> simp only [leA] at hy
    · unfold laidG at hy
      have hbs := hb s
      split at hy
      · split at hy
        · rename_i Q' hbl
          obtain ⟨hni, rfl⟩ := hy
          rw [hbl] at hbs
          obtain ⟨k, o, q1, q2, q3⟩ := hbs
          obtain rfl := h k q1
          have hF : convF live F hd k := .inr ⟨s, (notIn_iff _ _).1 hni, by rw [q1]; exact rfl⟩
          exact .pv _ _ (.opq _ _ rfl fun w2 F2 e1 e2 => ⟨k, o, rfl, e2 k hF, (e1 k hF).trans q2, q3 w2 F2 (fun j hj => e1 j (.inl hj)) (fun j hj => e2 j (.inl hj))⟩)
        · exact hy.elim
      · exact hy.elim
    · rename_i r
      refine .hmap r v h1 fun u hu => h u ?_
      rcases convHd_nm (M := M) (hd := hd) hy with e | e
      · exact e ▸ hu
      · rw [e] at hu; cases hu
    · unfold laidM at hy
      have hbs := hb s
      split at hy
      · rename_i Q' hbl
        obtain ⟨hni, hq⟩ := hy
        rw [hbl] at hbs
        obtain ⟨k, o, q1, q2, q3⟩ := hbs
        obtain rfl := h k q1
        exact .rom _ k o (.inr ⟨s, (notIn_iff _ _).1 hni, by rw [q1]; exact rfl⟩) q2 (hq o q3)
      · exact hy.elim
    · exact .any _
  | rom Q k o h1 h2 h3 =>
    intro y hy
    cases y <;> simp only [leA] at hy
    · exact .rom _ k o (.inl h1) h2 (hy o h3)
    · exact .any _
  | opq Q v h1 h =>
    intro y hy
    cases y <;> simp only [leA] at hy
    · subst hy
      exact .opq _ v h1 fun w2 F2 e1 e2 => h w2 F2 (fun k hk => e1 k (.inl hk)) (fun k hk => e2 k (.inl hk))
    · exact .any _
  | any v =>
    intro y hy
    cases y <;> simp only [leA] at hy
    exact .any _
theorem leL_rep {θ : List (Nm × Src)} {live : List Nm} {L M : LS} {w : World} {F : Nat → Prop} {hd : Nm → Hd} (hb : ∀ r, HoldB w F hd r (L.blk r)) : ∀ {m l : List AV} {cs : List Value}, leA.leL θ live L l m → (∀ (j : Nat) (c : AV) (v : Value), l[j]? = some c → cs[j]? = some v → Rep w F hd c v) →
    l.length = m.length ∧ ∀ (j : Nat) (c : AV) (v : Value), m[j]? = some c → cs[j]? = some v → Rep w (convF live F hd) (convHd θ M hd) c v
  | [], l, cs, h, hr => by simp only [leA.leL] at h; subst h; exact ⟨rfl, fun j c v h => by simp at h⟩
  | y :: m, [], cs, h, hr => by simp only [leA.leL] at h
  | y :: m, x :: l, [], h, hr => by
    simp only [leA.leL] at h
    obtain ⟨i1, _⟩ := leL_rep (M := M) (cs := []) hb h.2 (fun j c v h1 h2 => by simp at h2)
    exact ⟨by simp [i1], fun j c v _ h2 => by simp at h2⟩
  | y :: m, x :: l, u :: cs, h, hr => by
    simp only [leA.leL] at h
    obtain ⟨i1, i2⟩ := leL_rep (cs := cs) hb h.2 (fun j c v h1 h2 => hr (j + 1) c v (by simpa using h1) (by simpa using h2))
    refine ⟨by simp [i1], fun j c v h1 h2 => ?_⟩
    cases j with
    | zero => simp at h1 h2; subst h1 h2; exact leA_rep hb (hr 0 x u rfl rfl) h.1
    | succ j => simp at h1 h2; exact i2 j c v h1 h2

theorem Inv.conv {C : Ctx} {θ : List (Nm × Src)} {L M : LS} (h : conv θ L M) {hd : Nm → Hd} {F : Nat → Prop} {a : Act} {w : World} (hi : Inv C L hd F a w) : Inv C M (convHd θ M hd) (convF (srcs θ M.H) F hd) a w := by
  obtain ⟨hnd, hS, hH⟩ := h
  have hnd := nodupB_spec hnd
  have hown : ∀ r k, (convHd θ M hd r).owns k → ∃ s b, M.blk r = some b ∧ srcOf θ r = .nm s ∧ convHd θ M hd r = hd s ∧ (hd s).owns k ∧ s ∈ srcs θ M.H := by
    intro r k hk
    unfold convHd at hk ⊢
    cases hm : M.blk r with
    | none => rw [hm] at hk; exact hk.elim
    | some b =>
      rw [hm] at hk
      cases hs : srcOf θ r with
      | nil => rw [hs] at hk; cases hk
      | nm s => rw [hs] at hk; exact ⟨s, b, rfl, rfl, by simp, hk, srcs_mem hm hs⟩
  refine { slots := fun t => leA_rep hi.blocks (hi.slots t) (convS_get t hS), blocks := fun r => ?_, sep := fun r r' k hne h1 h2 => ?_, mine := fun r k hk => ?_, fin := fun k hk => ?_, more := fun k hk => .inl (hi.more k hk), kept := fun i => ?_, gl := C.Gl.mono hi.gl (fun _ _ => rfl) (fun _ h => .inl h), os := hi.os, tape := hi.tape, output := hi.output, size := hi.size, old := hi.old, ntmps := hi.ntmps, defers := hi.defers }
  · have hok := convH_get r hH
    have hmr : M.blk r = lkH M.H r := rfl
    rw [hmr]
    cases hl : lkH M.H r with
    | none => simp [HoldB, convHd, hmr, hl]
    | some b =>
      rw [hl] at hok
      simp only [blkOk] at hok
      cases hs : srcOf θ r with
      | nil =>
        rw [hs] at hok
        obtain ⟨_, hok⟩ := hok
        cases b with
        | row e sz es =>
          simp only at hok
          subst hok
          exact ⟨.slice none 0 0, [], by simp [convHd, hmr, hl, hs], World.ownsRow_nil w 0 e sz, fun i el h => by simp at h, fun i j el c u h => by simp at h, by simp⟩
        | box => exact hok.elim
        | raw => exact hok.elim
        | iter => exact hok.elim
        | gen => exact hok.elim
      | nm s =>
        rw [hs] at hok
        obtain ⟨_, hok⟩ := hok
        have hhd : convHd θ M hd r = hd s := by simp [convHd, hmr, hl, hs]
        have hbs := hi.blocks s
        cases hb' : L.blk s with
        | none => rw [hb'] at hok; exact hok.elim
        | some b' =>
          rw [hb'] at hok hbs
          simp only at hok
          cases b' with
          | box ty cs =>
            cases b <;> simp only [leB] at hok
            obtain ⟨rfl, hok⟩ := hok
            obtain ⟨k, arr, h1, h2, h3, h4, h5⟩ := hbs
            obtain ⟨i1, i2⟩ := leL_rep (M := M) (cs := arr.toList) hi.blocks hok (fun j c v h6 h7 => h4 j c v h6 (by simpa using h7))
            exact ⟨k, arr, hhd.trans h1, h2, by rw [h3, i1], fun j c v h6 h7 => i2 j c v h6 (by simpa using h7), h5⟩
          | row e sz es =>
            cases b <;> simp only [leB] at hok
            obtain ⟨rfl, rfl, rfl⟩ := hok
            obtain ⟨v, cells, h1, h2, h3, h4, h5⟩ := hbs
            exact ⟨v, cells, hhd.trans h1, h2, h3, fun i j el c u a1 a2 a3 => (h4 i j el c u a1 a2 a3).mono (fun _ _ => rfl) (fun _ h => .inl h), h5⟩
          | raw Q =>
            cases b <;> simp only [leB] at hok
            obtain ⟨k, o, h1, h2, h4⟩ := hbs
            exact ⟨k, o, hhd.trans h1, h2, hok _ h4⟩
          | iter Q =>
            cases b <;> simp only [leB] at hok
            obtain ⟨k, o, b, ob, h1, h2, h3, h4, h5⟩ := hbs
            exact ⟨k, o, b, ob, hhd.trans h1, h2, .inl h3, h4, hok _ _ _ h5⟩
          | gen Q =>
            cases b <;> simp only [leB] at hok
            obtain ⟨k, o, h1, h2, h4⟩ := hbs
            exact ⟨k, o, hhd.trans h1, h2, fun w2 F2 e1 e2 => hok _ _ _ (h4 w2 F2 (fun k hk => e1 k (.inl hk)) (fun k hk => e2 k (.inl hk)))⟩
  · obtain ⟨s, b, hm, hs, _, ho, _⟩ := hown r k h1
    obtain ⟨s', b', hm', hs', _, ho', _⟩ := hown r' k h2
    by_cases e : s = s'
    · subst e; exact hne (srcs_inj hnd hm hm' hs hs')
    · exact hi.sep s s' k e ho ho'
  · obtain ⟨s, b, hm, hs, _, ho, hmem⟩ := hown r k hk
    obtain ⟨q1, q2, q3⟩ := hi.mine s k ho
    refine ⟨?_, q2, q3⟩
    rintro (h | ⟨s', hn, hs'⟩)
    · exact q1 h
    · exact hi.sep s s' k (fun e => hn (e ▸ hmem)) ho hs'
  · rcases hk with h | ⟨s, _, ho⟩
    · exact hi.fin k h
    · exact ⟨(hi.mine s k ho).2.1, .inr (hi.mine s k ho).2.2⟩
  · have hok := convH_get (.arg i) hH
    have hmr : M.blk (.arg i) = lkH M.H (.arg i) := rfl
    cases hl : lkH M.H (.arg i) with
    | none => right; simp [convHd, hmr, hl]
    | some b =>
      rw [hl] at hok
      simp only [blkOk] at hok
      cases hs : srcOf θ (.arg i) with
      | nil => rw [hs] at hok; simp [isArg] at hok
      | nm s =>
        rw [hs] at hok
        have e := hok.1 rfl
        subst e
        have : convHd θ M hd (.arg i) = hd (.arg i) := by simp [convHd, hmr, hl, hs]
        rw [this]
        exact hi.kept i
theorem go_to {C : Ctx} {todo : List Item} {L M : LS} (θ : List (Nm × Src)) (h : Go C (.top todo M)) (hk : conv θ L M) : Go C (.top todo L) := by
  intro hd F a w hi cs
  exact h _ _ a w (hi.conv hk) cs
theorem go_len {C : Ctx} {todo : List Item} {L : LS} (t sz : Nat) (es : List (List PV)) (ht : L.get t = .pv (.ro sz es)) (h : es.length ≤ 9223372036854775807 → Go C (.top todo L)) : Go C (.top todo L) := by
  intro hd F a w hi cs
  have hs := hi.slots t
  rw [ht] at hs
  generalize a.tmps.getD t undef = v at hs
  cases hs with
  | pv _ _ hp => cases hp with
    | ro _ _ A cap u hA hc hm => exact h hm hd F a w hi cs

/-! ### loops, and ways that meet again -/
theorem go_loop {C : Ctx} {ι : Type} (I : ι → LS) (μ : ι → Nat) {c : Code} {k : List Item} {L : LS} (x0 : ι) (θ : List (Nm × Src)) (h0 : conv θ L (I x0))
    (round : ∀ x, (∀ y, μ y < μ x → Go C (.top (.inLoop c :: k) (I y))) → Go C (.top (.code c :: .inLoop c :: k) (I x))) : Go C (.top (.code (.loop c) :: k) L) := by
  have key : ∀ m x, μ x = m → Go C (.top (.code c :: .inLoop c :: k) (I x)) := by
    intro m
    induction m using Nat.strongRecOn with
    | _ m ih =>
      intro x hx
      refine round x fun y hy => ?_
      exact go_inLoop (ih (μ y) (hx ▸ hy) y rfl)
  exact go_loopIn (go_to θ (key _ x0 rfl) h0)
theorem go_first {C : Ctx} {c : Code} {k : List Item} {L : LS} (h : Go C (.top (.code c :: .inLoop c :: k) L)) : Go C (.top (.code (.loop c) :: k) L) := go_loopIn h
theorem go_again {C : Ctx} {c : Code} {k : List Item} {L : LS} (h : Go C (.top (.code c :: .inLoop c :: k) L)) : Go C (.top (.inLoop c :: k) L) := go_inLoop h
theorem go_cut {C : Ctx} {ι : Type} (J : ι → LS) {x y : Code} {k : List Item} {L : LS} (hB : ∀ z, Go C (.top (.code y :: k) (J z))) (hA : (∀ z, Go C (.top (.code y :: k) (J z))) → Go C (.top (.code x :: .code y :: k) L)) : Go C (.top (.code (.seq x y) :: k) L) :=
  go_seq (hA hB)

end Go.Abs
/-
  CONTRACTS FROM ELSEWHERE: what is known of a function as the library's shelf says it.
-/
set_option linter.unusedVariables false
set_option linter.unusedSimpArgs false
namespace Go.Abs
open Go.RowKit

theorem dead_of {w : World} {F : Nat → Prop} {hd : Nm → Hd} (h : Lies w F hd (keyed 0 [])) (r : Nm) : hd r = .dead := h.holds r
/-- A function whose call hands on no block, and leaves what was there as it was. -/
theorem fun_shelf {P : Program} {Gl : Granted} {g : FuncId} {args : List AV} {v : AV} (hfn : ∃ fng, P.funcs[g]? = some fng ∧ (fng.name == "runtime.NumGoroutine") = false ∧ fng.body.isNone = false)
    (h : ∀ (w : World) (F : Nat → Prop) (cargs : List Value), Gl.p w F → (∀ k, F k → k < w.heap.size) → cargs.length = args.length → (∀ (j : Nat) (x : AV) (c : Value), args[j]? = some x → cargs[j]? = some c → Rep w F (fun _ => .dead) x c) →
      Calls P g cargs.toArray w fun e w' => ∃ cv, e = .returned cv ∧ Rep w' F (fun _ => .dead) v cv ∧ Below w.heap.size w w') : Fun P Gl g args [] v [] := by
  refine ⟨hfn, fun w0 F0 hd0 cargs hg hl hlen hr => ?_⟩
  have hd : hd0 = fun _ => .dead := funext fun r => dead_of hl r
  subst hd
  refine (h w0 F0 cargs hg hl.fin hlen hr).mono fun e w' he => ?_
  obtain ⟨cv, rfl, hrep, hb⟩ := he
  exact ⟨cv, F0, _, rfl, hrep, ⟨fun k hk => Nat.lt_of_lt_of_le (hl.fin k hk) hb.size, fun r s k _ h => h.elim, fun r k h => h.elim, fun r => rfl⟩,
    ⟨fun r k h => h.elim, fun k hk => .inl hk, fun k hk => hk, fun i => .inl rfl, hb.os, hb.tape, hb.output, hb.size, fun k hk _ => hb.block k hk⟩⟩
/-- .. its arguments and its answer plain values. -/
theorem fun_vals {P : Program} {Gl : Granted} {g : FuncId} (args : List Value) (r : Value) (hfn : ∃ fng, P.funcs[g]? = some fng ∧ (fng.name == "runtime.NumGoroutine") = false ∧ fng.body.isNone = false) (hr : r.oneCell' = true)
    (h : ∀ w, Calls P g args.toArray w fun e w' => e = .returned r ∧ Below w.heap.size w w') : Fun P Gl g (args.map fun v => .pv (.val v)) [] (.pv (.val r)) [] := by
  refine fun_shelf hfn fun w F cargs _ _ hlen hreps => ?_
  have : cargs = args := by
    rw [List.length_map] at hlen
    apply List.ext_getElem?
    intro j
    by_cases hj : j < args.length
    · have hj' : j < cargs.length := by omega
      have := hreps j (.pv (.val args[j])) cargs[j] (by simp [hj]) (List.getElem?_eq_getElem hj')
      rw [List.getElem?_eq_getElem hj', List.getElem?_eq_getElem hj, bool_of this]
    · rw [List.getElem?_eq_none (by omega), List.getElem?_eq_none (by omega)]
  subst this
  exact (h w).mono fun e w' ⟨he, hb⟩ => ⟨r, he, .pv _ _ (.val r hr), hb⟩

end Go.Abs
