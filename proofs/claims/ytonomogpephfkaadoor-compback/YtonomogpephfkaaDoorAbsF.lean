/-
  WHAT ONE OPERATION DOES to the abstract memory: the general laws.
-/
import Derived.Test.YtonomogpephfkaaDoorAbsC
set_option linter.unusedVariables false
set_option linter.unusedSimpArgs false
namespace Go.Abs
open Go.RowKit

/-- Blocks are turned, made, or go. -/
theorem inv_upd {C : Ctx} {L : LS} {hd : Nm → Hd} {F : Nat → Prop} {a : Act} {w w' : World} (hi : Inv C L hd F a w) (ups : List (Nm × Option Blk)) (hd' : Nm → Hd) (wr : Nat → Prop)
    (hos : w'.os = w.os) (htape : w'.tape = w.tape) (hout : w'.output = w.output) (hsize : w.heap.size ≤ w'.heap.size)
    (hsame : ∀ k, k < w.heap.size → ¬ wr k → w'.heap[k]? = w.heap[k]?) (hown : ∀ k, wr k → ∃ r, (hd r).owns k)
    (hstay : ∀ s, s ∉ ups.map (·.1) → hd' s = hd s ∧ ∀ k, (hd s).owns k → ¬ wr k) (hups : ∀ s b, upsGet ups s = some b → HoldB w' F hd' s b)
    (hment : ∀ s, s ∈ ups.map (·.1) → hd' s = hd s ∨ hd' s = .dead ∨ (L.Fresh s ∧ ∀ i, s ≠ .arg i))
    (hsep : ∀ r s k, r ≠ s → (hd' r).owns k → ¬ (hd' s).owns k) (hmine : ∀ r k, (hd' r).owns k → ((∃ s, (hd s).owns k) ∨ w.heap.size ≤ k) ∧ k < w'.heap.size) : Inv C (L.upd ups) hd' F a w' := by
  have hF : ∀ k, F k → w'.heap[k]? = w.heap[k]? := fun k hk => hsame k (hi.fin k hk).1 fun hw => by
    obtain ⟨r, hr⟩ := hown k hw
    exact (hi.mine r k hr).1 hk
  have href : ∀ s, ¬ L.Fresh s → hd' s = hd s ∨ hd' s = .dead := fun s hs => by
    by_cases hm : s ∈ ups.map (·.1)
    · rcases hment s hm with h | h | h
      · exact .inl h
      · exact .inr h
      · exact absurd h.1 hs
    · exact .inl (hstay s hm).1
  refine { slots := fun t => ?_, blocks := fun r => ?_, sep := hsep, mine := fun r k hk => ?_, fin := fun k hk => ?_, more := hi.more, kept := fun i => ?_, gl := C.Gl.mono hi.gl hF (fun _ h => h), os := hos.trans hi.os, tape := htape.trans hi.tape, output := hout.trans hi.output, size := Nat.le_trans hi.size hsize, old := fun k hk hm => ?_, ntmps := hi.ntmps, defers := hi.defers }
  · have : (L.upd ups).get t = L.get t := by simp [LS.get, upd_blk]
    rw [this]
    exact (hi.slots t).mono hF (fun _ h => h) fun r hr => href r fun hf => hf.1 t hr
  · rw [upd_get]
    by_cases hr : r ∈ ups.map (·.1)
    · cases hu : upsGet ups r with
      | none =>
        exfalso
        clear hups hment hstay
        induction ups with
        | nil => simp at hr
        | cons x l ih =>
          obtain ⟨k, b⟩ := x
          simp only [upsGet] at hu
          cases hl : upsGet l r with
          | some y => rw [hl] at hu; cases hu
          | none =>
            rw [hl] at hu
            by_cases hk : k = r
            · simp [hk] at hu
            · rcases List.mem_cons.1 hr with h | h
              · exact hk h.symm
              · exact ih h hl
      | some b => exact hups r b hu
    · rw [upsGet_none hr]
      simp only [Option.getD_none]
      obtain ⟨h1, h2⟩ := hstay r hr
      refine (hi.blocks r).mono hF (fun _ h => h) h1 (fun k hk => hsame k (hi.mine r k hk).2.1 (h2 k hk)) fun c hc s hs => href s fun hf => hf.2 r c hc hs
  · obtain ⟨h1, h2⟩ := hmine r k hk
    rcases h1 with ⟨s, hs⟩ | h1
    · obtain ⟨q1, q2, q3⟩ := hi.mine s k hs
      exact ⟨q1, h2, q3⟩
    · exact ⟨fun hk' => by have := (hi.fin k hk').1; omega, h2, .inl (Nat.le_trans hi.size h1)⟩
  · obtain ⟨q1, q2⟩ := hi.fin k hk
    exact ⟨by omega, q2⟩
  · have : hd' (.arg i) = hd (.arg i) ∨ hd' (.arg i) = .dead := by
      by_cases hm : Nm.arg i ∈ ups.map (·.1)
      · rcases hment _ hm with h | h | h
        · exact .inl h
        · exact .inr h
        · exact absurd rfl (h.2 i)
      · exact .inl (hstay _ hm).1
    rcases this with e | e
    · rw [e]; exact hi.kept i
    · exact .inr e
  · rw [← hi.old k hk hm]
    refine hsame k (Nat.lt_of_lt_of_le hk hi.size) fun hw => ?_
    obtain ⟨r, hr⟩ := hown k hw
    rcases (hi.mine r k hr).2.2 with h | h
    · omega
    · exact hm h

/-- From the run of an operation to what it may be taken to do. -/
theorem sem1_of {C : Ctx} {o : Oper} {ev : Operand → AV} {fp : List (Nm × Blk)} {A : Actn} (hdst : ∀ d, o.dst = some d → d < C.fn.ntmps)
    (h : ∀ (L : LS) (hd : Nm → Hd) (F : Nat → Prop) (a : Act) (w : World), (∀ x ∈ o.op.operands.toList, Rep w F hd (ev x) (a.eval x)) → (∀ p ∈ fp, L.blk p.1 = some p.2) → (∀ r ∈ news fp A.ups, L.blk r = none ∧ L.Fresh r) → Inv C L hd F a w →
      ∃ v w' hd' F', ((execOp a.eval o).run C.P w = .ok (.value v) w' ∨ ((execOp a.eval o).run C.P w = .ok .skip w' ∧ v = undef)) ∧ Inv C (L.upd A.ups) hd' F' a w' ∧ Rep w' F' hd' A.v v) : Sem1 C o ev fp A := by
  intro L hd F a w h1 h2 h3 hi K Q hK
  obtain ⟨v, w', hd', F', hrun, hinv, hrep⟩ := h L hd F a w (fun x hx => by rw [← h1 x hx]; exact ev_rep hi x) h2 h3 hi
  have hput : Inv C (L.app o.dst A) hd' F' (a.put o.dst v) w' := hinv.put o.dst hrep hdst
  unfold Oper.wp
  rcases hrun with hrun | ⟨hrun, rfl⟩
  · rw [hrun]; exact hK _ _ _ _ hput
  · rw [hrun]; exact hK _ _ _ _ hput

/-- An operation that only reads. -/
theorem sem1_read {C : Ctx} {o : Oper} {ev : Operand → AV} {fp : List (Nm × Blk)} {x : AV} (hdst : ∀ d, o.dst = some d → d < C.fn.ntmps)
    (h : ∀ (L : LS) (hd : Nm → Hd) (F : Nat → Prop) (a : Act) (w : World), (∀ y ∈ o.op.operands.toList, Rep w F hd (ev y) (a.eval y)) → (∀ p ∈ fp, L.blk p.1 = some p.2) → Inv C L hd F a w →
      ∃ v, (execOp a.eval o).run C.P w = .ok (.value v) w ∧ Rep w F hd x v) : Sem1 C o ev fp ⟨x, []⟩ :=
  sem1_of hdst fun L hd F a w h1 h2 _ hi => by
    obtain ⟨v, hr, hx⟩ := h L hd F a w h1 h2 hi
    exact ⟨v, w, hd, F, .inl hr, hi, hx⟩

/-- What the evaluator answers of an operation. -/
inductive SR where
  | act (fp : List (Nm × Blk)) (A : Actn) (p : Prop)
  | stop
def SRok (C : Ctx) (o : Oper) (L : LS) : SR → Prop
  | .act fp A p => p → Sem1 C o L.ev fp A ∧ (∀ q ∈ fp, L.blk q.1 = some q.2) ∧ ∀ r ∈ news fp A.ups, L.blk r = none ∧ L.Fresh r ∧ r ∈ mayMake1 o
  | .stop => True
theorem SRok.read {C : Ctx} {o : Oper} {L : LS} {x : AV} {p : Prop} (h : p → Sem1 C o L.ev [] ⟨x, []⟩) : SRok C o L (.act [] ⟨x, []⟩ p) := fun hp => ⟨h hp, by simp, by simp [news]⟩
theorem SRok.read1 {C : Ctx} {o : Oper} {L : LS} {x : AV} {p : Prop} {r : Nm} {b : Blk} (hb : L.blk r = some b) (h : p → Sem1 C o L.ev [(r, b)] ⟨x, []⟩) : SRok C o L (.act [(r, b)] ⟨x, []⟩ p) :=
  fun hp => ⟨h hp, by simpa using hb, by simp [news]⟩

theorem rep_val {w : World} {F : Nat → Prop} {hd : Nm → Hd} {u : Value} (h : u.oneCell' = true) : Rep w F hd (.pv (.val u)) u := .pv _ _ (.val u h)

/-! ### moves -/
def stMove (L : LS) (x : Operand) : SR := .act [] ⟨L.ev x, []⟩ True
theorem stMove_ok {C : Ctx} {o : Oper} {L : LS} {x : Operand} (hdst : ∀ d, o.dst = some d → d < C.fn.ntmps) (ho : o.op = .move x ∨ o.op = .assign x) : SRok C o L (stMove L x) := by
  refine .read fun _ => sem1_read hdst fun L' hd F a w hev _ hi => ⟨a.eval x, ?_, hev x ?_⟩
  · rcases ho with h | h <;> simp [execOp, h]
  · rcases ho with h | h <;> simp [h, Op.operands]

def stPick (L : LS) (c x y : Operand) : SR := match L.ev c with
  | .pv (.val (.bool true)) => .act [] ⟨L.ev x, []⟩ True
  | .pv (.val (.bool false)) => .act [] ⟨L.ev y, []⟩ True
  | _ => .stop
theorem stPick_ok {C : Ctx} {o : Oper} {L : LS} {c x y : Operand} (hdst : ∀ d, o.dst = some d → d < C.fn.ntmps) (ho : o.op = .pick c x y) : SRok C o L (stPick L c x y) := by
  unfold stPick
  split
  · rename_i hc
    refine .read fun _ => sem1_read hdst fun L' hd F a w hev _ hi => ⟨a.eval x, ?_, hev x (by simp [ho, Op.operands])⟩
    have := hev c (by simp [ho, Op.operands])
    rw [hc] at this
    simp [execOp, ho, bool_of this, asBool]
  · rename_i hc
    refine .read fun _ => sem1_read hdst fun L' hd F a w hev _ hi => ⟨a.eval y, ?_, hev y (by simp [ho, Op.operands])⟩
    have := hev c (by simp [ho, Op.operands])
    rw [hc] at this
    simp [execOp, ho, bool_of this, asBool]
  · trivial

/-! ### numbers, texts, bools -/
/-- Go's own wrap, under a name that nothing opens. -/
@[irreducible] def wr (k : IntKind) (n : Int) : Int := k.wrap n
theorem wr_eq (k : IntKind) (n : Int) : wr k n = k.wrap n := by unfold wr; rfl
@[irreducible] def bw (op : BinOp) (k : IntKind) (x y : Int) : Int := k.wrap (match op with
  | .and => (BitVec.ofInt k.bits x &&& BitVec.ofInt k.bits y).toNat
  | .or => (BitVec.ofInt k.bits x ||| BitVec.ofInt k.bits y).toNat
  | .xor => (BitVec.ofInt k.bits x ^^^ BitVec.ofInt k.bits y).toNat
  | _ => (BitVec.ofInt k.bits x &&& ~~~(BitVec.ofInt k.bits y)).toNat : Nat)
theorem bw_eq (op : BinOp) (k : IntKind) (x y : Int) : bw op k x y = k.wrap (match op with
  | .and => (BitVec.ofInt k.bits x &&& BitVec.ofInt k.bits y).toNat
  | .or => (BitVec.ofInt k.bits x ||| BitVec.ofInt k.bits y).toNat
  | .xor => (BitVec.ofInt k.bits x ^^^ BitVec.ofInt k.bits y).toNat
  | _ => (BitVec.ofInt k.bits x &&& ~~~(BitVec.ofInt k.bits y)).toNat : Nat) := by unfold bw; rfl

def abin (op : BinOp) (x y : Value) : Option (Value × Prop) := match x, y with
  | .int k a, .int k' b => if k = k' then match op with
      | .add => some (.int k (wr k (a + b)), True)
      | .sub => some (.int k (wr k (a - b)), True)
      | .mul => some (.int k (wr k (a * b)), True)
      | .quo => some (.int k (wr k (a.tdiv b)), b ≠ 0)
      | .rem => some (.int k (a.tmod b), b ≠ 0)
      | .and => some (.int k (bw .and k a b), True)
      | .or => some (.int k (bw .or k a b), True)
      | .xor => some (.int k (bw .xor k a b), True)
      | .andNot => some (.int k (bw .andNot k a b), True)
      | .eql => some (.bool (decide (a = b)), True)
      | .neq => some (.bool (!decide (a = b)), True)
      | .lss => some (.bool (decide (a < b)), True)
      | .leq => some (.bool (decide (a ≤ b)), True)
      | .gtr => some (.bool (decide (a > b)), True)
      | .geq => some (.bool (decide (a ≥ b)), True)
      | _ => none
    else none
  | .string a, .string b => match op with
      | .add => some (.string (a ++ b), a.size + b.size ≤ 9223372036854775807)
      | .eql => some (.bool (decide (a = b)), True)
      | .neq => some (.bool (!decide (a = b)), True)
      | .lss => some (.bool (Op.bytesLess a.toList b.toList), True)
      | .leq => some (.bool (Op.bytesLess a.toList b.toList || decide (a = b)), True)
      | .gtr => some (.bool (!(Op.bytesLess a.toList b.toList || decide (a = b))), True)
      | .geq => some (.bool (!(Op.bytesLess a.toList b.toList)), True)
      | _ => none
  | _, _ => none
theorem beq_toList (a b : ByteArray) : (a.toList == b.toList) = decide (a = b) := by
  by_cases h : a = b
  · subst h; simp
  · have : ¬ a.toList = b.toList := fun e => h (by
      rw [ByteArray.toList_eq, ByteArray.toList_eq] at e
      cases a; cases b; congr 1; exact Array.toList_inj.1 e)
    simp [h, this]
theorem beq_int (a b : Int) : (a == b) = decide (a = b) := rfl
theorem bne_int (a b : Int) : (a != b) = !decide (a = b) := rfl
theorem abin_ok {P : Program} {op : BinOp} {t : TypeId} {x y : Operand} {u v r : Value} {p : Prop} (h : abin op u v = some (r, p)) (hp : p) (w : World) :
    (do eqGuard op t x y u v; binOp op t u v).run P w = .ok r w ∧ r.oneCell' = true := by
  cases u <;> cases v <;> simp only [abin, reduceCtorEq] at h
  · rename_i k a k' b
    by_cases hk : k = k'
    · subst hk
      simp only [if_true] at h
      rw [eqGuard_at_int]
      cases op <;> simp only [reduceCtorEq, Option.some.injEq, Prod.mk.injEq] at h <;> obtain ⟨rfl, rfl⟩ := h <;>
        (try simp only [wr_eq, bw_eq]) <;> first
          | (simp [binOp, Op.intCmp, Value.oneCell', beq_int, bne_int]; done)
          | (simp [binOp, Op.intCmp, Value.oneCell']; rfl)
          | (simp [binOp, Op.intArith, Value.oneCell']; done)
          | (simp [binOp, Op.intDiv, Value.oneCell', hp]; done)
          | (simp [binOp, Op.intBits, Value.oneCell']; done)
    · simp [hk] at h
  · rename_i a b
    rw [eqGuard_at_string]
    cases op <;> simp only [reduceCtorEq, Option.some.injEq, Prod.mk.injEq] at h <;> obtain ⟨rfl, rfl⟩ := h
    · have : ¬ (((a.size + b.size : Nat) : Int) > 9223372036854775807) := by omega
      simp only [binOp, Op.stringOp, pure_bind, IntKind.max_i64, if_neg this]
      simp [Value.oneCell']
    all_goals simp [binOp, Op.stringOp, Value.oneCell', beq_toList]
def isBoolT (T : TT) (t : Nat) : Bool := match lkT T t with
  | some i => match i.und with | .bool => true | _ => false
  | none => false
theorem run_equalIn_bool {P : Program} (d : Nat) {t : Nat} (hu : P.underlying t = some .bool) (a b : Bool) (w : World) : (Op.equalIn (d + 1) t (.bool a) (.bool b)).run P w = .ok (a == b) w := by
  rw [Op.equalIn]
  simp [run_underlying hu]
theorem run_equal_bool {P : Program} {T : TT} (hT : TOk P T) {t : Nat} (h : isBoolT T t = true) (a b : Bool) (w : World) : (Op.equal t (.bool a) (.bool b)).run P w = .ok (a == b) w := by
  unfold isBoolT at h
  cases hl : lkT T t with
  | none => rw [hl] at h; cases h
  | some i =>
    rw [hl] at h
    dsimp only at h
    have hu := (lkT_ok hT hl).und
    cases hi : i.und <;> rw [hi] at h hu <;> simp only [Bool.false_eq_true] at h
    exact run_equalIn_bool 9999 hu a b w
def stBin (T : TT) (L : LS) (op : BinOp) (t : Nat) (x y : Operand) : SR := match L.ev x, L.ev y with
  | .pv (.val (.bool a)), .pv (.val (.bool b)) => if isBoolT T t = true then match op with
    | .eql => .act [] ⟨.pv (.val (.bool (a == b))), []⟩ True
    | .neq => .act [] ⟨.pv (.val (.bool (!(a == b)))), []⟩ True
    | _ => .stop
    else .stop
  | .pv (.val u), .pv (.val v) => match abin op u v with
    | some (r, p) => .act [] ⟨.pv (.val r), []⟩ p
    | none => .stop
  | _, _ => .stop
theorem stBin_ok {C : Ctx} {T : TT} (hT : TOk C.P T) {o : Oper} {L : LS} {op : BinOp} {t ty : TypeId} {x y : Operand} (hdst : ∀ d, o.dst = some d → d < C.fn.ntmps) (ho : o.op = .binOp op t x y ty) : SRok C o L (stBin T L op t x y) := by
  unfold stBin
  split
  · rename_i p q hx hy
    split
    · rename_i hbt
      have hb := run_equal_bool hT hbt
      have key : ∀ (op' : BinOp) (r : Bool), op = op' → (∀ w, (eqGuard op' t x y (.bool p) (.bool q)).run C.P w = .ok () w) → (∀ w, (binOp op' t (.bool p) (.bool q)).run C.P w = .ok (.bool r) w) → SRok C o L (.act [] ⟨.pv (.val (.bool r)), []⟩ True) := by
        intro op' r he hg hrun
        subst he
        refine .read fun _ => sem1_read hdst fun L' hd F a w hev _ hi => ⟨_, ?_, rep_val rfl⟩
        have h1 := hev x (by simp [ho, Op.operands])
        have h2 := hev y (by simp [ho, Op.operands])
        rw [hx] at h1
        rw [hy] at h2
        simp [execOp, ho, bool_of h1, bool_of h2, hg w, hrun w]
      split
      · exact key .eql _ rfl (fun w => by rw [eqGuard_at_bool]; rfl) fun w => by simp [binOp, hb]
      · exact key .neq _ rfl (fun w => by rw [eqGuard_at_bool]; rfl) fun w => by simp [binOp, hb]
      · trivial
    · trivial
  · rename_i u v _ hx hy
    split
    · rename_i r p he
      refine .read fun hp => sem1_read hdst fun L' hd F a w hev _ hi => ?_
      have h1 := hev x (by simp [ho, Op.operands])
      have h2 := hev y (by simp [ho, Op.operands])
      rw [hx] at h1
      rw [hy] at h2
      obtain ⟨q1, q2⟩ := abin_ok (P := C.P) (t := t) (x := x) (y := y) he hp w
      refine ⟨r, ?_, rep_val q2⟩
      simp only [execOp, ho, bool_of h1, bool_of h2, Sem.run_bind] at q1 ⊢
      rw [q1]
      rfl
    · trivial
  · trivial

def stUn (L : LS) (op : UnOp) (x : Operand) : SR := match L.ev x, op with
  | .pv (.val (.bool a)), .not => .act [] ⟨.pv (.val (.bool (!a))), []⟩ True
  | .pv (.val (.int k n)), .neg => .act [] ⟨.pv (.val (.int k (wr k (0 - n)))), []⟩ True
  | _, _ => .stop
theorem stUn_ok {C : Ctx} {o : Oper} {L : LS} {op : UnOp} {t : TypeId} {x : Operand} (hdst : ∀ d, o.dst = some d → d < C.fn.ntmps) (ho : o.op = .unOp op t x) : SRok C o L (stUn L op x) := by
  unfold stUn
  split
  · rename_i hx
    refine .read fun _ => sem1_read hdst fun L' hd F a w hev _ hi => ⟨_, ?_, rep_val rfl⟩
    have h1 := hev x (by simp [ho, Op.operands])
    rw [hx] at h1
    simp [execOp, ho, bool_of h1, Op.unary]
  · rename_i hx
    refine .read fun _ => sem1_read hdst fun L' hd F a w hev _ hi => ⟨_, ?_, rep_val rfl⟩
    have h1 := hev x (by simp [ho, Op.operands])
    rw [hx] at h1
    simp [execOp, ho, bool_of h1, Op.unary, Op.intArith, wr_eq]
  · trivial

/-! ### types, looked up -/
def sliceE (T : TT) (t : Nat) : Option Nat := match lkT T t with
  | some i => match i.und with | .slice e => some e | _ => none
  | none => none
theorem sliceE_ok {P : Program} {T : TT} (hT : TOk P T) {t e : Nat} (h : sliceE T t = some e) : P.underlying t = some (.slice e) := by
  unfold sliceE at h
  cases hl : lkT T t with
  | none => rw [hl] at h; cases h
  | some i =>
    rw [hl] at h
    dsimp only at h
    have hu := (lkT_ok hT hl).und
    cases hi : i.und <;> rw [hi] at h hu <;> simp only [Option.some.injEq, reduceCtorEq] at h
    subst h
    exact hu
def intK (T : TT) (t : Nat) : Option IntKind := match lkT T t with
  | some i => match i.und with | .int k => some k | _ => none
  | none => none
theorem intK_ok {P : Program} {T : TT} (hT : TOk P T) {t : Nat} {k : IntKind} (h : intK T t = some k) : P.underlying t = some (.int k) := by
  unfold intK at h
  cases hl : lkT T t with
  | none => rw [hl] at h; cases h
  | some i =>
    rw [hl] at h
    dsimp only at h
    have hu := (lkT_ok hT hl).und
    cases hi : i.und <;> rw [hi] at h hu <;> simp only [Option.some.injEq, reduceCtorEq] at h
    subst h
    exact hu
def isStrT (T : TT) (t : Nat) : Bool := match lkT T t with
  | some i => match i.und with | .string => true | _ => false
  | none => false
theorem isStrT_ok {P : Program} {T : TT} (hT : TOk P T) {t : Nat} (h : isStrT T t = true) : P.underlying t = some .string := by
  unfold isStrT at h
  cases hl : lkT T t with
  | none => rw [hl] at h; cases h
  | some i =>
    rw [hl] at h
    dsimp only at h
    have hu := (lkT_ok hT hl).und
    cases hi : i.und <;> rw [hi] at h hu <;> simp only [Bool.false_eq_true] at h
    exact hu
/-- A field: where it begins, its type. -/
def fieldT (T : TT) (t f : Nat) : Option (Nat × Nat) := match lkT T t with
  | some i => match i.und with | .str fs => fs[f]? | _ => none
  | none => none
theorem fieldT_ok {P : Program} {T : TT} (hT : TOk P T) {t f off ty : Nat} (h : fieldT T t f = some (off, ty)) : ∃ d fd, P.underlying t = some (.struct d) ∧ d[f]? = some fd ∧ fd.offset = off ∧ fd.type = ty := by
  unfold fieldT at h
  cases hl : lkT T t with
  | none => rw [hl] at h; cases h
  | some i =>
    rw [hl] at h
    dsimp only at h
    have hu := (lkT_ok hT hl).und
    cases hi : i.und <;> rw [hi] at h hu <;> simp only [reduceCtorEq] at h
    obtain ⟨d, h1, h2⟩ := hu
    rw [← h2, List.getElem?_map] at h
    cases hd : d.toList[f]? with
    | none => rw [hd] at h; cases h
    | some fd =>
      rw [hd] at h
      simp only [Option.map_some, Option.some.injEq, Prod.mk.injEq] at h
      exact ⟨d, fd, h1, by simpa using hd, h.1, h.2⟩
theorem sizeOf_ok {P : Program} {T : TT} (hT : TOk P T) {t : Nat} {i : TI} (h : lkT T t = some i) (w : World) : (sizeOf t).run P w = .ok i.size w := by
  obtain ⟨inf, z, h1, h2, _⟩ := (lkT_ok hT h).info
  simp [sizeOf, typeInfo, h1, h2]

/-! ### conversions of numbers -/
def stConv (T : TT) (L : LS) (s d : Nat) (x : Operand) : SR := match L.ev x with
  | .pv (.val (.int _ n)) => match intK T s with
    | some _ => match intK T d with
      | some k => .act [] ⟨.pv (.val (.int k (wr k n))), []⟩ True
      | none => if isStrT T d = true then .act [] ⟨.pv (.val (.string (Utf8.encode n))), []⟩ True else .stop
    | none => .stop
  | .pv (.val (.string u)) => if isStrT T s = true then (if isStrT T d = true then .act [] ⟨.pv (.val (.string u)), []⟩ True else .stop) else .stop
  | _ => .stop
theorem stConv_ok {C : Ctx} {T : TT} (hT : TOk C.P T) {o : Oper} {L : LS} {s d : TypeId} {x : Operand} (hdst : ∀ d, o.dst = some d → d < C.fn.ntmps) (ho : o.op = .convert s d x) : SRok C o L (stConv T L s d x) := by
  unfold stConv
  split
  · rename_i hx
    split
    · rename_i k' h1
      split
      · rename_i k h2
        refine .read fun _ => sem1_read hdst fun L' hd F a w hev _ hi => ⟨_, ?_, rep_val rfl⟩
        have h3 := hev x (by simp [ho, Op.operands])
        rw [hx] at h3
        simp [execOp, ho, bool_of h3, convert, run_underlying (intK_ok hT h1), run_underlying (intK_ok hT h2), Conv.intToInt, wr_eq]
      · split
        · rename_i h2
          refine .read fun _ => sem1_read hdst fun L' hd F a w hev _ hi => ⟨_, ?_, rep_val rfl⟩
          have h3 := hev x (by simp [ho, Op.operands])
          rw [hx] at h3
          simp [execOp, ho, bool_of h3, convert, run_underlying (intK_ok hT h1), run_underlying (isStrT_ok hT h2), Conv.intToString]
        · trivial
    · trivial
  · rename_i hx
    split
    · rename_i h1
      split
      · rename_i h2
        refine .read fun _ => sem1_read hdst fun L' hd F a w hev _ hi => ⟨_, ?_, rep_val rfl⟩
        have h3 := hev x (by simp [ho, Op.operands])
        rw [hx] at h3
        simp [execOp, ho, bool_of h3, convert, run_underlying (isStrT_ok hT h1), run_underlying (isStrT_ok hT h2)]
      · trivial
    · trivial
  · trivial

end Go.Abs
/-
  WHAT ONE OPERATION DOES to the abstract memory: variables, fields, elements, rows.
-/
set_option linter.unusedVariables false
set_option linter.unusedSimpArgs false
namespace Go.Abs
open Go.RowKit

/-- The cells of a value. -/
def AV.cellsOf : AV → Option (List AV)
  | .agg l => some l
  | .tup _ => none
  | .any => none
  | x => some [x]
theorem cellsOf_rep {w : World} {F : Nat → Prop} {hd : Nm → Hd} {x : AV} {v : Value} (h : Rep w F hd x v) {l : List AV} (hl : x.cellsOf = some l) :
    v.cells.size = l.length ∧ (∀ (j : Nat) (c : AV) (u : Value), l[j]? = some c → v.cells[j]? = some u → Rep w F hd c u) ∧ ∀ u ∈ v.cells.toList, u.oneCell' = true := by
  have one : ∀ (x : AV) (v : Value), Rep w F hd x v → v.oneCell' = true → v.cells.size = [x].length ∧ (∀ (j : Nat) (c : AV) (u : Value), [x][j]? = some c → v.cells[j]? = some u → Rep w F hd c u) ∧ ∀ u ∈ v.cells.toList, u.oneCell' = true := by
    intro x v h h1
    have : v.cells = #[v] := by cases v <;> first | rfl | simp [Value.oneCell'] at h1
    rw [this]
    refine ⟨rfl, fun j c u hj hu => ?_, by simp [h1]⟩
    cases j with
    | zero => simp at hj hu; subst hj hu; exact h
    | succ j => simp at hj
  cases h with
  | pv p v hp => simp only [AV.cellsOf, Option.some.injEq] at hl; subst hl; exact one _ _ (.pv p v hp) hp.one
  | agg l' cs h1 h2 h3 =>
    simp only [AV.cellsOf, Option.some.injEq] at hl
    subst hl
    exact ⟨by simpa [Value.cells] using h1, fun j c u hj hu => h2 j c u hj (by simpa [Value.cells] using hu), by simpa [Value.cells] using h3⟩
  | tup => simp [AV.cellsOf] at hl
  | own r v h1 h2 => simp only [AV.cellsOf, Option.some.injEq] at hl; subst hl; exact one _ _ (.own r v h1 h2) h1
  | ptr r o v h1 h2 => simp only [AV.cellsOf, Option.some.injEq] at hl; subst hl; exact one _ _ (.ptr r o v h1 h2) h1
  | ept r sz i f v h1 h2 => simp only [AV.cellsOf, Option.some.injEq] at hl; subst hl; exact one _ _ (.ept r sz i f v h1 h2) h1
  | rop cs ad u a b c d => simp only [AV.cellsOf, Option.some.injEq] at hl; subst hl; exact one _ _ (.rop cs ad u a b c d) rfl
  | fn f a b va vb q1 q2 q3 q4 => simp only [AV.cellsOf, Option.some.injEq] at hl; subst hl; exact one _ _ (.fn f a b va vb q1 q2 q3 q4) rfl
  | hmap r v h1 h2 => simp only [AV.cellsOf, Option.some.injEq] at hl; subst hl; exact one _ _ (.hmap r v h1 h2) h1
  | rom Q k o h1 h2 h3 => simp only [AV.cellsOf, Option.some.injEq] at hl; subst hl; exact one _ _ (.rom Q k o h1 h2 h3) rfl
  | opq Q v h1 h2 => simp only [AV.cellsOf, Option.some.injEq] at hl; subst hl; exact one _ _ (.opq Q v h1 h2) h1
  | any => simp [AV.cellsOf] at hl
theorem cellsOf_ments {x : AV} {l : List AV} (h : x.cellsOf = some l) : ∀ r, r ∈ AV.ments.mentsL l → r ∈ x.ments := by
  cases x <;> simp only [AV.cellsOf, Option.some.injEq, reduceCtorEq] at h <;> subst h <;> intro r hr <;> first | (simp [AV.ments, AV.ments.mentsL] at hr; done) | simpa [AV.ments, AV.ments.mentsL] using hr

theorem add_plain (g j : Nat) : (⟨g, 0, none⟩ : Addr).add j = ⟨g, j, none⟩ := by unfold Addr.add; split <;> simp_all
theorem add_at (g o j : Nat) : (⟨g, o, none⟩ : Addr).add j = ⟨g, o + j, none⟩ := by unfold Addr.add; split <;> simp_all
theorem cell_at {w : World} {k j : Nat} {arr : Array Value} {ty : TypeId} {fr : Nat × Nat} (h : w.heap[k]? = some (.cells arr ty fr)) : w.cell? ⟨k, j, none⟩ = arr[j]? := by simp [World.cell?, h]

/-- A new variable. -/
theorem inv_new {C : Ctx} {L : LS} {hd : Nm → Hd} {F : Nat → Prop} {a : Act} {w : World} (hi : Inv C L hd F a w) {r : Nm} (hna : ∀ i, r ≠ .arg i) (hb : L.blk r = none) (hf : L.Fresh r) {v : Value} {cs : List AV} (ty : TypeId)
    (h1 : v.cells.size = cs.length) (h2 : ∀ (j : Nat) (c : AV) (u : Value), cs[j]? = some c → v.cells[j]? = some u → Rep w F hd c u) (h3 : ∀ u ∈ v.cells.toList, u.oneCell' = true) (hm : r ∉ AV.ments.mentsL cs) :
    ∃ hd', Inv C (L.upd [(r, some (.box ty cs))]) hd' F a (w.alloc (.cells v.cells ty)) ∧ Rep (w.alloc (.cells v.cells ty)) F hd' (.ptr r 0) (.pointer (some ⟨w.heap.size, 0, none⟩)) := by
  have hdead : hd r = .dead := by have := hi.blocks r; rw [hb] at this; exact this
  have hold : ∀ k, k < w.heap.size → (w.alloc (.cells v.cells ty)).heap[k]? = w.heap[k]? := fun k hk => Below.heap_alloc _ _ _ hk
  refine ⟨fun s => if s = r then .box w.heap.size else hd s, inv_upd hi _ _ (fun _ => False) rfl rfl rfl (by simp) (fun k hk _ => hold k hk) (fun k h => h.elim) (fun s hs => ?_) (fun s b hs => ?_) (fun s hs => ?_) (fun r' s k hne h1 h2 => ?_) (fun r' k hk => ?_), ?_⟩
  · have : s ≠ r := fun e => hs (by simp [e])
    simp [this]
  · by_cases hsr : s = r
    · subst hsr
      simp only [upsGet, if_true, Option.some.injEq] at hs
      subst hs
      refine ⟨w.heap.size, v.cells, by simp, heap_alloc_new w _, h1, fun j c u hj hu => ?_, h3⟩
      refine (h2 j c u hj hu).mono (fun k hk => hold k (hi.fin k hk).1) (fun _ h => h) fun q hq => ?_
      have : q ≠ s := fun e => hm (e ▸ mem_mentsL hj hq)
      simp [this]
    · have : r ≠ s := fun e => hsr e.symm
      simp [upsGet, this] at hs
  · simp at hs
    subst hs
    exact .inr (.inr ⟨hf, hna⟩)
  · by_cases e1 : r' = r
    · by_cases e2 : s = r
      · exact hne (e1.trans e2.symm)
      · rw [if_pos e1] at h1
        rw [if_neg e2] at h2
        have := (hi.mine s k h2).2.1
        have h1 : w.heap.size = k := h1
        omega
    · rw [if_neg e1] at h1
      by_cases e2 : s = r
      · rw [if_pos e2] at h2
        have := (hi.mine r' k h1).2.1
        have h2 : w.heap.size = k := h2
        omega
      · rw [if_neg e2] at h2
        exact hi.sep r' s k hne h1 h2
  · by_cases e1 : r' = r
    · rw [if_pos e1] at hk
      have hk : w.heap.size = k := hk
      exact ⟨.inr (by omega), by simp [← hk]⟩
    · rw [if_neg e1] at hk
      have := (hi.mine r' k hk).2.1
      exact ⟨.inl ⟨r', hk⟩, by simp; omega⟩
  · exact .ptr r 0 _ rfl fun k hk => by
      simp only [if_true] at hk
      injection hk with hk
      rw [hk]

def newOk (L : LS) (r : Nm) : Bool := (match L.blk r with | none => true | some _ => false) && L.freshB r
theorem newOk_spec {L : LS} {r : Nm} (h : newOk L r = true) : L.blk r = none ∧ L.Fresh r := by
  simp only [newOk, Bool.and_eq_true] at h
  refine ⟨?_, LS.fresh_of h.2⟩
  cases hb : L.blk r with
  | none => rfl
  | some b => rw [hb] at h; simp at h

def stBox (L : LS) (dst : Option Nat) (t : Nat) (x : Operand) : SR := match dst with
  | some d => match (L.ev x).cellsOf with
    | some cs => if newOk L (.loc d) = true then (if notIn (.loc d) (AV.ments.mentsL cs) = true then .act [] ⟨.ptr (.loc d) 0, [(.loc d, some (.box t cs))]⟩ True else .stop) else .stop
    | none => .stop
  | none => .stop
theorem stBox_ok {C : Ctx} {o : Oper} {L : LS} {t : TypeId} {x : Operand} (hdst : ∀ d, o.dst = some d → d < C.fn.ntmps) (ho : o.op = .box t x) : SRok C o L (stBox L o.dst t x) := by
  unfold stBox
  cases hd : o.dst with
  | none => trivial
  | some d =>
    dsimp only
    split
    · rename_i cs hcs
      split
      · rename_i hn
        split
        · rename_i hni
          intro _
          obtain ⟨n1, n2⟩ := newOk_spec hn
          refine ⟨sem1_of hdst fun L' hd' F a w hev hfp hnew hi => ?_, by simp, fun r hr => ?_⟩
          · obtain ⟨m1, m2⟩ := hnew (.loc d) (by simp [news])
            have hx := hev x (by simp [ho, Op.operands])
            obtain ⟨c1, c2, c3⟩ := cellsOf_rep hx hcs
            obtain ⟨hd'', h1, h2⟩ := inv_new hi (by simp) m1 m2 t c1 c2 c3 ((notIn_iff _ _).1 hni)
            refine ⟨_, _, hd'', F, .inl ?_, h1, h2⟩
            simp [execOp, ho, Instr.box, newVar, newRow]
          · simp [news] at hr
            subst hr
            exact ⟨n1, n2, by simp [mayMake1, hd, ho, makes]⟩
        · trivial
      · trivial
    · trivial

def stAlloc (T : TT) (L : LS) (dst : Option Nat) (t : Nat) : SR := match dst with
  | some d => match lkT T t with
    | some i => if newOk L (.loc d) = true then .act [] ⟨.ptr (.loc d) 0, [(.loc d, some (.box t (i.zero.map .pv)))]⟩ True else .stop
    | none => .stop
  | none => .stop
theorem mentsL_pv (l : List PV) : AV.ments.mentsL (l.map .pv) = [] := by induction l <;> simp [AV.ments.mentsL, AV.ments, *]
theorem zero_rep {P : Program} {t : Nat} {i : TI} (ok : TOk1 P t i) (w : World) (F : Nat → Prop) : ∀ (j : Nat) (p : PV) (v : Value), i.zero[j]? = some p → (i.zero.map PV.raw)[j]? = some v → RepP w F p v := by
  intro j p v hj hv
  rw [List.getElem?_map, hj] at hv
  simp only [Option.map_some, Option.some.injEq] at hv
  subst hv
  rcases ok.zero p (List.mem_of_getElem? hj) with ⟨u, rfl, hu⟩ | ⟨sz, rfl⟩
  · exact .val u hu
  · exact .nilS sz
theorem stAlloc_ok {C : Ctx} {T : TT} (hT : TOk C.P T) {o : Oper} {L : LS} {t : TypeId} (hdst : ∀ d, o.dst = some d → d < C.fn.ntmps) (ho : o.op = .alloc t) : SRok C o L (stAlloc T L o.dst t) := by
  unfold stAlloc
  cases hd : o.dst with
  | none => trivial
  | some d =>
    dsimp only
    split
    · rename_i i hli
      split
      · rename_i hn
        intro _
        obtain ⟨n1, n2⟩ := newOk_spec hn
        have ok := lkT_ok hT hli
        obtain ⟨inf, z, j1, j2, j3, j4, j5, j6⟩ := ok.info
        refine ⟨sem1_of hdst fun L' hd' F a w hev hfp hnew hi => ?_, by simp, fun r hr => ?_⟩
        · obtain ⟨m1, m2⟩ := hnew (.loc d) (by simp [news])
          have hcs : z.cells = (i.zero.map PV.raw).toArray := by rw [← j5]
          obtain ⟨hd'', h1, h2⟩ := inv_new (v := z) (cs := i.zero.map .pv) hi (by simp) m1 m2 t (by simp [hcs]) (fun j c u hj hu => by
            rw [List.getElem?_map] at hj
            cases hz : i.zero[j]? with
            | none => rw [hz] at hj; cases hj
            | some p =>
              rw [hz] at hj
              cases hj
              rw [hcs] at hu
              exact .pv _ _ (zero_rep ok w F j p u hz (by simpa using hu))) (fun u hu => by
            rw [j5] at hu
            obtain ⟨p, hp, rfl⟩ := List.mem_map.1 hu
            rcases ok.zero p hp with ⟨u', rfl, hu'⟩ | ⟨sz, rfl⟩
            · exact hu'
            · rfl) (by rw [mentsL_pv]; simp)
          refine ⟨_, _, hd'', F, .inl ?_, h1, h2⟩
          simp [execOp, ho, Instr.alloc, zeroValue, typeInfo, j1, j4, newVar, newRow]
        · simp [news] at hr
          subst hr
          exact ⟨n1, n2, by simp [mayMake1, hd, ho, makes]⟩
      · trivial
    · trivial

/-! ### loads -/
def takeAt (i : TI) (cs : List AV) (off : Nat) : Option AV :=
  if i.agg = true then (if ((cs.drop off).take i.size).length = i.size then some (.agg ((cs.drop off).take i.size)) else none) else cs[off]?
def stLoad (T : TT) (L : LS) (t : Nat) (x : Operand) : SR := match lkT T t with
  | some i => match L.ev x with
    | .ptr r off => match L.blk r with
      | some (.box ty cs) => match takeAt i cs off with
        | some v => .act [(r, .box ty cs)] ⟨v, []⟩ True
        | none => .stop
      | _ => .stop
    | .rop cs => match takeAt i (cs.map .pv) 0 with
      | some v => .act [] ⟨v, []⟩ True
      | none => .stop
    | .ept r sz k f => match L.blk r with
      | some (.row e sz' es) => if Nat.beq sz sz' = true then match es[k]? with
        | some el => match takeAt i (el.map .pv) f with
          | some v => .act [(r, .row e sz' es)] ⟨v, []⟩ True
          | none => .stop
        | none => .stop
        else .stop
      | _ => .stop
    | _ => .stop
  | none => .stop
theorem run_loadAt {P : Program} {T : TT} (hT : TOk P T) {t : Nat} {i : TI} (hl : lkT T t = some i) {w : World} {F : Nat → Prop} {hd : Nm → Hd} {ad : Addr} {cs : List AV} {off : Nat} {x : AV} (u : Nat → Value)
    (hc : ∀ (j : Nat) (c : AV), cs[off + j]? = some c → w.cell? (ad.add j) = some (u j) ∧ Rep w F hd c (u j) ∧ (u j).oneCell' = true) (h : takeAt i cs off = some x) :
    ∃ v, (loadVar t ad).run P w = .ok v w ∧ Rep w F hd x v := by
  have ok := lkT_ok hT hl
  obtain ⟨inf, z, j1, j2, _⟩ := ok.info
  unfold takeAt at h
  cases hag : i.agg with
  | true =>
    rw [hag] at h
    simp only [if_true] at h
    split at h
    · rename_i hsz
      cases h
      have hidx : ∀ j, j < i.size → ∃ c, cs[off + j]? = some c ∧ ((cs.drop off).take i.size)[j]? = some c := by
        intro j hj
        have : j < ((cs.drop off).take i.size).length := by omega
        refine ⟨((cs.drop off).take i.size)[j], ?_, List.getElem?_eq_getElem this⟩
        have h2 := List.getElem?_eq_getElem this
        rw [List.getElem?_take] at h2
        simp only [hj, if_true] at h2
        rw [List.getElem?_drop] at h2
        exact h2
      have hload := run_loadCells (P := P) w ad i.size u (fun j hj => by
        obtain ⟨c, h1, _⟩ := hidx j hj
        exact (hc j c h1).1)
      refine ⟨.agg ((List.range i.size).map u).toArray, by simp [loadVar, ok.agg w, hag, sizeOf, typeInfo, j1, j2, hload], .agg _ _ (by simp [hsz]) (fun j c v hj hv => ?_) (fun v hv => ?_)⟩
      · have hjl : j < i.size := by have := (List.getElem?_eq_some_iff.1 hj).1; omega
        obtain ⟨c', h1, h2⟩ := hidx j hjl
        rw [h2] at hj
        cases hj
        simp [hjl] at hv
        subst hv
        exact (hc j c h1).2.1
      · obtain ⟨j, hj, rfl⟩ := List.mem_map.1 hv
        obtain ⟨c, h1, _⟩ := hidx j (List.mem_range.1 hj)
        exact (hc j c h1).2.2
    · cases h
  | false =>
    rw [hag] at h
    simp only [Bool.false_eq_true, if_false] at h
    obtain ⟨h1, h2, h3⟩ := hc 0 x (by simpa using h)
    have hadd : ad.add 0 = ad := by simp [Addr.add]
    rw [hadd] at h1
    exact ⟨u 0, by simp [loadVar, ok.agg w, hag, h1], h2⟩
theorem stLoad_ok {C : Ctx} {T : TT} (hT : TOk C.P T) {o : Oper} {L : LS} {t : TypeId} {x : Operand} (hdst : ∀ d, o.dst = some d → d < C.fn.ntmps) (ho : o.op = .load t x) : SRok C o L (stLoad T L t x) := by
  unfold stLoad
  split
  · rename_i i hli
    split
    · rename_i r off hx
      split
      · rename_i ty cs hb
        split
        · rename_i v hv
          refine .read1 hb fun _ => sem1_read hdst fun L' hd F a w hev hfp hi => ?_
          have h1 := hev x (by simp [ho, Op.operands])
          rw [hx] at h1
          have h2 := hi.blocks r
          rw [hfp (r, .box ty cs) (by simp)] at h2
          obtain ⟨k, arr, q1, q2, q3, q4, q5⟩ := h2
          have hp : a.eval x = .pointer (some ⟨k, off, none⟩) := by cases h1 with | ptr _ _ _ _ hp => exact hp k q1
          obtain ⟨v', r1, r2⟩ := run_loadAt (P := C.P) hT hli (w := w) (F := F) (hd := hd) (ad := ⟨k, off, none⟩) (cs := cs) (off := off) (x := v) (fun j => arr.toList.getD (off + j) undef) (fun j c hj => by
            have hlt : off + j < arr.size := by rw [q3]; exact (List.getElem?_eq_some_iff.1 hj).1
            have hg : arr.toList.getD (off + j) undef = arr[off + j] := by simp [List.getD_eq_getElem?_getD, hlt]
            rw [hg, add_at, cell_at q2]
            exact ⟨by simp [hlt], q4 _ c _ hj (by simp [hlt]), q5 _ (by simp)⟩) hv
          exact ⟨v', by simp [execOp, ho, hp, Instr.loadAt, Instr.sureAddr, r1], r2⟩
        · trivial
      · trivial
    · rename_i cs hx
      split
      · rename_i v hv
        refine .read fun _ => sem1_read hdst fun L' hd F a w hev hfp hi => ?_
        have h1 := hev x (by simp [ho, Op.operands])
        rw [hx] at h1
        generalize hz : a.eval x = z at h1
        cases h1 with
        | rop _ ad u hs hF hc hr =>
          obtain ⟨v', r1, r2⟩ := run_loadAt (P := C.P) hT hli (w := w) (F := F) (hd := hd) (ad := ad) (cs := cs.map .pv) (off := 0) (x := v) u (fun j c hj => by
            rw [Nat.zero_add, List.getElem?_map] at hj
            cases hcj : cs[j]? with
            | none => rw [hcj] at hj; cases hj
            | some p =>
              rw [hcj] at hj
              cases hj
              exact ⟨hc j p hcj, .pv _ _ (hr j p hcj), (hr j p hcj).one⟩) hv
          exact ⟨v', by simp [execOp, ho, hz, Instr.loadAt, Instr.sureAddr, r1], r2⟩
      · trivial
    · rename_i r sz k f hx
      split
      · rename_i e sz' es hb
        split
        · rename_i hsz
          rw [Nat.beq_eq] at hsz
          subst hsz
          split
          · rename_i el hel
            split
            · rename_i v hv
              refine .read1 hb fun _ => sem1_read hdst fun L' hd F a w hev hfp hi => ?_
              have h1 := hev x (by simp [ho, Op.operands])
              rw [hx] at h1
              have h2 := hi.blocks r
              rw [hfp (r, .row e sz es) (by simp)] at h2
              obtain ⟨u, cells, q1, q2, q3, q4, q5⟩ := h2
              have hk : k < es.length := (List.getElem?_eq_some_iff.1 hel).1
              have hown := q2
              rcases q2.2 with ⟨_, hn⟩ | ⟨g, cap, cur, rfl, _, hg, _, _, hcs, htk⟩
              · omega
              · have hp : a.eval x = .pointer (some ⟨g, k * sz + f, none⟩) := by cases h1 with | ept _ _ _ _ _ _ hp => exact hp g _ _ q1
                have hell := q3 k el hel
                obtain ⟨v', r1, r2⟩ := run_loadAt (P := C.P) hT hli (w := w) (F := F) (hd := hd) (ad := ⟨g, k * sz + f, none⟩) (cs := el.map .pv) (off := f) (x := v) (fun j => cells.getD (k * sz + (f + j)) undef) (fun j c hj => by
                  rw [List.getElem?_map] at hj
                  cases hcj : el[f + j]? with
                  | none => rw [hcj] at hj; cases hj
                  | some p =>
                    rw [hcj] at hj
                    cases hj
                    have hjl : f + j < sz := by rw [← hell]; exact (List.getElem?_eq_some_iff.1 hcj).1
                    have hlt : k * sz + (f + j) < cells.length := by
                      rw [q2.1]
                      calc k * sz + (f + j) < k * sz + sz := by omega
                        _ = (k + 1) * sz := by rw [Nat.add_mul, Nat.one_mul]
                        _ ≤ es.length * sz := Nat.mul_le_mul_right _ hk
                    have hg' : cells[k * sz + (f + j)]? = some (cells.getD (k * sz + (f + j)) undef) := by
                      rw [List.getD_eq_getElem?_getD, List.getElem?_eq_getElem hlt]; rfl
                    have hcell := World.ownsRow.cells hown (g := g) rfl _ _ hg'
                    rw [add_plain] at hcell
                    rw [add_at, show k * sz + f + j = k * sz + (f + j) by omega]
                    exact ⟨hcell, .pv _ _ (q4 k (f + j) el p _ hel hcj hg'), q5 _ (List.mem_of_getElem? hg')⟩) hv
                exact ⟨v', by simp [execOp, ho, hp, Instr.loadAt, Instr.sureAddr, r1], r2⟩
            · trivial
          · trivial
        · trivial
      · trivial
    · trivial
  · trivial

end Go.Abs
/-
  WHAT ONE OPERATION DOES to the abstract memory: stores, fields, lengths, bytes, tuples, structs.
-/
set_option linter.unusedVariables false
set_option linter.unusedSimpArgs false
namespace Go.Abs
open Go.RowKit

/-! ### stores into a variable -/
def putAt (cs : List AV) (off : Nat) (l : List AV) : List AV := cs.take off ++ l ++ cs.drop (off + l.length)
/-- One of the call's own variables is written. -/
theorem inv_store {C : Ctx} {L : LS} {hd : Nm → Hd} {F : Nat → Prop} {a : Act} {w : World} (hi : Inv C L hd F a w) {r : Nm} {ty : Nat} {cs : List AV} (hb : L.blk r = some (.box ty cs)) {v : Value} {l : List AV} {off : Nat}
    (h1 : v.cells.size = l.length) (h2 : ∀ (j : Nat) (c : AV) (u : Value), l[j]? = some c → v.cells[j]? = some u → Rep w F hd c u) (h3 : ∀ u ∈ v.cells.toList, u.oneCell' = true) (hfit : off + l.length ≤ cs.length) {k : Nat} (hk : hd r = .box k) :
    ∃ w', (storeCells ⟨k, off, none⟩ v.cells.toList).run C.P w = .ok () w' ∧ Inv C (L.upd [(r, some (.box ty (putAt cs off l)))]) hd F a w' := by
  have hblk := hi.blocks r
  rw [hb] at hblk
  obtain ⟨k', arr, q1, q2, q3, q4, q5⟩ := hblk
  obtain rfl : k = k' := by rw [hk] at q1; injection q1
  have hst := run_storeCells_at C.P k off ty v.cells.toList 0 arr w q2 (by simp [h1, q3]; omega) h3
  refine ⟨_, hst, ?_⟩
  have hother : ∀ j, j ≠ k → (w.setRow k (arr.toList.take (off + 0) ++ v.cells.toList ++ arr.toList.drop (off + 0 + v.cells.toList.length)).toArray).heap[j]? = w.heap[j]? := fun j hj => setRow_other w k j _ hj
  have hnF : ¬ F k := (hi.mine r k (by rw [hk]; exact rfl)).1
  refine inv_upd hi _ hd (fun j => j = k) rfl rfl rfl (by simp) (fun j _ hj => hother j hj) (fun j hj => ⟨r, by rw [hk]; exact hj.symm⟩) (fun s hs => ⟨rfl, fun j hj hjk => ?_⟩) (fun s b hs => ?_) (fun s _ => .inl rfl) hi.sep (fun r' j hj => ⟨.inl ⟨r', hj⟩, ?_⟩)
  · have hne : s ≠ r := fun e => hs (by simp [e])
    exact hi.sep s r j hne hj (by rw [hk]; exact hjk.symm)
  · by_cases hsr : s = r
    · subst hsr
      simp only [upsGet, if_true, Option.some.injEq] at hs
      subst hs
      refine ⟨k, _, hk, setRow_heap w k arr _ ty _ q2, ?_, fun j c u hj hu => ?_, fun u hu => ?_⟩
      · simp only [List.size_toArray, List.length_append, List.length_take, List.length_drop, Array.length_toList, putAt]
        omega
      · have hmono : ∀ (c : AV) (u : Value), Rep w F hd c u → Rep (w.setRow k (arr.toList.take (off + 0) ++ v.cells.toList ++ arr.toList.drop (off + 0 + v.cells.toList.length)).toArray) F hd c u := fun c u hc =>
          hc.mono (fun j hj => hother j (fun e => hnF (e ▸ hj))) (fun _ h => h) (fun _ _ => .inl rfl)
        apply hmono
        rw [List.getElem?_toArray] at hu
        unfold putAt at hj
        have hlen1 : (cs.take off).length = off := by simp; omega
        have hlen2 : (arr.toList.take (off + 0)).length = off := by simp; omega
        rw [List.append_assoc, List.getElem?_append] at hj hu
        rw [hlen1] at hj
        rw [hlen2] at hu
        by_cases hjo : j < off
        · rw [if_pos hjo] at hj hu
          rw [List.getElem?_take, if_pos hjo] at hj
          rw [List.getElem?_take, if_pos (by omega)] at hu
          exact q4 j c u hj (by simpa using hu)
        · rw [if_neg hjo] at hj hu
          rw [List.getElem?_append] at hj hu
          have hvl : v.cells.toList.length = l.length := by simpa using h1
          rw [hvl] at hu
          by_cases hjl : j - off < l.length
          · rw [if_pos hjl] at hj hu
            exact h2 _ c u hj (by simpa using hu)
          · rw [if_neg hjl] at hj hu
            rw [List.getElem?_drop] at hj hu
            refine q4 _ c u hj ?_
            simpa using hu
      · have hu' : u ∈ arr.toList.take (off + 0) ++ v.cells.toList ++ arr.toList.drop (off + 0 + v.cells.toList.length) := hu
        rcases List.mem_append.1 hu' with h | h
        · rcases List.mem_append.1 h with h | h
          · exact q5 u (List.mem_of_mem_take h)
          · exact h3 u h
        · exact q5 u (List.mem_of_mem_drop h)
    · have : r ≠ s := fun e => hsr e.symm
      simp [upsGet, this] at hs
  · have := (hi.mine r' j hj).2.1
    simpa using this

def stStore (T : TT) (L : LS) (t : Nat) (x y : Operand) : SR := match lkT T t with
  | some i => match L.ev x with
    | .ptr r off => match L.blk r with
      | some (.box ty cs) => match (L.ev y).cellsOf with
        | some l => if l.length = i.size then (if off + l.length ≤ cs.length then .act [(r, .box ty cs)] ⟨.any, [(r, some (.box ty (putAt cs off l)))]⟩ True else .stop) else .stop
        | none => .stop
      | _ => .stop
    | _ => .stop
  | none => .stop
theorem stStore_ok {C : Ctx} {T : TT} (hT : TOk C.P T) {o : Oper} {L : LS} {t : TypeId} {x y : Operand} (hdst : ∀ d, o.dst = some d → d < C.fn.ntmps) (ho : o.op = .store t x y) : SRok C o L (stStore T L t x y) := by
  unfold stStore
  split
  · rename_i i hli
    split
    · rename_i r off hx
      split
      · rename_i ty cs hb
        split
        · rename_i l hl
          split
          · rename_i hsz
            split
            · rename_i hfit
              intro _
              refine ⟨sem1_of hdst fun L' hd F a w hev hfp hnew hi => ?_, by simpa using hb, fun q hq => by simp [news, Nm.eqb_iff] at hq⟩
              have h1 := hev x (by simp [ho, Op.operands])
              rw [hx] at h1
              have hb' := hfp (r, .box ty cs) (by simp)
              have h2 := hi.blocks r
              rw [hb'] at h2
              obtain ⟨k, arr, q1, q2, q3, q4, q5⟩ := h2
              have hp : a.eval x = .pointer (some ⟨k, off, none⟩) := by cases h1 with | ptr _ _ _ _ hp => exact hp k q1
              obtain ⟨c1, c2, c3⟩ := cellsOf_rep (hev y (by simp [ho, Op.operands])) hl
              obtain ⟨w', r1, r2⟩ := inv_store (C := C) hi hb' c1 c2 c3 hfit q1
              obtain ⟨inf, z, j1, j2, _⟩ := (lkT_ok hT hli).info
              refine ⟨_, w', hd, F, .inr ⟨?_, rfl⟩, r2, .any _⟩
              have hs : (a.eval y).cells.size = inf.size := by rw [c1, hsz, j2]
              simp [execOp, ho, hp, Instr.storeAt, Instr.sureAddr, storeVar, sizeOf, typeInfo, j1, hs, r1]
            · trivial
          · trivial
        · trivial
      · trivial
    · trivial
  · trivial

/-! ### fields -/
def stFieldAddr (T : TT) (L : LS) (t : Nat) (x : Operand) (f : Nat) : SR := match fieldT T t f with
  | some (off, ty) => match lkT T ty with
    | some _ => match L.ev x with
      | .ptr r o => match L.blk r with
        | some (.box ty cs) => .act [(r, .box ty cs)] ⟨.ptr r (o + off), []⟩ True
        | _ => .stop
      | .rop cs => .act [] ⟨.rop (cs.drop off), []⟩ True
      | _ => .stop
    | none => .stop
  | none => .stop
theorem run_fieldAt {P : Program} {T : TT} (hT : TOk P T) {t f off ty : Nat} {i : TI} (h : fieldT T t f = some (off, ty)) (hl : lkT T ty = some i) (ad : Addr) (w : World) : (Instr.fieldAt t (.pointer (some ad)) f).run P w = .ok (.pointer (some (ad.add off))) w := by
  obtain ⟨d, fd, h1, h2, h3, h4⟩ := fieldT_ok hT h
  have ok := lkT_ok hT hl
  obtain ⟨inf, z, j1, j2, _⟩ := ok.info
  subst h3 h4
  have hs : ¬ inf.size = 0 := by have := ok.one; omega
  simp [Instr.fieldAt, run_underlying h1, h2, Instr.sureAddr, fieldPlace, sizeOf, typeInfo, j1, hs]
theorem stFieldAddr_ok {C : Ctx} {T : TT} (hT : TOk C.P T) {o : Oper} {L : LS} {t : TypeId} {x : Operand} {f : Nat} (hdst : ∀ d, o.dst = some d → d < C.fn.ntmps) (ho : o.op = .fieldAddr t x f) : SRok C o L (stFieldAddr T L t x f) := by
  unfold stFieldAddr
  split
  · rename_i off ty hf
    split
    · rename_i i hl
      split
      · rename_i r q hx
        split
        · rename_i ty' cs hb
          refine .read1 hb fun _ => sem1_read hdst fun L' hd F a w hev hfp hi => ?_
          have h1 := hev x (by simp [ho, Op.operands])
          rw [hx] at h1
          have h2 := hi.blocks r
          rw [hfp (r, .box ty' cs) (by simp)] at h2
          obtain ⟨k, arr, q1, _⟩ := h2
          have hp : a.eval x = .pointer (some ⟨k, q, none⟩) := by cases h1 with | ptr _ _ _ _ hp => exact hp k q1
          refine ⟨.pointer (some ⟨k, q + off, none⟩), ?_, .ptr r _ _ rfl fun k' hk => ?_⟩
          · simp [execOp, ho, hp, run_fieldAt hT hf hl, add_at]
          · rw [q1] at hk; injection hk with hk; rw [hk]
        · trivial
      · rename_i cs hx
        refine .read fun _ => sem1_read hdst fun L' hd F a w hev hfp hi => ?_
        have h1 := hev x (by simp [ho, Op.operands])
        rw [hx] at h1
        generalize hz : a.eval x = z at h1
        cases h1 with
        | rop _ ad u hs hF hc hr =>
          obtain ⟨g, q, sp⟩ := ad
          obtain rfl : sp = none := hs
          refine ⟨.pointer (some ⟨g, q + off, none⟩), by simp [execOp, ho, hz, run_fieldAt hT hf hl, add_at], .rop _ _ (fun j => u (off + j)) rfl hF (fun j c hj => ?_) (fun j c hj => ?_)⟩
          · rw [List.getElem?_drop] at hj
            have := hc _ c hj
            rw [add_at] at this ⊢
            rw [Nat.add_assoc]
            exact this
          · rw [List.getElem?_drop] at hj
            exact hr _ c hj
      · trivial
    · trivial
  · trivial

def stField (T : TT) (L : LS) (t : Nat) (x : Operand) (f : Nat) : SR := match fieldT T t f with
  | some (off, ty) => match lkT T ty with
    | some i => match L.ev x with
      | .agg l => match takeAt i l off with
        | some v => .act [] ⟨v, []⟩ True
        | none => .stop
      | _ => .stop
    | none => .stop
  | none => .stop
theorem stField_ok {C : Ctx} {T : TT} (hT : TOk C.P T) {o : Oper} {L : LS} {t : TypeId} {x : Operand} {f : Nat} (hdst : ∀ d, o.dst = some d → d < C.fn.ntmps) (ho : o.op = .field t x f) : SRok C o L (stField T L t x f) := by
  unfold stField
  split
  · rename_i off ty hf
    split
    · rename_i i hl
      split
      · rename_i l hx
        split
        · rename_i v hv
          refine .read fun _ => sem1_read hdst fun L' hd F a w hev hfp hi => ?_
          have h1 := hev x (by simp [ho, Op.operands])
          rw [hx] at h1
          generalize hz : a.eval x = z at h1
          cases h1 with
          | agg _ cs g1 g2 g3 =>
            obtain ⟨d, fd, e1, e2, e3, e4⟩ := fieldT_ok hT hf
            have ok := lkT_ok hT hl
            obtain ⟨inf, zz, j1, j2, _⟩ := ok.info
            subst e3 e4
            unfold takeAt at hv
            cases hag : i.agg with
            | true =>
              rw [hag] at hv
              simp only [if_true] at hv
              split at hv
              · rename_i hsz
                cases hv
                refine ⟨.agg ((cs.drop fd.offset).take i.size).toArray, ?_, .agg _ _ ?_ (fun j c u hj hu => ?_) (fun u hu => g3 u (List.mem_of_mem_drop (List.mem_of_mem_take hu)))⟩
                · have hsz0 : (sizeOf fd.type).run C.P w = .ok inf.size w := by simp [sizeOf, typeInfo, j1]
                  simp [execOp, ho, hz, Instr.field, run_underlying e1, e2, asAgg, part, ok.agg w, hag, hsz0, j2, List.extract_eq_take_drop]
                · simp only [List.length_take, List.length_drop] at hsz ⊢; omega
                · rw [List.getElem?_take] at hj hu
                  split at hj
                  · rename_i hlt
                    rw [if_pos hlt] at hu
                    rw [List.getElem?_drop] at hj hu
                    exact g2 _ c u hj hu
                  · cases hj
              · cases hv
            | false =>
              rw [hag] at hv
              simp only [Bool.false_eq_true, if_false] at hv
              have hlt : fd.offset < cs.length := by rw [g1]; exact (List.getElem?_eq_some_iff.1 hv).1
              refine ⟨cs[fd.offset], ?_, g2 _ v _ hv (List.getElem?_eq_getElem hlt)⟩
              simp [execOp, ho, hz, Instr.field, run_underlying e1, e2, asAgg, part, ok.agg w, hag, hlt]
        · trivial
      · trivial
    · trivial
  · trivial

/-! ### tuples, nil checks, function values -/
def stExtract (L : LS) (x : Operand) (j : Nat) : SR := match L.ev x with
  | .tup l => match l[j]? with
    | some v => .act [] ⟨v, []⟩ True
    | none => .stop
  | _ => .stop
theorem stExtract_ok {C : Ctx} {o : Oper} {L : LS} {x : Operand} {j : Nat} (hdst : ∀ d, o.dst = some d → d < C.fn.ntmps) (ho : o.op = .extract x j) : SRok C o L (stExtract L x j) := by
  unfold stExtract
  split
  · rename_i l hx
    split
    · rename_i v hv
      refine .read fun _ => sem1_read hdst fun L' hd F a w hev hfp hi => ?_
      have h1 := hev x (by simp [ho, Op.operands])
      rw [hx] at h1
      generalize hz : a.eval x = z at h1
      cases h1 with
      | tup _ cs g1 g2 =>
        have hlt : j < cs.length := by rw [g1]; exact (List.getElem?_eq_some_iff.1 hv).1
        exact ⟨cs[j], by simp [execOp, ho, hz, Instr.extract, hlt], g2 _ v _ hv (List.getElem?_eq_getElem hlt)⟩
    · trivial
  · trivial
def stNilCheck (L : LS) (x : Operand) : SR := match L.ev x with
  | .ptr r o => match L.blk r with
    | some (.box ty cs) => .act [(r, .box ty cs)] ⟨.ptr r o, []⟩ True
    | _ => .stop
  | .rop cs => .act [] ⟨.rop cs, []⟩ True
  | .fn (.func f) l l' => .act [] ⟨.fn (.func f) l l', []⟩ True
  | _ => .stop
theorem stNilCheck_ok {C : Ctx} {o : Oper} {L : LS} {x : Operand} (hdst : ∀ d, o.dst = some d → d < C.fn.ntmps) (ho : o.op = .nilCheck x) : SRok C o L (stNilCheck L x) := by
  unfold stNilCheck
  split
  · rename_i r q hx
    split
    · rename_i ty' cs hb
      refine .read1 hb fun _ => sem1_read hdst fun L' hd F a w hev hfp hi => ?_
      have h1 := hev x (by simp [ho, Op.operands])
      rw [hx] at h1
      have h2 := hi.blocks r
      rw [hfp (r, .box ty' cs) (by simp)] at h2
      obtain ⟨k, arr, q1, _⟩ := h2
      have hp : a.eval x = .pointer (some ⟨k, q, none⟩) := by cases h1 with | ptr _ _ _ _ hp => exact hp k q1
      exact ⟨_, by simp [execOp, ho, hp], h1⟩
    · trivial
  · rename_i cs hx
    refine .read fun _ => sem1_read hdst fun L' hd F a w hev hfp hi => ?_
    have h1 := hev x (by simp [ho, Op.operands])
    rw [hx] at h1
    refine ⟨_, ?_, h1⟩
    generalize hz : a.eval x = z at h1
    cases h1 with
    | rop _ ad u hs hF hc hr => simp [execOp, ho, hz]
  · rename_i f l l' hx
    refine .read fun _ => sem1_read hdst fun L' hd F a w hev hfp hi => ?_
    have h1 := hev x (by simp [ho, Op.operands])
    rw [hx] at h1
    refine ⟨_, ?_, h1⟩
    generalize hz : a.eval x = z at h1
    cases h1 with
    | fn => simp [execOp, ho, hz]
  · trivial
def evL (L : LS) : List Operand → List AV
  | [] => []
  | x :: l => L.ev x :: evL L l
theorem evL_get (L : LS) : ∀ (l : List Operand) (j : Nat), (evL L l)[j]? = (l[j]?).map L.ev
  | [], j => by simp [evL]
  | x :: l, 0 => by simp [evL]
  | x :: l, j + 1 => by simp [evL, evL_get L l j]
theorem evL_len (L : LS) : ∀ (l : List Operand), (evL L l).length = l.length
  | [] => rfl
  | x :: l => by simp [evL, evL_len L l]
def stMakeFunc (L : LS) (f : Fn) (l l' : Array Operand) : SR := .act [] ⟨.fn f (evL L l.toList) (evL L l'.toList), []⟩ True
theorem stMakeFunc_ok {C : Ctx} {o : Oper} {L : LS} {f : Fn} {l l' : Array Operand} (hdst : ∀ d, o.dst = some d → d < C.fn.ntmps) (ho : o.op = .makeFunc f l l') : SRok C o L (stMakeFunc L f l l') := by
  refine .read fun _ => sem1_read hdst fun L' hd F a w hev hfp hi => ⟨.func f (l.map a.eval) (l'.map a.eval), by simp [execOp, ho, Instr.makeFunc], ?_⟩
  have key : ∀ (q : Array Operand), (∀ x ∈ q.toList, x ∈ o.op.operands.toList) → ∀ (j : Nat) (c : AV) (v : Value), (evL L q.toList)[j]? = some c → ((q.toList.map a.eval))[j]? = some v → Rep w F hd c v := by
    intro q hq j c v hj hv
    rw [evL_get] at hj
    rw [List.getElem?_map] at hv
    cases hqj : q.toList[j]? with
    | none => rw [hqj] at hj; cases hj
    | some x =>
      rw [hqj] at hj hv
      cases hj
      cases hv
      exact hev x (hq x (List.mem_of_getElem? hqj))
  have := Rep.fn (w := w) (F := F) (hd := hd) f (evL L l.toList) (evL L l'.toList) (l.toList.map a.eval) (l'.toList.map a.eval) (by simp [evL_len]) (by simp [evL_len]) (key l (fun x hx => by simp [ho, Op.operands]; left; simpa using hx)) (key l' (fun x hx => by simp [ho, Op.operands]; right; simpa using hx))
  have e : ∀ q : Array Operand, (q.toList.map a.eval).toArray = q.map a.eval := fun q => by rw [← Array.toList_map]
  rw [e, e] at this
  exact this

/-! ### lengths and bytes -/
/-- A byte of a text, under a name that nothing opens. -/
@[irreducible] def byteAt (s : ByteArray) (i : Int) : Int := ((s.data.toList.getD i.toNat 0).toNat : Int)
theorem byteAt_eq (s : ByteArray) (i : Int) : byteAt s i = ((s.data.toList.getD i.toNat 0).toNat : Int) := by unfold byteAt; rfl
def stLen (T : TT) (L : LS) (t : Nat) (x : Operand) : SR := match L.ev x with
  | .pv (.ro sz es) => match sliceE T t with
    | some _ => .act [] ⟨.pv (.val (.int .i64 (es.length : Int))), []⟩ True
    | none => .stop
  | .own r => match L.blk r with
    | some (.row e sz es) => match sliceE T t with
      | some _ => .act [(r, .row e sz es)] ⟨.pv (.val (.int .i64 (es.length : Int))), []⟩ True
      | none => .stop
    | _ => .stop
  | .pv (.nilS _) => match sliceE T t with
    | some _ => .act [] ⟨.pv (.val (.int .i64 0)), []⟩ True
    | none => .stop
  | .pv (.val (.string s)) => if isStrT T t = true then .act [] ⟨.pv (.val (.int .i64 (s.size : Int))), []⟩ True else .stop
  | _ => .stop
theorem own_slice {w : World} {base : Nat} {e : TypeId} {size : Nat} {v : Value} {n : Nat} {xs : List Value} (h : w.ownsRow base e size v n xs) : ∃ A c, v = .slice A n c := by
  rcases h.2 with ⟨rfl, rfl⟩ | ⟨g, cap, cur, rfl, _⟩
  · exact ⟨none, 0, rfl⟩
  · exact ⟨_, cap, rfl⟩
theorem stLen_ok {C : Ctx} {T : TT} (hT : TOk C.P T) {o : Oper} {L : LS} {c : Call} {t : TypeId} {x : Operand} (hdst : ∀ d, o.dst = some d → d < C.fn.ntmps) (ho : o.op = .call c) (hc : c.callee = .builtin .len) (hx' : c.args = #[x]) (ht : c.argTypes = #[t]) : SRok C o L (stLen T L t x) := by
  have hmem : x ∈ o.op.operands.toList := by simp [ho, Op.operands, Call.operands, hx', hc]
  unfold stLen
  split
  · rename_i sz es hx
    split
    · rename_i e he
      refine .read fun _ => sem1_read hdst fun L' hd F a w hev hfp hi => ⟨_, ?_, rep_val rfl⟩
      have h1 := hev x hmem
      rw [hx] at h1
      generalize hz : a.eval x = z at h1
      cases h1 with
      | pv _ _ hp => cases hp with | ro => simp [execOp, ho, resolve, hc, hx', ht, invoke, builtin, Builtin.len_, run_underlying (sliceE_ok hT he), hz, goInt]
    · trivial
  · rename_i r hx
    split
    · rename_i e sz es hb
      split
      · rename_i e' he
        refine .read1 hb fun _ => sem1_read hdst fun L' hd F a w hev hfp hi => ⟨_, ?_, rep_val rfl⟩
        have h1 := hev x hmem
        rw [hx] at h1
        have h2 := hi.blocks r
        rw [hfp (r, .row e sz es) (by simp)] at h2
        obtain ⟨v, cells, q1, q2, _⟩ := h2
        have hp : a.eval x = v := by cases h1 with | own _ _ _ hp => exact hp v q1
        obtain ⟨A, cp, rfl⟩ := own_slice q2
        simp [execOp, ho, resolve, hc, hx', ht, invoke, builtin, Builtin.len_, run_underlying (sliceE_ok hT he), hp, goInt]
      · trivial
    · trivial
  · rename_i sz hx
    split
    · rename_i e he
      refine .read fun _ => sem1_read hdst fun L' hd F a w hev hfp hi => ⟨_, ?_, rep_val rfl⟩
      have h1 := hev x hmem
      rw [hx] at h1
      generalize hz : a.eval x = z at h1
      cases h1 with
      | pv _ _ hp => cases hp with | nilS => simp [execOp, ho, resolve, hc, hx', ht, invoke, builtin, Builtin.len_, run_underlying (sliceE_ok hT he), hz, goInt]
    · trivial
  · rename_i s hx
    split
    · rename_i hs
      refine .read fun _ => sem1_read hdst fun L' hd F a w hev hfp hi => ⟨_, ?_, rep_val rfl⟩
      have h1 := hev x hmem
      rw [hx] at h1
      simp [execOp, ho, resolve, hc, hx', ht, invoke, builtin, Builtin.len_, run_underlying (isStrT_ok hT hs), bool_of h1, goInt]
    · trivial
  · trivial
def stIndex (T : TT) (L : LS) (t : Nat) (x y : Operand) : SR := match L.ev x, L.ev y with
  | .pv (.val (.string s)), .pv (.val (.int _ i)) => if isStrT T t = true then .act [] ⟨.pv (.val (.int .u8 (byteAt s i))), []⟩ (0 ≤ i ∧ i < s.size) else .stop
  | _, _ => .stop
theorem stIndex_ok {C : Ctx} {T : TT} (hT : TOk C.P T) {o : Oper} {L : LS} {t : TypeId} {x y : Operand} (hdst : ∀ d, o.dst = some d → d < C.fn.ntmps) (ho : o.op = .index t x y) : SRok C o L (stIndex T L t x y) := by
  unfold stIndex
  split
  · rename_i s k i hx hy
    split
    · rename_i hs
      refine .read fun hp => sem1_read hdst fun L' hd F a w hev hfp hi => ⟨_, ?_, rep_val rfl⟩
      have h1 := hev x (by simp [ho, Op.operands])
      have h2 := hev y (by simp [ho, Op.operands])
      rw [hx] at h1
      rw [hy] at h2
      have hlt : i.toNat < s.size := by omega
      have hg : s[i.toNat]? = some (s.data.toList.getD i.toNat 0) := by
        have : s.data.toList.getD i.toNat 0 = s[i.toNat] := by
          have h3 : i.toNat < s.data.toList.length := by simpa using hlt
          rw [List.getD_eq_getElem?_getD, List.getElem?_eq_getElem h3]
          rfl
        rw [this]
        exact getElem?_pos s i.toNat hlt
      simp [execOp, ho, bool_of h1, bool_of h2, Instr.index, asIntOf, run_underlying (isStrT_ok hT hs), hp.1, hg, byteAt_eq]
    · trivial
  · trivial

end Go.Abs
