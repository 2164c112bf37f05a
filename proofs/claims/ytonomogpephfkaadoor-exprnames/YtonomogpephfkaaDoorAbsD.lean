/-
  WHAT ONE OPERATION DOES to the abstract memory: the general laws.
-/
import Derived.Test.YtonomogpephfkaaDoorAbsC
set_option linter.unusedVariables false
set_option linter.unusedSimpArgs false
namespace Go.Abs
open Go.RowKit

/-- Blocks are turned, made, or go. -/
theorem inv_upd {C : Ctx} {L : LS} {hd : Nm → Hd} {F : Nat → Prop} {a : Act} {w w' : World} (hi : Inv C L hd F a w) (ups : List (Nm × Option Blk)) (hd' : Nm → Hd) (wr : Nat → Prop)
    (hos : w'.os = w.os) (htape : w'.tape = w.tape) (hout : w'.output = w.output) (hsize : w.heap.size ≤ w'.heap.size)
    (hsame : ∀ k, k < w.heap.size → ¬ wr k → w'.heap[k]? = w.heap[k]?) (hown : ∀ k, wr k → ∃ r, (hd r).owns k)
    (hstay : ∀ s, s ∉ ups.map (·.1) → hd' s = hd s ∧ ∀ k, (hd s).owns k → ¬ wr k) (hups : ∀ s b, upsGet ups s = some b → HoldB w' F hd' s b)
    (hment : ∀ s, s ∈ ups.map (·.1) → hd' s = hd s ∨ hd' s = .dead ∨ (L.Fresh s ∧ ∀ i, s ≠ .arg i))
    (hsep : ∀ r s k, r ≠ s → (hd' r).owns k → ¬ (hd' s).owns k) (hmine : ∀ r k, (hd' r).owns k → ((∃ s, (hd s).owns k) ∨ w.heap.size ≤ k) ∧ k < w'.heap.size) : Inv C (L.upd ups) hd' F a w' := by
  have hF : ∀ k, F k → w'.heap[k]? = w.heap[k]? := fun k hk => hsame k (hi.fin k hk).1 fun hw => by
    obtain ⟨r, hr⟩ := hown k hw
    exact (hi.mine r k hr).1 hk
  have href : ∀ s, ¬ L.Fresh s → hd' s = hd s ∨ hd' s = .dead := fun s hs => by
    by_cases hm : s ∈ ups.map (·.1)
    · rcases hment s hm with h | h | h
      · exact .inl h
      · exact .inr h
      · exact absurd h.1 hs
    · exact .inl (hstay s hm).1
  refine { slots := fun t => ?_, blocks := fun r => ?_, sep := hsep, mine := fun r k hk => ?_, fin := fun k hk => ?_, more := hi.more, kept := fun i => ?_, gl := C.Gl.mono hi.gl hF (fun _ h => h), os := hos.trans hi.os, tape := htape.trans hi.tape, output := hout.trans hi.output, size := Nat.le_trans hi.size hsize, old := fun k hk hm => ?_, ntmps := hi.ntmps, defers := hi.defers }
  · have : (L.upd ups).get t = L.get t := by simp [LS.get, upd_blk]
    rw [this]
    exact (hi.slots t).mono hF (fun _ h => h) fun r hr => href r fun hf => hf.1 t hr
  · rw [upd_get]
    by_cases hr : r ∈ ups.map (·.1)
    · cases hu : upsGet ups r with
      | none =>
        exfalso
        clear hups hment hstay
        induction ups with
        | nil => simp at hr
        | cons x l ih =>
          obtain ⟨k, b⟩ := x
          simp only [upsGet] at hu
          cases hl : upsGet l r with
          | some y => rw [hl] at hu; cases hu
          | none =>
            rw [hl] at hu
            by_cases hk : k = r
            · simp [hk] at hu
            · rcases List.mem_cons.1 hr with h | h
              · exact hk h.symm
              · exact ih h hl
      | some b => exact hups r b hu
    · rw [upsGet_none hr]
      simp only [Option.getD_none]
      obtain ⟨h1, h2⟩ := hstay r hr
      refine (hi.blocks r).mono hF (fun _ h => h) h1 (fun k hk => hsame k (hi.mine r k hk).2.1 (h2 k hk)) fun c hc s hs => href s fun hf => hf.2 r c hc hs
  · obtain ⟨h1, h2⟩ := hmine r k hk
    rcases h1 with ⟨s, hs⟩ | h1
    · obtain ⟨q1, q2, q3⟩ := hi.mine s k hs
      exact ⟨q1, h2, q3⟩
    · exact ⟨fun hk' => by have := (hi.fin k hk').1; omega, h2, .inl (Nat.le_trans hi.size h1)⟩
  · obtain ⟨q1, q2⟩ := hi.fin k hk
    exact ⟨by omega, q2⟩
  · have : hd' (.arg i) = hd (.arg i) ∨ hd' (.arg i) = .dead := by
      by_cases hm : Nm.arg i ∈ ups.map (·.1)
      · rcases hment _ hm with h | h | h
        · exact .inl h
        · exact .inr h
        · exact absurd rfl (h.2 i)
      · exact .inl (hstay _ hm).1
    rcases this with e | e
    · rw [e]; exact hi.kept i
    · exact .inr e
  · rw [← hi.old k hk hm]
    refine hsame k (Nat.lt_of_lt_of_le hk hi.size) fun hw => ?_
    obtain ⟨r, hr⟩ := hown k hw
    rcases (hi.mine r k hr).2.2 with h | h
    · omega
    · exact hm h

/-- From the run of an operation to what it may be taken to do. -/
theorem sem1_of {C : Ctx} {o : Oper} {ev : Operand → AV} {fp : List (Nm × Blk)} {A : Actn} (hdst : ∀ d, o.dst = some d → d < C.fn.ntmps)
    (h : ∀ (L : LS) (hd : Nm → Hd) (F : Nat → Prop) (a : Act) (w : World), (∀ x ∈ o.op.operands.toList, Rep w F hd (ev x) (a.eval x)) → (∀ p ∈ fp, L.blk p.1 = some p.2) → (∀ r ∈ news fp A.ups, L.blk r = none ∧ L.Fresh r) → Inv C L hd F a w →
      ∃ v w' hd' F', ((execOp a.eval o).run C.P w = .ok (.value v) w' ∨ ((execOp a.eval o).run C.P w = .ok .skip w' ∧ v = undef)) ∧ Inv C (L.upd A.ups) hd' F' a w' ∧ Rep w' F' hd' A.v v) : Sem1 C o ev fp A := by
  intro L hd F a w h1 h2 h3 hi K Q hK
  obtain ⟨v, w', hd', F', hrun, hinv, hrep⟩ := h L hd F a w (fun x hx => by rw [← h1 x hx]; exact ev_rep hi x) h2 h3 hi
  have hput : Inv C (L.app o.dst A) hd' F' (a.put o.dst v) w' := hinv.put o.dst hrep hdst
  unfold Oper.wp
  rcases hrun with hrun | ⟨hrun, rfl⟩
  · rw [hrun]; exact hK _ _ _ _ hput
  · rw [hrun]; exact hK _ _ _ _ hput

/-- An operation that only reads. -/
theorem sem1_read {C : Ctx} {o : Oper} {ev : Operand → AV} {fp : List (Nm × Blk)} {x : AV} (hdst : ∀ d, o.dst = some d → d < C.fn.ntmps)
    (h : ∀ (L : LS) (hd : Nm → Hd) (F : Nat → Prop) (a : Act) (w : World), (∀ y ∈ o.op.operands.toList, Rep w F hd (ev y) (a.eval y)) → (∀ p ∈ fp, L.blk p.1 = some p.2) → Inv C L hd F a w →
      ∃ v, (execOp a.eval o).run C.P w = .ok (.value v) w ∧ Rep w F hd x v) : Sem1 C o ev fp ⟨x, []⟩ :=
  sem1_of hdst fun L hd F a w h1 h2 _ hi => by
    obtain ⟨v, hr, hx⟩ := h L hd F a w h1 h2 hi
    exact ⟨v, w, hd, F, .inl hr, hi, hx⟩

/-- What the evaluator answers of an operation. -/
inductive SR where
  | act (fp : List (Nm × Blk)) (A : Actn) (p : Prop)
  | stop
def SRok (C : Ctx) (o : Oper) (L : LS) : SR → Prop
  | .act fp A p => p → Sem1 C o L.ev fp A ∧ (∀ q ∈ fp, L.blk q.1 = some q.2) ∧ ∀ r ∈ news fp A.ups, L.blk r = none ∧ L.Fresh r ∧ r ∈ mayMake1 o
  | .stop => True
theorem SRok.read {C : Ctx} {o : Oper} {L : LS} {x : AV} {p : Prop} (h : p → Sem1 C o L.ev [] ⟨x, []⟩) : SRok C o L (.act [] ⟨x, []⟩ p) := fun hp => ⟨h hp, by simp, by simp [news]⟩
theorem SRok.read1 {C : Ctx} {o : Oper} {L : LS} {x : AV} {p : Prop} {r : Nm} {b : Blk} (hb : L.blk r = some b) (h : p → Sem1 C o L.ev [(r, b)] ⟨x, []⟩) : SRok C o L (.act [(r, b)] ⟨x, []⟩ p) :=
  fun hp => ⟨h hp, by simpa using hb, by simp [news]⟩

theorem rep_val {w : World} {F : Nat → Prop} {hd : Nm → Hd} {u : Value} (h : u.oneCell' = true) : Rep w F hd (.pv (.val u)) u := .pv _ _ (.val u h)

/-! ### moves -/
def stMove (L : LS) (x : Operand) : SR := .act [] ⟨L.ev x, []⟩ True
theorem stMove_ok {C : Ctx} {o : Oper} {L : LS} {x : Operand} (hdst : ∀ d, o.dst = some d → d < C.fn.ntmps) (ho : o.op = .move x ∨ o.op = .assign x) : SRok C o L (stMove L x) := by
  refine .read fun _ => sem1_read hdst fun L' hd F a w hev _ hi => ⟨a.eval x, ?_, hev x ?_⟩
  · rcases ho with h | h <;> simp [execOp, h]
  · rcases ho with h | h <;> simp [h, Op.operands]

def stPick (L : LS) (c x y : Operand) : SR := match L.ev c with
  | .pv (.val (.bool true)) => .act [] ⟨L.ev x, []⟩ True
  | .pv (.val (.bool false)) => .act [] ⟨L.ev y, []⟩ True
  | _ => .stop
theorem stPick_ok {C : Ctx} {o : Oper} {L : LS} {c x y : Operand} (hdst : ∀ d, o.dst = some d → d < C.fn.ntmps) (ho : o.op = .pick c x y) : SRok C o L (stPick L c x y) := by
  unfold stPick
  split
  · rename_i hc
    refine .read fun _ => sem1_read hdst fun L' hd F a w hev _ hi => ⟨a.eval x, ?_, hev x (by simp [ho, Op.operands])⟩
    have := hev c (by simp [ho, Op.operands])
    rw [hc] at this
    simp [execOp, ho, bool_of this, asBool]
  · rename_i hc
    refine .read fun _ => sem1_read hdst fun L' hd F a w hev _ hi => ⟨a.eval y, ?_, hev y (by simp [ho, Op.operands])⟩
    have := hev c (by simp [ho, Op.operands])
    rw [hc] at this
    simp [execOp, ho, bool_of this, asBool]
  · trivial

/-! ### numbers, texts, bools -/
/-- Go's own wrap, under a name that nothing opens. -/
@[irreducible] def wr (k : IntKind) (n : Int) : Int := k.wrap n
theorem wr_eq (k : IntKind) (n : Int) : wr k n = k.wrap n := by unfold wr; rfl
@[irreducible] def bw (op : BinOp) (k : IntKind) (x y : Int) : Int := k.wrap (match op with
  | .and => (BitVec.ofInt k.bits x &&& BitVec.ofInt k.bits y).toNat
  | .or => (BitVec.ofInt k.bits x ||| BitVec.ofInt k.bits y).toNat
  | .xor => (BitVec.ofInt k.bits x ^^^ BitVec.ofInt k.bits y).toNat
  | _ => (BitVec.ofInt k.bits x &&& ~~~(BitVec.ofInt k.bits y)).toNat : Nat)
theorem bw_eq (op : BinOp) (k : IntKind) (x y : Int) : bw op k x y = k.wrap (match op with
  | .and => (BitVec.ofInt k.bits x &&& BitVec.ofInt k.bits y).toNat
  | .or => (BitVec.ofInt k.bits x ||| BitVec.ofInt k.bits y).toNat
  | .xor => (BitVec.ofInt k.bits x ^^^ BitVec.ofInt k.bits y).toNat
  | _ => (BitVec.ofInt k.bits x &&& ~~~(BitVec.ofInt k.bits y)).toNat : Nat) := by unfold bw; rfl

def abin (op : BinOp) (x y : Value) : Option (Value × Prop) := match x, y with
  | .int k a, .int k' b => if k = k' then match op with
      | .add => some (.int k (wr k (a + b)), True)
      | .sub => some (.int k (wr k (a - b)), True)
      | .mul => some (.int k (wr k (a * b)), True)
      | .quo => some (.int k (wr k (a.tdiv b)), b ≠ 0)
      | .rem => some (.int k (a.tmod b), b ≠ 0)
      | .and => some (.int k (bw .and k a b), True)
      | .or => some (.int k (bw .or k a b), True)
      | .xor => some (.int k (bw .xor k a b), True)
      | .andNot => some (.int k (bw .andNot k a b), True)
      | .eql => some (.bool (decide (a = b)), True)
      | .neq => some (.bool (!decide (a = b)), True)
      | .lss => some (.bool (decide (a < b)), True)
      | .leq => some (.bool (decide (a ≤ b)), True)
      | .gtr => some (.bool (decide (a > b)), True)
      | .geq => some (.bool (decide (a ≥ b)), True)
      | _ => none
    else none
  | .string a, .string b => match op with
      | .add => some (.string (a ++ b), a.size + b.size ≤ 9223372036854775807)
      | .eql => some (.bool (decide (a = b)), True)
      | .neq => some (.bool (!decide (a = b)), True)
      | .lss => some (.bool (Op.bytesLess a.toList b.toList), True)
      | .leq => some (.bool (Op.bytesLess a.toList b.toList || decide (a = b)), True)
      | .gtr => some (.bool (!(Op.bytesLess a.toList b.toList || decide (a = b))), True)
      | .geq => some (.bool (!(Op.bytesLess a.toList b.toList)), True)
      | _ => none
  | _, _ => none
theorem beq_toList (a b : ByteArray) : (a.toList == b.toList) = decide (a = b) := by
  by_cases h : a = b
  · subst h; simp
  · have : ¬ a.toList = b.toList := fun e => h (by
      rw [ByteArray.toList_eq, ByteArray.toList_eq] at e
      cases a; cases b; congr 1; exact Array.toList_inj.1 e)
    simp [h, this]
theorem beq_int (a b : Int) : (a == b) = decide (a = b) := rfl
theorem bne_int (a b : Int) : (a != b) = !decide (a = b) := rfl
theorem abin_ok {P : Program} {op : BinOp} {t : TypeId} {x y : Operand} {u v r : Value} {p : Prop} (h : abin op u v = some (r, p)) (hp : p) (w : World) :
    (do eqGuard op t x y u v; binOp op t u v).run P w = .ok r w ∧ r.oneCell' = true := by
  cases u <;> cases v <;> simp only [abin, reduceCtorEq] at h
  · rename_i k a k' b
    by_cases hk : k = k'
    · subst hk
      simp only [if_true] at h
      rw [eqGuard_at_int]
      cases op <;> simp only [reduceCtorEq, Option.some.injEq, Prod.mk.injEq] at h <;> obtain ⟨rfl, rfl⟩ := h <;>
        (try simp only [wr_eq, bw_eq]) <;> first
          | (simp [binOp, Op.intCmp, Value.oneCell', beq_int, bne_int]; done)
          | (simp [binOp, Op.intCmp, Value.oneCell']; rfl)
          | (simp [binOp, Op.intArith, Value.oneCell']; done)
          | (simp [binOp, Op.intDiv, Value.oneCell', hp]; done)
          | (simp [binOp, Op.intBits, Value.oneCell']; done)
    · simp [hk] at h
  · rename_i a b
    rw [eqGuard_at_string]
    cases op <;> simp only [reduceCtorEq, Option.some.injEq, Prod.mk.injEq] at h <;> obtain ⟨rfl, rfl⟩ := h
    · have : ¬ (((a.size + b.size : Nat) : Int) > 9223372036854775807) := by omega
      simp only [binOp, Op.stringOp, pure_bind, IntKind.max_i64, if_neg this]
      simp [Value.oneCell']
    all_goals simp [binOp, Op.stringOp, Value.oneCell', beq_toList]
def isBoolT (T : TT) (t : Nat) : Bool := match lkT T t with
  | some i => match i.und with | .bool => true | _ => false
  | none => false
theorem run_equalIn_bool {P : Program} (d : Nat) {t : Nat} (hu : P.underlying t = some .bool) (a b : Bool) (w : World) : (Op.equalIn (d + 1) t (.bool a) (.bool b)).run P w = .ok (a == b) w := by
  rw [Op.equalIn]
  simp [run_underlying hu]
theorem run_equal_bool {P : Program} {T : TT} (hT : TOk P T) {t : Nat} (h : isBoolT T t = true) (a b : Bool) (w : World) : (Op.equal t (.bool a) (.bool b)).run P w = .ok (a == b) w := by
  unfold isBoolT at h
  cases hl : lkT T t with
  | none => rw [hl] at h; cases h
  | some i =>
    rw [hl] at h
    dsimp only at h
    have hu := (lkT_ok hT hl).und
    cases hi : i.und <;> rw [hi] at h hu <;> simp only [Bool.false_eq_true] at h
    exact run_equalIn_bool 9999 hu a b w
def stBin (T : TT) (L : LS) (op : BinOp) (t : Nat) (x y : Operand) : SR := match L.ev x, L.ev y with
  | .pv (.val (.bool a)), .pv (.val (.bool b)) => if isBoolT T t = true then match op with
    | .eql => .act [] ⟨.pv (.val (.bool (a == b))), []⟩ True
    | .neq => .act [] ⟨.pv (.val (.bool (!(a == b)))), []⟩ True
    | _ => .stop
    else .stop
  | .pv (.val u), .pv (.val v) => match abin op u v with
    | some (r, p) => .act [] ⟨.pv (.val r), []⟩ p
    | none => .stop
  | _, _ => .stop
theorem stBin_ok {C : Ctx} {T : TT} (hT : TOk C.P T) {o : Oper} {L : LS} {op : BinOp} {t ty : TypeId} {x y : Operand} (hdst : ∀ d, o.dst = some d → d < C.fn.ntmps) (ho : o.op = .binOp op t x y ty) : SRok C o L (stBin T L op t x y) := by
  unfold stBin
  split
  · rename_i p q hx hy
    split
    · rename_i hbt
      have hb := run_equal_bool hT hbt
      have key : ∀ (op' : BinOp) (r : Bool), op = op' → (∀ w, (eqGuard op' t x y (.bool p) (.bool q)).run C.P w = .ok () w) → (∀ w, (binOp op' t (.bool p) (.bool q)).run C.P w = .ok (.bool r) w) → SRok C o L (.act [] ⟨.pv (.val (.bool r)), []⟩ True) := by
        intro op' r he hg hrun
        subst he
        refine .read fun _ => sem1_read hdst fun L' hd F a w hev _ hi => ⟨_, ?_, rep_val rfl⟩
        have h1 := hev x (by simp [ho, Op.operands])
        have h2 := hev y (by simp [ho, Op.operands])
        rw [hx] at h1
        rw [hy] at h2
        simp [execOp, ho, bool_of h1, bool_of h2, hg w, hrun w]
      split
      · exact key .eql _ rfl (fun w => by rw [eqGuard_at_bool]; rfl) fun w => by simp [binOp, hb]
      · exact key .neq _ rfl (fun w => by rw [eqGuard_at_bool]; rfl) fun w => by simp [binOp, hb]
      · trivial
    · trivial
  · rename_i u v _ hx hy
    split
    · rename_i r p he
      refine .read fun hp => sem1_read hdst fun L' hd F a w hev _ hi => ?_
      have h1 := hev x (by simp [ho, Op.operands])
      have h2 := hev y (by simp [ho, Op.operands])
      rw [hx] at h1
      rw [hy] at h2
      obtain ⟨q1, q2⟩ := abin_ok (P := C.P) (t := t) (x := x) (y := y) he hp w
      refine ⟨r, ?_, rep_val q2⟩
      simp only [execOp, ho, bool_of h1, bool_of h2, Sem.run_bind] at q1 ⊢
      rw [q1]
      rfl
    · trivial
  · trivial

def stUn (L : LS) (op : UnOp) (x : Operand) : SR := match L.ev x, op with
  | .pv (.val (.bool a)), .not => .act [] ⟨.pv (.val (.bool (!a))), []⟩ True
  | .pv (.val (.int k n)), .neg => .act [] ⟨.pv (.val (.int k (wr k (0 - n)))), []⟩ True
  | _, _ => .stop
theorem stUn_ok {C : Ctx} {o : Oper} {L : LS} {op : UnOp} {t : TypeId} {x : Operand} (hdst : ∀ d, o.dst = some d → d < C.fn.ntmps) (ho : o.op = .unOp op t x) : SRok C o L (stUn L op x) := by
  unfold stUn
  split
  · rename_i hx
    refine .read fun _ => sem1_read hdst fun L' hd F a w hev _ hi => ⟨_, ?_, rep_val rfl⟩
    have h1 := hev x (by simp [ho, Op.operands])
    rw [hx] at h1
    simp [execOp, ho, bool_of h1, Op.unary]
  · rename_i hx
    refine .read fun _ => sem1_read hdst fun L' hd F a w hev _ hi => ⟨_, ?_, rep_val rfl⟩
    have h1 := hev x (by simp [ho, Op.operands])
    rw [hx] at h1
    simp [execOp, ho, bool_of h1, Op.unary, Op.intArith, wr_eq]
  · trivial

/-! ### types, looked up -/
def sliceE (T : TT) (t : Nat) : Option Nat := match lkT T t with
  | some i => match i.und with | .slice e => some e | _ => none
  | none => none
theorem sliceE_ok {P : Program} {T : TT} (hT : TOk P T) {t e : Nat} (h : sliceE T t = some e) : P.underlying t = some (.slice e) := by
  unfold sliceE at h
  cases hl : lkT T t with
  | none => rw [hl] at h; cases h
  | some i =>
    rw [hl] at h
    dsimp only at h
    have hu := (lkT_ok hT hl).und
    cases hi : i.und <;> rw [hi] at h hu <;> simp only [Option.some.injEq, reduceCtorEq] at h
    subst h
    exact hu
def intK (T : TT) (t : Nat) : Option IntKind := match lkT T t with
  | some i => match i.und with | .int k => some k | _ => none
  | none => none
theorem intK_ok {P : Program} {T : TT} (hT : TOk P T) {t : Nat} {k : IntKind} (h : intK T t = some k) : P.underlying t = some (.int k) := by
  unfold intK at h
  cases hl : lkT T t with
  | none => rw [hl] at h; cases h
  | some i =>
    rw [hl] at h
    dsimp only at h
    have hu := (lkT_ok hT hl).und
    cases hi : i.und <;> rw [hi] at h hu <;> simp only [Option.some.injEq, reduceCtorEq] at h
    subst h
    exact hu
def isStrT (T : TT) (t : Nat) : Bool := match lkT T t with
  | some i => match i.und with | .string => true | _ => false
  | none => false
theorem isStrT_ok {P : Program} {T : TT} (hT : TOk P T) {t : Nat} (h : isStrT T t = true) : P.underlying t = some .string := by
  unfold isStrT at h
  cases hl : lkT T t with
  | none => rw [hl] at h; cases h
  | some i =>
    rw [hl] at h
    dsimp only at h
    have hu := (lkT_ok hT hl).und
    cases hi : i.und <;> rw [hi] at h hu <;> simp only [Bool.false_eq_true] at h
    exact hu
/-- A field: where it begins, its type. -/
def fieldT (T : TT) (t f : Nat) : Option (Nat × Nat) := match lkT T t with
  | some i => match i.und with | .str fs => fs[f]? | _ => none
  | none => none
theorem fieldT_ok {P : Program} {T : TT} (hT : TOk P T) {t f off ty : Nat} (h : fieldT T t f = some (off, ty)) : ∃ d fd, P.underlying t = some (.struct d) ∧ d[f]? = some fd ∧ fd.offset = off ∧ fd.type = ty := by
  unfold fieldT at h
  cases hl : lkT T t with
  | none => rw [hl] at h; cases h
  | some i =>
    rw [hl] at h
    dsimp only at h
    have hu := (lkT_ok hT hl).und
    cases hi : i.und <;> rw [hi] at h hu <;> simp only [reduceCtorEq] at h
    obtain ⟨d, h1, h2⟩ := hu
    rw [← h2, List.getElem?_map] at h
    cases hd : d.toList[f]? with
    | none => rw [hd] at h; cases h
    | some fd =>
      rw [hd] at h
      simp only [Option.map_some, Option.some.injEq, Prod.mk.injEq] at h
      exact ⟨d, fd, h1, by simpa using hd, h.1, h.2⟩
theorem sizeOf_ok {P : Program} {T : TT} (hT : TOk P T) {t : Nat} {i : TI} (h : lkT T t = some i) (w : World) : (sizeOf t).run P w = .ok i.size w := by
  obtain ⟨inf, z, h1, h2, _⟩ := (lkT_ok hT h).info
  simp [sizeOf, typeInfo, h1, h2]

/-! ### conversions of numbers -/
def stConv (T : TT) (L : LS) (s d : Nat) (x : Operand) : SR := match L.ev x with
  | .pv (.val (.int _ n)) => match intK T s with
    | some _ => match intK T d with
      | some k => .act [] ⟨.pv (.val (.int k (wr k n))), []⟩ True
      | none => if isStrT T d = true then .act [] ⟨.pv (.val (.string (Utf8.encode n))), []⟩ True else .stop
    | none => .stop
  | .pv (.val (.string u)) => if isStrT T s = true then (if isStrT T d = true then .act [] ⟨.pv (.val (.string u)), []⟩ True else .stop) else .stop
  | _ => .stop
theorem stConv_ok {C : Ctx} {T : TT} (hT : TOk C.P T) {o : Oper} {L : LS} {s d : TypeId} {x : Operand} (hdst : ∀ d, o.dst = some d → d < C.fn.ntmps) (ho : o.op = .convert s d x) : SRok C o L (stConv T L s d x) := by
  unfold stConv
  split
  · rename_i hx
    split
    · rename_i k' h1
      split
      · rename_i k h2
        refine .read fun _ => sem1_read hdst fun L' hd F a w hev _ hi => ⟨_, ?_, rep_val rfl⟩
        have h3 := hev x (by simp [ho, Op.operands])
        rw [hx] at h3
        simp [execOp, ho, bool_of h3, convert, run_underlying (intK_ok hT h1), run_underlying (intK_ok hT h2), Conv.intToInt, wr_eq]
      · split
        · rename_i h2
          refine .read fun _ => sem1_read hdst fun L' hd F a w hev _ hi => ⟨_, ?_, rep_val rfl⟩
          have h3 := hev x (by simp [ho, Op.operands])
          rw [hx] at h3
          simp [execOp, ho, bool_of h3, convert, run_underlying (intK_ok hT h1), run_underlying (isStrT_ok hT h2), Conv.intToString]
        · trivial
    · trivial
  · rename_i hx
    split
    · rename_i h1
      split
      · rename_i h2
        refine .read fun _ => sem1_read hdst fun L' hd F a w hev _ hi => ⟨_, ?_, rep_val rfl⟩
        have h3 := hev x (by simp [ho, Op.operands])
        rw [hx] at h3
        simp [execOp, ho, bool_of h3, convert, run_underlying (isStrT_ok hT h1), run_underlying (isStrT_ok hT h2)]
      · trivial
    · trivial
  · trivial

end Go.Abs
