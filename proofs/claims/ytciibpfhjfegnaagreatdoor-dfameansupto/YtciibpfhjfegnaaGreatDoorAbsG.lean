/-
  WHAT ONE OPERATION DOES to the abstract memory: elements and rows; calls of pure values.
-/
import Derived.Test.YtciibpfhjfegnaaGreatDoorAbsF
import Derived.Laws.MakeOwn
set_option linter.unusedVariables false
set_option linter.unusedSimpArgs false
namespace Go.Abs
open Go.RowKit

/-! ### an element of what is only read -/
def stIndexAddr (T : TT) (L : LS) (t : Nat) (x y : Operand) : SR := match L.ev x, L.ev y with
  | .pv (.ro sz es), .pv (.val (.int _ i)) => match sliceE T t with
    | some e => match lkT T e with
      | some inf => if inf.size = sz then .act [] ⟨.rop (es.getD i.toNat []), []⟩ (0 ≤ i ∧ i < es.length) else .stop
      | none => .stop
    | none => .stop
  | .own r, .pv (.val (.int _ i)) => match sliceE T t with
    | some e => match lkT T e with
      | some inf => match L.blk r with
        | some (.row e' sz es) => if inf.size = sz then .act [(r, .row e' sz es)] ⟨.ept r sz i.toNat 0, []⟩ (0 ≤ i ∧ i < es.length) else .stop
        | _ => .stop
      | none => .stop
    | none => .stop
  | _, _ => .stop
theorem run_indexAt' {P : Program} {T : TT} (hT : TOk P T) {t e : Nat} {inf : TI} (h : sliceE T t = some e) (hl : lkT T e = some inf) (ad : Addr) (n c : Nat) (k : IntKind) (i : Int) (h0 : 0 ≤ i) (h1 : i < n) (w : World) :
    (Instr.indexAt t (.slice (some ad) n c) (.int k i)).run P w = .ok (.pointer (some (ad.add (i.toNat * inf.size)))) w := by
  obtain ⟨inf', z, j1, j2, _⟩ := (lkT_ok hT hl).info
  simp [Instr.indexAt, run_underlying (sliceE_ok hT h), asIntOf, h0, h1, sizeOf, typeInfo, j1, j2]
theorem stIndexAddr_ok {C : Ctx} {T : TT} (hT : TOk C.P T) {o : Oper} {L : LS} {t : TypeId} {x y : Operand} (hdst : ∀ d, o.dst = some d → d < C.fn.ntmps) (ho : o.op = .indexAddr t x y) : SRok C o L (stIndexAddr T L t x y) := by
  unfold stIndexAddr
  split
  · rename_i sz es k i hx hy
    split
    · rename_i e he
      split
      · rename_i inf hl
        split
        · rename_i hsz
          refine .read fun hp => sem1_read hdst fun L' hd F a w hev hfp hi => ?_
          have h1 := hev x (by simp [ho, Op.operands])
          have h2 := hev y (by simp [ho, Op.operands])
          rw [hx] at h1
          rw [hy] at h2
          generalize hz : a.eval x = z at h1
          cases h1 with
          | pv _ _ hp' =>
            cases hp' with
            | ro _ _ A cap u hA hc hm hlen ha hr =>
              have hne : es ≠ [] := fun e => by subst e; simp at hp; omega
              obtain ⟨ad, rfl, hs, hF, hcell⟩ := ha hne
              obtain ⟨g, q, sp⟩ := ad
              obtain rfl : sp = none := hs
              have hlt : i.toNat < es.length := by omega
              have hg : es[i.toNat]? = some (es.getD i.toNat []) := by rw [List.getD_eq_getElem?_getD, List.getElem?_eq_getElem hlt]; rfl
              refine ⟨.pointer (some ⟨g, q + i.toNat * sz, none⟩), ?_, .rop _ _ (fun j => u i.toNat j) rfl hF (fun j c hj => ?_) (fun j c hj => hr _ j _ c hg hj)⟩
              · have := run_indexAt' (P := C.P) hT he hl ⟨g, q, none⟩ es.length cap k i hp.1 hp.2 w
                rw [add_at, hsz] at this
                simp [execOp, ho, hz, bool_of h2, this]
              · have := hcell _ j _ c hg hj
                rw [add_at] at this ⊢
                rw [Nat.add_assoc]
                exact this
        · trivial
      · trivial
    · trivial
  · rename_i r k i hx hy
    split
    · rename_i e he
      split
      · rename_i inf hl
        split
        · rename_i e' sz es hb
          split
          · rename_i hsz
            refine .read1 hb fun hp => sem1_read hdst fun L' hd F a w hev hfp hi => ?_
            have h1 := hev x (by simp [ho, Op.operands])
            have h2 := hev y (by simp [ho, Op.operands])
            rw [hx] at h1
            rw [hy] at h2
            have h3 := hi.blocks r
            rw [hfp (r, .row e' sz es) (by simp)] at h3
            obtain ⟨v, cells, q1, q2, q3, q4, q5⟩ := h3
            have hv : a.eval x = v := by cases h1 with | own _ _ _ hp => exact hp v q1
            rcases q2.2 with ⟨rfl, hn⟩ | ⟨g, cap, cur, rfl, _⟩
            · omega
            · refine ⟨.pointer (some ⟨g, i.toNat * sz, none⟩), ?_, .ept r sz _ 0 _ rfl fun g' n' c' hk => ?_⟩
              · have := run_indexAt' (P := C.P) hT he hl ⟨g, 0, none⟩ es.length cap k i hp.1 hp.2 w
                rw [add_at, hsz, Nat.zero_add] at this
                simp [execOp, ho, hv, bool_of h2, this]
              · rw [q1] at hk
                injection hk with hk
                injection hk with hk _ _
                injection hk with hk
                injection hk with hk _ _
                rw [hk]; rfl
          · trivial
        · trivial
      · trivial
    · trivial
  · trivial

/-! ### calls of pure values -/
/-! ### names turned -/
def AV.ren (ρ : Nm → Nm) : AV → AV
  | .pv p => .pv p
  | .agg l => .agg (renL ρ l)
  | .tup l => .tup (renL ρ l)
  | .own r => .own (ρ r)
  | .ptr r o => .ptr (ρ r) o
  | .ept r sz i f => .ept (ρ r) sz i f
  | .rop cs => .rop cs
  | .fn f a b => .fn f (renL ρ a) (renL ρ b)
  | .hmap r => .hmap (ρ r)
  | .rom Q => .rom Q
  | .opq Q => .opq Q
  | .any => .any
where renL (ρ : Nm → Nm) : List AV → List AV
  | [] => []
  | x :: l => x.ren ρ :: renL ρ l
def Blk.ren (ρ : Nm → Nm) : Blk → Blk
  | .box ty cs => .box ty (AV.ren.renL ρ cs)
  | .row e sz es => .row e sz es
  | .raw Q => .raw Q
  | .iter Q => .iter Q
  | .gen Q => .gen Q
theorem renL_get (ρ : Nm → Nm) : ∀ (l : List AV) (j : Nat), (AV.ren.renL ρ l)[j]? = (l[j]?).map (AV.ren ρ)
  | [], j => by simp [AV.ren.renL]
  | x :: l, 0 => by simp [AV.ren.renL]
  | x :: l, j + 1 => by simp [AV.ren.renL, renL_get ρ l j]
theorem renL_len (ρ : Nm → Nm) : ∀ (l : List AV), (AV.ren.renL ρ l).length = l.length
  | [] => rfl
  | x :: l => by simp [AV.ren.renL, renL_len ρ l]
theorem Rep.ren {w : World} {F : Nat → Prop} {hd hd' : Nm → Hd} {ρ : Nm → Nm} {x : AV} {v : Value} (h : Rep w F hd x v) (hh : ∀ r, r ∈ x.ments → hd' (ρ r) = hd r ∨ hd' (ρ r) = .dead) : Rep w F hd' (x.ren ρ) v := by
  have hL : ∀ (l : List AV) (cs : List Value), (∀ (j : Nat) (c : AV) (v : Value), l[j]? = some c → cs[j]? = some v → Rep w F hd' (c.ren ρ) v) → ∀ (j : Nat) (c : AV) (v : Value), (AV.ren.renL ρ l)[j]? = some c → cs[j]? = some v → Rep w F hd' c v := by
    intro l cs ih j c v hj hv
    rw [renL_get] at hj
    cases hlj : l[j]? with
    | none => rw [hlj] at hj; cases hj
    | some y => rw [hlj] at hj; cases hj; exact ih j y v hlj hv
  induction h with
  | pv p v h => exact .pv p v h
  | agg l cs hl h h1 ih => exact .agg _ cs (by rw [renL_len]; exact hl) (hL l cs fun j c v hj hv => ih j c v hj hv fun r hr => hh r (by simp only [AV.ments]; exact mem_mentsL hj hr)) h1
  | tup l cs hl h ih => exact .tup _ cs (by rw [renL_len]; exact hl) (hL l cs fun j c v hj hv => ih j c v hj hv fun r hr => hh r (by simp only [AV.ments]; exact mem_mentsL hj hr))
  | own r v h1 h =>
    refine .own _ v h1 fun u hu => ?_
    rcases hh r (by simp [AV.ments]) with e | e
    · exact h u (e ▸ hu)
    · rw [e] at hu; cases hu
  | ptr r off v h1 h =>
    refine .ptr _ off v h1 fun u hu => ?_
    rcases hh r (by simp [AV.ments]) with e | e
    · exact h u (e ▸ hu)
    · rw [e] at hu; cases hu
  | ept r sz i f v h1 h =>
    refine .ept _ sz i f v h1 fun g n c hu => ?_
    rcases hh r (by simp [AV.ments]) with e | e
    · exact h g n c (e ▸ hu)
    · rw [e] at hu; cases hu
  | rop cs ad u hs h1 hc hr => exact .rop cs ad u hs h1 hc hr
  | fn f a b va vb ha hb h h' ih ih' =>
    exact .fn f _ _ va vb (by rw [renL_len]; exact ha) (by rw [renL_len]; exact hb) (hL a va fun j c v hj hv => ih j c v hj hv fun r hr => hh r (by simp only [AV.ments, List.mem_append]; exact .inl (mem_mentsL hj hr)))
      (hL b vb fun j c v hj hv => ih' j c v hj hv fun r hr => hh r (by simp only [AV.ments, List.mem_append]; exact .inr (mem_mentsL hj hr)))
  | hmap r v h1 h =>
    refine .hmap _ v h1 fun u hu => ?_
    rcases hh r (by simp [AV.ments]) with e | e
    · exact h u (e ▸ hu)
    · rw [e] at hu; cases hu
  | rom Q k o h1 h2 h3 => exact .rom Q k o h1 h2 h3
  | opq Q v h1 h => exact .opq Q v h1 h
  | any v => exact .any v
theorem HoldB.ren {w : World} {F : Nat → Prop} {hd hd' : Nm → Hd} {ρ : Nm → Nm} {r s : Nm} {b : Blk} (h : HoldB w F hd r (some b)) (hs : hd' s = hd r) (hh : ∀ m, m ∈ b.ments → hd' (ρ m) = hd m ∨ hd' (ρ m) = .dead) : HoldB w F hd' s (some (b.ren ρ)) := by
  cases b with
  | box ty cs =>
    obtain ⟨k, arr, h1, h2, h3, h4, h5⟩ := h
    refine ⟨k, arr, hs.trans h1, h2, by rw [renL_len]; exact h3, fun j c v hj hv => ?_, h5⟩
    rw [renL_get] at hj
    cases hlj : cs[j]? with
    | none => rw [hlj] at hj; cases hj
    | some y => rw [hlj] at hj; cases hj; exact (h4 j y v hlj hv).ren fun m hm => hh m (mem_mentsL hlj hm)
  | row e sz es =>
    obtain ⟨v, cells, h1, h2⟩ := h
    exact ⟨v, cells, hs.trans h1, h2⟩
  | raw Q =>
    obtain ⟨k, o, h1, h2⟩ := h
    exact ⟨k, o, hs.trans h1, h2⟩
  | iter Q =>
    obtain ⟨k, o, b, ob, h1, h2⟩ := h
    exact ⟨k, o, b, ob, hs.trans h1, h2⟩
  | gen Q =>
    obtain ⟨k, o, h1, h2⟩ := h
    exact ⟨k, o, hs.trans h1, h2⟩

/-! ### a call -/
/-- The names of the blocks that are handed on, as the function that is called has them, and back. -/
def inName (ns : List Nm) (s : Nm) : Nm := go ns 0
where go : List Nm → Nat → Nm
  | [], _ => .out 0
  | x :: l, i => if x.eqb s = true then .arg i else go l (i + 1)
def backName (ns : List Nm) : Nm → Nm
  | .arg i => ns.getD i (.arg i)
  | r => r
def nodupB : List Nm → Bool
  | [] => true
  | x :: l => notIn x l && nodupB l
theorem nodupB_spec {l : List Nm} (h : nodupB l = true) : l.Nodup := by
  induction l with
  | nil => exact List.nodup_nil
  | cons x l ih =>
    simp only [nodupB, Bool.and_eq_true, notIn_iff] at h
    exact List.nodup_cons.2 ⟨h.1, ih h.2⟩
def inHd (ns : List Nm) (hd : Nm → Hd) : Nm → Hd
  | .arg i => match ns[i]? with
    | some s => hd s
    | none => .dead
  | _ => .dead
theorem inName_go {ns : List Nm} {s : Nm} : ∀ {l : List Nm} {i : Nat}, (∀ j, l[j]? = ns[i + j]?) → inName.go s l i = .out 0 ∨ ∃ j, inName.go s l i = .arg j ∧ ns[j]? = some s
  | [], i, _ => .inl rfl
  | x :: l, i, h => by
    simp only [inName.go]
    split
    · rename_i e
      rw [Nm.eqb_iff] at e
      subst e
      exact .inr ⟨i, rfl, by have := h 0; simpa using this.symm⟩
    · exact inName_go fun j => by have := h (j + 1); simpa [Nat.add_assoc, Nat.add_comm 1 j] using this
theorem inHd_in (ns : List Nm) (hd : Nm → Hd) (s : Nm) : inHd ns hd (inName ns s) = hd s ∨ inHd ns hd (inName ns s) = .dead := by
  rcases inName_go (ns := ns) (s := s) (l := ns) (i := 0) (fun j => by simp) with e | ⟨j, e, hj⟩
  · right; unfold inName; rw [e]; rfl
  · left; unfold inName; rw [e]; simp [inHd, hj]
def onlyArgs (n : Nat) : List Nm → Bool
  | [] => true
  | .arg i :: l => Nat.blt i n && onlyArgs n l
  | _ :: _ => false
theorem onlyArgs_spec {n : Nat} {l : List Nm} (h : onlyArgs n l = true) : ∀ r ∈ l, ∃ i, r = .arg i ∧ i < n := by
  induction l with
  | nil => intro r hr; cases hr
  | cons x l ih =>
    cases x with
    | arg i =>
      simp only [onlyArgs, Bool.and_eq_true, Nat.blt_eq] at h
      intro r hr
      rcases List.mem_cons.1 hr with rfl | hr
      · exact ⟨i, rfl, h.1⟩
      · exact ih h.2 r hr
    | _ => simp [onlyArgs] at h
def blksMents : List (Option Blk) → List Nm
  | [] => []
  | some b :: l => b.ments ++ blksMents l
  | none :: l => blksMents l
theorem blksMents_mem {l : List (Option Blk)} {i : Nat} {b : Blk} (h : l[i]? = some (some b)) : ∀ r ∈ b.ments, r ∈ blksMents l := by
  induction l generalizing i with
  | nil => simp at h
  | cons x l ih =>
    intro r hr
    cases i with
    | zero => simp at h; subst h; simp [blksMents, hr]
    | succ i =>
      simp at h
      cases x with
      | none => exact ih h r hr
      | some c => simp only [blksMents, List.mem_append]; exact .inr (ih h r hr)
theorem lkH_keyed (l : List (Option Blk)) (n : Nat) (r : Nm) : lkH (keyed n l) r = match r with
    | .arg i => if n ≤ i then (l[i - n]?).getD none else none
    | _ => none := by
  induction l generalizing n with
  | nil => cases r <;> simp [keyed, lkH]
  | cons b l ih =>
    cases r with
    | arg i =>
      simp only [keyed, lkH, Nm.eqb, Nat.beq_eq, ih]
      by_cases h : n = i
      · subst h; simp
      · by_cases h2 : n + 1 ≤ i
        · have h3 : n ≤ i := by omega
          simp only [h, if_false, h2, if_true, h3, show i - n = (i - (n + 1)) + 1 by omega, List.getElem?_cons_succ]
        · have h3 : ¬ n ≤ i := by omega
          simp [h, h2, h3]
    | _ => simp [keyed, lkH, Nm.eqb, ih]
/-- The blocks that a call has turned. -/
def callUps (ns : List Nm) : List Nm → List (Option Blk) → List (Nm × Option Blk)
  | s :: l, b :: post => (s, b.map (Blk.ren (backName ns))) :: callUps ns l post
  | _, _ => []
def renBs (ρ : Nm → Nm) : List (Option Blk) → List (Option Blk)
  | [] => []
  | b :: l => b.map (Blk.ren ρ) :: renBs ρ l
theorem renBs_get (ρ : Nm → Nm) : ∀ (l : List (Option Blk)) (j : Nat), (renBs ρ l)[j]? = (l[j]?).map (Option.map (Blk.ren ρ))
  | [], j => by simp [renBs]
  | x :: l, 0 => by simp [renBs]
  | x :: l, j + 1 => by simp [renBs, renBs_get ρ l j]
def blksOf (L : LS) : List Nm → List (Option Blk)
  | [] => []
  | s :: l => L.blk s :: blksOf L l
theorem blksOf_get (L : LS) : ∀ (l : List Nm) (j : Nat), (blksOf L l)[j]? = (l[j]?).map L.blk
  | [], j => by simp [blksOf]
  | x :: l, 0 => by simp [blksOf]
  | x :: l, j + 1 => by simp [blksOf, blksOf_get L l j]

theorem callUps_get {ns l : List Nm} {post : List (Option Blk)} {s : Nm} {b : Option Blk} (h : upsGet (callUps ns l post) s = some b) : ∃ (i : Nat) (c : Option Blk), l[i]? = some s ∧ post[i]? = some c ∧ b = c.map (Blk.ren (backName ns)) := by
  induction l generalizing post with
  | nil => simp [callUps, upsGet] at h
  | cons x l ih =>
    cases post with
    | nil => simp [callUps, upsGet] at h
    | cons c post =>
      simp only [callUps, upsGet] at h
      cases hg : upsGet (callUps ns l post) s with
      | some y =>
        rw [hg] at h
        cases h
        obtain ⟨i, c', h1, h2, h3⟩ := ih hg
        exact ⟨i + 1, c', by simpa using h1, by simpa using h2, h3⟩
      | none =>
        rw [hg] at h
        by_cases hx : x = s
        · simp [hx] at h
          exact ⟨0, c, by simp [hx], rfl, h.symm⟩
        · simp [hx] at h
theorem callUps_keys (ns : List Nm) : ∀ (l : List Nm) (post : List (Option Blk)), post.length = l.length → (callUps ns l post).map (·.1) = l
  | [], _, _ => by simp [callUps]
  | s :: l, [], h => by simp at h
  | s :: l, b :: post, h => by simp [callUps, callUps_keys ns l post (by simpa using h)]

/-- A CALL: of a function by name, or of a function value; blocks ns are handed on. -/
theorem sem1_call {C : Ctx} {o : Oper} {L : LS} {c : Call} {x : Operand} {g : FuncId} {fng : Func} {first caps : List AV} {args : List AV} {ns : List Nm} {pre post : List (Option Blk)} {v : AV} (hdst : ∀ d, o.dst = some d → d < C.fn.ntmps) (ho : o.op = .call c) (hc : c.callee = .value x)
    (hx : L.ev x = .fn (.func g) first caps) (hf : C.P.funcs[g]? = some fng) (hn : (fng.name == "runtime.NumGoroutine") = false) (hb : fng.body.isNone = false)
    (hargs : AV.ren.renL (inName ns) (first ++ evL L c.args.toList ++ caps) = args) (hpre : renBs (inName ns) (blksOf L ns) = pre) (hall : ∀ s ∈ ns, ∃ b, L.blk s = some b) (hnd : ns.Nodup) (hlen : post.length = ns.length)
    (hv : onlyArgs ns.length v.ments = true) (hpost : onlyArgs ns.length (blksMents post) = true) (h : ACalls C.P C.Gl g args pre v post) :
    Sem1 C o L.ev (ns.filterMap fun s => (L.blk s).map fun b => (s, b)) ⟨v.ren (backName ns), callUps ns ns post⟩ := by
  intro L' hd F a w hev hfp _ hi K Q hK
  have hblk : ∀ s ∈ ns, L'.blk s = L.blk s := fun s hs => by
    obtain ⟨b, hb⟩ := hall s hs
    rw [hb]
    exact hfp (s, b) (List.mem_filterMap.2 ⟨s, hs, by simp [hb]⟩)
  have hops : ∀ y ∈ c.args.toList, y ∈ o.op.operands.toList := fun y hy => by simp [ho, Op.operands, Call.operands, hc]; right; simpa using hy
  have hxo : x ∈ o.op.operands.toList := by simp [ho, Op.operands, Call.operands, hc]
  have hxv := ev_rep hi x
  rw [hev x hxo, hx] at hxv
  generalize hz : a.eval x = z at hxv
  cases hxv with
  | fn _ _ _ va vb q1 q2 q3 q4 =>
    -- the arguments
    have hreps : ∀ (j : Nat) (y : AV) (u : Value), (first ++ evL L c.args.toList ++ caps)[j]? = some y → (va ++ c.args.toList.map a.eval ++ vb)[j]? = some u → Rep w F hd y u := by
      intro j y u hj hu
      have he : (evL L c.args.toList).length = (c.args.toList.map a.eval).length := by simp [evL_len]
      rw [List.getElem?_append, List.length_append] at hj hu
      rw [← q1, he] at hj
      by_cases h1 : j < va.length + (c.args.toList.map a.eval).length
      · rw [if_pos h1] at hj hu
        rw [List.getElem?_append] at hj hu
        rw [← q1] at hj
        by_cases h2 : j < va.length
        · rw [if_pos h2] at hj hu
          exact q3 j y u hj hu
        · rw [if_neg h2] at hj hu
          rw [evL_get] at hj
          rw [List.getElem?_map] at hu
          cases hqj : c.args.toList[j - va.length]? with
          | none => rw [hqj] at hj; cases hj
          | some p =>
            rw [hqj] at hj hu
            cases hj
            cases hu
            have hp := ev_rep hi p
            rw [hev p (hops p (List.mem_of_getElem? hqj))] at hp
            exact hp
      · rw [if_neg h1] at hj hu
        exact q4 _ y u hj hu
    have hreps' : ∀ (j : Nat) (y : AV) (u : Value), args[j]? = some y → (va ++ c.args.toList.map a.eval ++ vb)[j]? = some u → Rep w F (inHd ns hd) y u := by
      intro j y u hj hu
      rw [← hargs, renL_get] at hj
      cases hlj : (first ++ evL L c.args.toList ++ caps)[j]? with
      | none => rw [hlj] at hj; cases hj
      | some p => rw [hlj] at hj; cases hj; exact (hreps j p u hlj hu).ren fun r _ => inHd_in ns hd r
    -- the blocks
    have hinown : ∀ r k, (inHd ns hd r).owns k → ∃ i s, r = .arg i ∧ ns[i]? = some s ∧ (hd s).owns k := by
      intro r k hk
      cases r with
      | arg i =>
        simp only [inHd] at hk
        cases hi' : ns[i]? with
        | none => rw [hi'] at hk; exact hk.elim
        | some s => rw [hi'] at hk; exact ⟨i, s, rfl, hi', hk⟩
      | _ => exact hk.elim
    have hnsinj : ∀ i j s, ns[i]? = some s → ns[j]? = some s → i = j := fun i j s h1 h2 => by
      have hl1 := (List.getElem?_eq_some_iff.1 h1).1
      exact (List.getElem?_inj hl1 hnd).1 (h1.trans h2.symm)
    have hlies : Lies w F (inHd ns hd) (keyed 0 pre) := by
      refine ⟨fun k hk => (hi.fin k hk).1, fun r s k hne h1 h2 => ?_, fun r k hk => ?_, fun r => ?_⟩
      · obtain ⟨i, s1, rfl, e1, o1⟩ := hinown r k h1
        obtain ⟨j, s2, rfl, e2, o2⟩ := hinown s k h2
        have : s1 ≠ s2 := fun e => hne (by rw [hnsinj i j s1 e1 (e ▸ e2)])
        exact hi.sep s1 s2 k this o1 o2
      · obtain ⟨i, s1, rfl, e1, o1⟩ := hinown r k hk
        exact ⟨(hi.mine s1 k o1).1, (hi.mine s1 k o1).2.1⟩
      · rw [lkH_keyed]
        cases r with
        | arg i =>
          simp only [Nat.zero_le, if_true, Nat.sub_zero]
          rw [← hpre, renBs_get, blksOf_get]
          cases hi' : ns[i]? with
          | none => simp [HoldB, inHd, hi']
          | some s =>
            have hs := List.mem_of_getElem? hi'
            obtain ⟨b, hb⟩ := hall s hs
            have hbl := hi.blocks s
            rw [hblk s hs, hb] at hbl
            simp only [Option.map_some, hb, Option.getD_some]
            exact hbl.ren (by simp [inHd, hi']) fun m _ => inHd_in ns hd m
        | _ => exact rfl
    have hcall := h w F (inHd ns hd) (va ++ c.args.toList.map a.eval ++ vb) hi.gl hlies (by rw [← hargs, renL_len]; simp [q1, q2, evL_len]) hreps'
    have hrun : (execOp a.eval o).run C.P w = .ok (.enter g (va ++ c.args.toList.map a.eval ++ vb).toArray) w := by
      have e : (va ++ c.args.toList.map a.eval ++ vb).toArray = va.toArray ++ c.args.map a.eval ++ vb.toArray := by
        apply Array.ext'
        simp
      have hb' : ¬ fng.body = none := fun h => by rw [h] at hb; cases hb
      have hn' : ¬ fng.name = "runtime.NumGoroutine" := by simpa using hn
      simp [execOp, ho, resolve, hc, hz, Deferred.ofValue, invoke, callFunc, hf, hn', hb']
    unfold Oper.wp
    rw [hrun]
    refine hcall.mono fun e w' he => ?_
    obtain ⟨cv, F', hd', rfl, hr, hl', hle⟩ := he
    -- where the blocks lie behind the call
    let hdn : Nm → Hd := fun s => match inName ns s with
      | .arg i => hd' (.arg i)
      | _ => hd s
    have hin : ∀ s, s ∈ ns → ∃ i, inName ns s = .arg i ∧ ns[i]? = some s := fun s hs => by
      rcases inName_go (ns := ns) (s := s) (l := ns) (i := 0) (fun j => by simp) with e | ⟨j, e, hj⟩
      · exfalso
        clear hcall hlies hreps' hreps hrun hblk hnsinj hall hle hl' hlen hv hpost
        have : ∀ (l : List Nm) (i : Nat), s ∈ l → inName.go s l i ≠ .out 0 := by
          intro l
          induction l with
          | nil => intro i hs; cases hs
          | cons x l ih =>
            intro i hs
            simp only [inName.go]
            split
            · simp
            · rename_i hx
              rcases List.mem_cons.1 hs with rfl | hs
              · exact absurd ((Nm.eqb_iff _ _).2 rfl) hx
              · exact ih _ hs
        exact this ns 0 hs e
      · exact ⟨j, e, hj⟩
    have hout : ∀ s, s ∉ ns → hdn s = hd s := fun s hs => by
      rcases inName_go (ns := ns) (s := s) (l := ns) (i := 0) (fun j => by simp) with e | ⟨j, e, hj⟩
      · simp only [hdn]; unfold inName; rw [e]
      · exact absurd (List.mem_of_getElem? hj) hs
    have hdn_in : ∀ i s, ns[i]? = some s → hdn s = hd' (.arg i) := fun i s hs => by
      obtain ⟨j, e, hj⟩ := hin s (List.mem_of_getElem? hs)
      have := hnsinj i j s hs hj
      subst this
      simp only [hdn, e]
    have hdn_or : ∀ s, hdn s = hd s ∨ hdn s = .dead := fun s => by
      by_cases hs : s ∈ ns
      · obtain ⟨i, _, hj⟩ := hin s hs
        rw [hdn_in i s hj]
        have := hle.kept i
        simp only [inHd, hj] at this
        exact this
      · exact .inl (hout s hs)
    have hdn_own : ∀ s k, (hdn s).owns k → (hd s).owns k := fun s k hk => by
      rcases hdn_or s with e | e
      · exact e ▸ hk
      · rw [e] at hk; exact hk.elim
    have hsame : ∀ k, k < w.heap.size → (∀ s ∈ ns, ¬ (hd s).owns k) → w'.heap[k]? = w.heap[k]? := fun k hk hno => hle.old k hk fun ⟨r, hr⟩ => by
      obtain ⟨i, s, _, hs, ho⟩ := hinown r k hr
      exact hno s (List.mem_of_getElem? hs) ho
    have hF : ∀ k, F k → w'.heap[k]? = w.heap[k]? := fun k hk => hsame k (hi.fin k hk).1 fun s _ ho => (hi.mine s k ho).1 hk
    have hFF : ∀ k, F k → F' k := hle.more
    have hkeys := callUps_keys ns ns post hlen
    have hinv : Inv C (L'.upd (callUps ns ns post)) hdn F' a w' := by
      refine { slots := fun t => ?_, blocks := fun r => ?_, sep := fun r s k hne h1 h2 => hi.sep r s k hne (hdn_own r k h1) (hdn_own s k h2), mine := fun r k hk => ⟨?_, ?_, (hi.mine r k (hdn_own r k hk)).2.2⟩, fin := fun k hk => ⟨hl'.fin k hk, ?_⟩, more := fun k hk => hFF k (hi.more k hk), kept := fun i => ?_, gl := C.Gl.mono hi.gl hF hFF, os := hle.os.trans hi.os, tape := hle.tape.trans hi.tape, output := hle.output.trans hi.output, size := Nat.le_trans hi.size hle.size, old := fun k hk hm => ?_, ntmps := hi.ntmps, defers := hi.defers }
      · have : (L'.upd (callUps ns ns post)).get t = L'.get t := by simp [LS.get, upd_blk]
        rw [this]
        exact (hi.slots t).mono hF hFF fun r _ => hdn_or r
      · rw [upd_get]
        by_cases hr : r ∈ ns
        · obtain ⟨i, _, hj⟩ := hin r hr
          have hlti : i < post.length := by rw [hlen]; exact (List.getElem?_eq_some_iff.1 hj).1
          cases hu : upsGet (callUps ns ns post) r with
          | none =>
            exfalso
            have : ∀ (ups : List (Nm × Option Blk)), r ∈ ups.map (·.1) → upsGet ups r ≠ none := by
              intro ups
              induction ups with
              | nil => intro h; simp at h
              | cons y l ih =>
                obtain ⟨k, b⟩ := y
                intro h hn
                simp only [upsGet] at hn
                cases hl : upsGet l r with
                | some z => rw [hl] at hn; cases hn
                | none =>
                  rw [hl] at hn
                  by_cases hk : k = r
                  · simp [hk] at hn
                  · rcases List.mem_cons.1 h with h | h
                    · exact hk h.symm
                    · exact ih h hl
            exact this _ (by rw [hkeys]; exact hr) hu
          | some b =>
            obtain ⟨i', c', e1, e2, rfl⟩ := callUps_get hu
            obtain rfl := hnsinj i' i r e1 hj
            have hh := hl'.holds (.arg i')
            rw [lkH_keyed] at hh
            simp only [Nat.zero_le, if_true, Nat.sub_zero, e2, Option.getD_some] at hh ⊢
            cases c' with
            | none => exact (hdn_in i' r hj).trans hh
            | some b =>
              simp only [Option.map_some]
              refine hh.ren (hdn_in i' r hj) fun m hm => ?_
              obtain ⟨j, rfl, hj'⟩ := onlyArgs_spec hpost m (blksMents_mem e2 m hm)
              left
              simp only [backName]
              rw [List.getD_eq_getElem?_getD, List.getElem?_eq_getElem hj', Option.getD_some]
              exact hdn_in j _ (List.getElem?_eq_getElem hj')
        · rw [upsGet_none (by rw [hkeys]; exact hr), Option.getD_none]
          exact (hi.blocks r).mono hF hFF (hout r hr) (fun k hk => hsame k (hi.mine r k hk).2.1 fun s hs ho => hi.sep r s k (fun e => hr (e ▸ hs)) hk ho) fun c hc s hs => hdn_or s
      · by_cases hr : r ∈ ns
        · obtain ⟨i, _, hj⟩ := hin r hr
          rw [hdn_in i r hj] at hk
          exact (hl'.mine _ k hk).1
        · rw [hout r hr] at hk
          intro hk'
          rcases hle.fin k hk' with h1 | h1 | ⟨s, hs⟩
          · exact (hi.mine r k hk).1 h1
          · have := (hi.mine r k hk).2.1; omega
          · obtain ⟨i, s', _, hs', ho⟩ := hinown s k hs
            exact hi.sep r s' k (fun e => hr (e ▸ List.mem_of_getElem? hs')) hk ho
      · exact Nat.lt_of_lt_of_le (hi.mine r k (hdn_own r k hk)).2.1 hle.size
      · rcases hle.fin k hk with h1 | h1 | ⟨s, hs⟩
        · exact (hi.fin k h1).2
        · exact .inr (.inl (Nat.le_trans hi.size h1))
        · obtain ⟨i, s', _, hs', ho⟩ := hinown s k hs
          exact .inr (hi.mine s' k ho).2.2
      · rcases hdn_or (.arg i) with e | e
        · rw [e]; exact hi.kept i
        · exact .inr e
      · rw [← hi.old k hk hm]
        refine hsame k (Nat.lt_of_lt_of_le hk hi.size) fun s _ ho => ?_
        rcases (hi.mine s k ho).2.2 with h1 | h1
        · omega
        · exact hm h1
    refine hK _ _ hdn F' (hinv.put o.dst (hr.ren fun r hr' => ?_) hdst)
    obtain ⟨j, rfl, hj'⟩ := onlyArgs_spec hv r hr'
    left
    simp only [backName]
    rw [List.getD_eq_getElem?_getD, List.getElem?_eq_getElem hj', Option.getD_some]
    exact hdn_in j _ (List.getElem?_eq_getElem hj')

end Go.Abs
