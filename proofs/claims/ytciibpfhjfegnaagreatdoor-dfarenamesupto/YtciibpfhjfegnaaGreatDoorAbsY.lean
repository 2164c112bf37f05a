/-
  BYTES OF A CALL's OWN, as strings.Builder uses them: a text behind a row of bytes; the row turned to a text without a copy.
-/
import Derived.Test.YtciibpfhjfegnaaGreatDoorAbsT
import Derived.Lib.AppendStr
import Derived.Lib.UnsafeStr
import Derived.Laws.StructEq
import Derived.BigFrame
set_option linter.unusedVariables false
set_option linter.unusedSimpArgs false
namespace Go.Abs
open Go.RowKit
abbrev byteRow (l : List UInt8) : List (List PV) := l.map fun c => [.val (.int .u8 c.toNat)]
theorem byteRow_len (l : List UInt8) : (byteRow l).length = l.length := by simp
theorem run_append_own_str' {P : Program} {w : World} (t u ty e : TypeId) (i : TypeInfo) (ht : P.underlying t = some (.slice e)) (hu : P.underlying u = some .string) (hi : P.info? e = some i) (hz : i.zero = some (.int .u8 0))
    (hsize : i.size = 1) (hby : i.bytes = 1) (v : Value) (n : Nat) (xs : List Value) (hown : w.ownsRow 0 e 1 v n xs) (s : ByteArray) (hbytes : n + s.size ≤ 140737488355328) :
    ∃ v' w', (Builtin.append_ #[t, u] ty #[v, .string s]).run P w = .ok v' w' ∧ w'.ownsRow 0 e 1 v' (n + s.size) (xs ++ Lib.strCells s) ∧ w.grownBy w' v.ownBlock ∧ (∀ k, v'.ownBlock = some k → w.heap.size ≤ k ∨ v.ownBlock = some k) := by
  obtain ⟨v', w', r1, r2, r3, r4⟩ := Lib.run_append_own_string (P := P) w 0 t u ty e i ht hu hi hz hsize hby v n xs hown s (by simp only [maxLen]; omega) hbytes (Nat.zero_le _)
  refine ⟨v', w', r1, r2, r3, fun k hk => ?_⟩
  rcases hown.2 with ⟨rfl, hn0⟩ | ⟨g, cap, cur, rfl, _, hg, hnc, hcm, hcs, htk⟩
  · by_cases hm : s.size = 0
    · have := r4.2 ⟨rfl, hm⟩
      subst this
      simp [Value.ownBlock] at hk
    · have := run_append_nil_string (P := P) w t u ty e i _ ht hu hi hz s (by omega) (by omega) (by rw [hby]; omega)
      rw [r1] at this
      injection this with f1 f2
      subst f1
      simp only [Value.ownBlock, Option.some.injEq] at hk
      exact .inl (by omega)
  · by_cases hroom : n + s.size ≤ cap
    · have := Lib.run_append_room_string (P := P) w t u ty e i ht hu hi hsize g n cap cur hg s hroom (by omega)
      rw [r1] at this
      injection this with f1 f2
      subst f1
      exact .inr hk
    · have holds : ∀ j u, xs[j]? = some u → w.cell? ((⟨g, 0, none⟩ : Addr).add j) = some u := hown.cells (g := g) rfl
      have := Lib.run_append_grow_string (P := P) w t u ty e i _ ht hu hi hz ⟨g, 0, none⟩ n cap xs (by rw [hsize]; exact hown.1) holds s (by omega) (by omega) (growslice_fits (by omega) (by rw [hby, Nat.mul_one]; exact hbytes))
      rw [r1] at this
      injection this with f1 f2
      subst f1
      simp only [Value.ownBlock, Option.some.injEq] at hk
      exact .inl (by omega)
section
variable {C : Ctx} {P : Program} {Gl : Granted} {T : TT} {n : Nat} {rs : List ResultVar} {v : AV} {post : List (Nm × Option Blk)} {ops : Array Oper} {i : Nat} {o : Oper} {opl : List Oper} {done : List Trace} {todo : List Item} {L : LS}
/-- append(row of bytes, a text ...). -/
theorem Rd.appStr (h : Rd C P Gl T n rs v post) {t u e d : Nat} {x y : Operand} {c : Call} {r : Nm} {l : List UInt8} {s : ByteArray} (hI : ∃ iF, P.info? e = some iF ∧ iF.size = 1 ∧ iF.bytes = 1 ∧ iF.zero = some (.int .u8 0)) (h1 : o.op = .call c) (hc : c.callee = .builtin .append) (hx : c.args = #[x, y]) (ht : c.argTypes = #[t, u]) (hd : o.dst = some d)
    (hT : sliceE T t = some e ∧ isStrT T u = true)
    (hst : Nat.blt d n = true ∧ guardOf ops o L = some true ∧ newOk L (.loc d) = true ∧ L.ev x = .own r ∧ L.blk r = some (.row e 1 (byteRow l)) ∧ L.ev y = .pv (.val (.string s)))
    (hlen : l.length + s.size ≤ 140737488355328)
    (hnext : Go C (.reg ops false (i + 1) opl [] todo (L.app o.dst ⟨.own (.loc d), [(r, none), (.loc d, some (.row e 1 (byteRow (l ++ s.data.toList))))]⟩))) : Go C (.reg ops false i (o :: opl) done todo L) := by
  obtain ⟨t1, t2⟩ := hT
  obtain ⟨iF, j1, t4, t5, hz⟩ := hI
  have hpr := h.prog
  subst hpr
  obtain ⟨h3, h4, h5, h6, h7, h8⟩ := hst
  obtain ⟨n1, n2⟩ := newOk_spec h5
  have hTT := h.tok
  have hne : r ≠ .loc d := fun e => by rw [e, n1] at h7; cases h7
  have hne' : r.eqb (.loc d) = false := by
    cases hh : r.eqb (.loc d) with
    | false => rfl
    | true => exact absurd ((Nm.eqb_iff _ _).1 hh) hne
  have hrr : r.eqb r = true := (Nm.eqb_iff _ _).2 rfl
  refine reg_step (fp := [(r, .row e 1 (byteRow l))]) h4 (sem1_of (fun d' hd' => by rw [hd] at hd'; cases hd'; rw [h.n]; exact Nat.blt_eq.mp h3) fun L' hd' F a w hev hfp hnew hi => ?_) (by simpa using h7) (fun q hq => ?_) rfl hnext
  · obtain ⟨m1, m2⟩ := hnew (.loc d) (by simp [news, hne'])
    have hmx : x ∈ o.op.operands.toList := by simp [h1, Op.operands, Call.operands, hx, hc]
    have hmy : y ∈ o.op.operands.toList := by simp [h1, Op.operands, Call.operands, hx, hc]
    have hblk := hi.blocks r
    rw [hfp (r, .row e 1 (byteRow l)) (by simp)] at hblk
    obtain ⟨v0, cells, q1, q2, q3, q4, q5⟩ := hblk
    have hv := hev x hmx
    rw [h6] at hv
    have e0 : a.eval x = v0 := by cases hv with | own _ _ _ hp => exact hp v0 q1
    have hy := hev y hmy
    rw [h8] at hy
    have e1 := bool_of hy
    obtain ⟨v', w', r1, r2, r3, r4⟩ := run_append_own_str' (P := C.P) (w := w) t u o.type e iF (sliceE_ok hTT t1) (isStrT_ok hTT t2) j1 hz t4 t5 v0 l.length cells (by simpa using q2) s hlen
    obtain ⟨hd2, k1, k2⟩ := inv_row hi (r := .loc d) (by simp) m1 m2 (some r) v0 v' (fun r0 hr => by cases hr; exact ⟨q1, hne⟩) (by simp) r3 e 1 (byteRow (l ++ s.data.toList)) (cells ++ Lib.strCells s) (by
        have : (byteRow (l ++ s.data.toList)).length = l.length + s.size := by simp
        rw [this]; exact r2) (fun k el hk => by
        simp only [byteRow, List.getElem?_map, Option.map_eq_some_iff] at hk
        obtain ⟨c, _, rfl⟩ := hk
        rfl) (fun k j el c u a1 a2 a3 => by
        have hcl : cells.length = l.length := by have := q2.1; simpa using this
        simp only [byteRow, List.getElem?_map, Option.map_eq_some_iff] at a1
        obtain ⟨b, hb, rfl⟩ := a1
        match j, a2 with
        | 0, a2 =>
          simp at a2
          subst a2
          simp only [Nat.mul_one, Nat.add_zero] at a3
          rw [List.getElem?_append] at a3 hb
          by_cases hk : k < l.length
          · rw [if_pos (by omega)] at a3
            rw [if_pos hk] at hb
            exact q4 k 0 _ _ u (by simp only [byteRow, List.getElem?_map, hb]; rfl) rfl (by simpa using a3)
          · rw [if_neg (by omega), hcl] at a3
            rw [if_neg hk] at hb
            simp only [Lib.strCells, List.getElem?_map, hb, Option.map_some, Option.some.injEq] at a3
            subst a3
            exact .val _ rfl
        | j + 1, a2 => simp at a2) (fun u hu => by
        rcases List.mem_append.1 hu with hh | hh
        · exact q5 u hh
        · exact Lib.strCells_oneCell s u hh) r4
    refine ⟨v', w', hd2, F, .inl ?_, k1, k2⟩
    simp [execOp, h1, resolve, hc, hx, ht, invoke, builtin, e0, e1, r1]
  · simp only [news, List.map_cons, List.map_nil] at hq
    obtain ⟨g1, g2⟩ := List.mem_filter.1 hq
    simp at g1 g2
    rcases g1 with rfl | rfl
    · rw [hrr] at g2; cases g2
    · exact ⟨n1, n2, by simp [mayMake1, hd, h1, makes, hc]⟩
end
end Go.Abs
/-
  ROWS THAT A CALL HANDS BACK, be it in the place of others that were handed to it.
-/
set_option linter.unusedVariables false
set_option linter.unusedSimpArgs false
namespace Go.Abs
open Go.RowKit
/-- Rows that are new. -/
def outs : Nat → List Blk → List (Nm × Option Blk)
  | _, [] => []
  | j, b :: l => (.out j, some b) :: outs (j + 1) l
theorem lkH_outs (l : List Blk) (n : Nat) (r : Nm) : lkH (outs n l) r = match r with
    | .out i => if n ≤ i then l[i - n]? else none
    | _ => none := by
  induction l generalizing n with
  | nil => cases r <;> simp [outs, lkH]
  | cons b l ih =>
    cases r with
    | out i =>
      simp only [outs, lkH, Nm.eqb, Nat.beq_eq, ih]
      by_cases h : n = i
      · subst h; simp
      · by_cases h2 : n + 1 ≤ i
        · have h3 : n ≤ i := by omega
          simp only [h, if_false, h2, if_true, h3, show i - n = (i - (n + 1)) + 1 by omega, List.getElem?_cons_succ]
        · have h3 : ¬ n ≤ i := by omega
          simp [h, h2, h3]
    | _ => simp [outs, lkH, Nm.eqb, ih]
theorem lkH_app (l : List (Option Blk)) (n : Nat) (rest : List (Nm × Option Blk)) (r : Nm) : lkH (keyed n l ++ rest) r = match r with
    | .arg i => if n ≤ i ∧ i < n + l.length then (l[i - n]?).getD none else lkH rest (.arg i)
    | r => lkH rest r := by
  induction l generalizing n with
  | nil => cases r <;> simp [keyed] <;> intros <;> omega
  | cons b l ih =>
    cases r with
    | arg i =>
      simp only [keyed, List.cons_append, lkH, Nm.eqb, Nat.beq_eq, ih, List.length_cons]
      by_cases h : n = i
      · subst h; simp
      · by_cases h2 : n + 1 ≤ i ∧ i < n + 1 + l.length
        · have h3 : n ≤ i ∧ i < n + (l.length + 1) := by omega
          simp only [h, if_false, h2, if_true, h3, and_self, show i - n = (i - (n + 1)) + 1 by omega, List.getElem?_cons_succ]
        · have h3 : ¬ (n ≤ i ∧ i < n + (l.length + 1)) := by omega
          rw [if_neg h, if_neg h2, if_neg h3]
    | _ => simp [keyed, lkH, Nm.eqb, ih]
/-- The name, in the function that is called, of what lies at i of what is handed on and of what comes back. -/
def qName (n i : Nat) : Nm := if i < n then .arg i else .out (i - n)
theorem qName_inj {n i j : Nat} (h : qName n i = qName n j) : i = j := by
  unfold qName at h
  split at h <;> split at h <;> simp at h <;> omega
theorem lkH_handed (post : List (Option Blk)) (xs : List Blk) (i : Nat) : lkH (keyed 0 post ++ outs 0 xs) (qName post.length i) = ((post ++ xs.map some)[i]?).getD none := by
  unfold qName
  by_cases h : i < post.length
  · rw [if_pos h, lkH_app]
    simp only [Nat.zero_le, true_and, Nat.zero_add, h, if_true, Nat.sub_zero]
    rw [List.getElem?_append_left h]
  · rw [if_neg h, lkH_app]
    simp only
    rw [lkH_outs, List.getElem?_append_right (by omega), List.getElem?_map]
    simp only [Nat.zero_le, if_true, Nat.sub_zero]
    cases xs[i - post.length]? <;> rfl
/-- A function that hands back rows, too. -/
structure FunO (P : Program) (Gl : Granted) (g : FuncId) (args : List AV) (pre : List (Option Blk)) (v : AV) (post : List (Option Blk)) (xs : List Blk) : Prop where
  fn : ∃ fng, P.funcs[g]? = some fng ∧ (fng.name == "runtime.NumGoroutine") = false ∧ fng.body.isNone = false
  calls : ∀ (w0 : World) (F0 : Nat → Prop) (hd0 : Nm → Hd) (cargs : List Value), Gl.p w0 F0 → Lies w0 F0 hd0 (keyed 0 pre) → cargs.length = args.length → (∀ (j : Nat) (x : AV) (c : Value), args[j]? = some x → cargs[j]? = some c → Rep w0 F0 hd0 x c) →
    Calls P g cargs.toArray w0 (ownR w0 F0 hd0 (keyed 0 post ++ outs 0 xs) v)
theorem funO_of {P : Program} {Gl : Granted} {f : FuncId} {fn : Func} {c : Code} {args : List AV} {pre post : List (Option Blk)} {xs : List Blk} {v : AV} {T : TT} {n : Nat} {rs : List ResultVar} (hf : P.funcs[f]? = some fn) (hname : (fn.name == "runtime.NumGoroutine") = false) (hb : fn.body = some c) (hn : fn.ntmps = n) (hrs : fn.results.toList = rs)
    (hT : TOk P T) (hm : P.follows .mixedOrders = true) (hl : args.length ≤ n) (h : ∀ C, Rd C P Gl T n rs v (keyed 0 post ++ outs 0 xs) → Go C (.top [.code c] (LS.start args pre))) : FunO P Gl f args pre v post xs :=
  ⟨⟨fn, hf, hname, by rw [hb]; rfl⟩, own_calls hf hb (by rw [hn]; exact hl) fun w0 F0 hd0 => h _ ⟨rfl, rfl, hT, hn, hm, fun L x h1 h2 h3 => ⟨go_done hT hf (by rw [hrs]; exact h1) h2 h3, fun k => go_ret hT hf (by rw [hrs]; exact h1) h2 h3⟩⟩⟩
def backO (ns os : List Nm) : Nm → Nm
  | .arg i => ns.getD i (.arg i)
  | .out j => os.getD j (.out j)
  | r => r
def upsR (ρ : Nm → Nm) : List Nm → List (Option Blk) → List (Nm × Option Blk)
  | s :: l, b :: post => (s, b.map (Blk.ren ρ)) :: upsR ρ l post
  | _, _ => []
theorem upsR_get {ρ : Nm → Nm} {l : List Nm} {post : List (Option Blk)} {s : Nm} {b : Option Blk} (h : upsGet (upsR ρ l post) s = some b) : ∃ (i : Nat) (c : Option Blk), l[i]? = some s ∧ post[i]? = some c ∧ b = c.map (Blk.ren ρ) := by
  induction l generalizing post with
  | nil => simp [upsR, upsGet] at h
  | cons x l ih =>
    cases post with
    | nil => simp [upsR, upsGet] at h
    | cons c post =>
      simp only [upsR, upsGet] at h
      cases hg : upsGet (upsR ρ l post) s with
      | some y =>
        rw [hg] at h
        cases h
        obtain ⟨i, c', h1, h2, h3⟩ := ih hg
        exact ⟨i + 1, c', by simpa using h1, by simpa using h2, h3⟩
      | none =>
        rw [hg] at h
        by_cases hx : x = s
        · simp [hx] at h
          exact ⟨0, c, by simp [hx], rfl, h.symm⟩
        · simp [hx] at h
theorem upsR_keys (ρ : Nm → Nm) : ∀ (l : List Nm) (post : List (Option Blk)), post.length = l.length → (upsR ρ l post).map (·.1) = l
  | [], _, _ => by simp [upsR]
  | s :: l, [], h => by simp at h
  | s :: l, b :: post, h => by simp [upsR, upsR_keys ρ l post (by simpa using h)]
theorem upsGet_some {ups : List (Nm × Option Blk)} {r : Nm} (h : r ∈ ups.map (·.1)) : upsGet ups r ≠ none := by
  induction ups with
  | nil => simp at h
  | cons y l ih =>
    obtain ⟨k, b⟩ := y
    intro hn
    simp only [upsGet] at hn
    cases hl : upsGet l r with
    | some z => rw [hl] at hn; cases hn
    | none =>
      rw [hl] at hn
      by_cases hk : k = r
      · simp [hk] at hn
      · rcases List.mem_cons.1 h with h | h
        · exact hk h.symm
        · exact ih h hl
/-- Only what was handed on, or comes back, is named. -/
def onlyIO (n m : Nat) : List Nm → Bool
  | [] => true
  | .arg i :: l => Nat.blt i n && onlyIO n m l
  | .out i :: l => Nat.blt i m && onlyIO n m l
  | _ :: _ => false
theorem onlyIO_spec {n m : Nat} {l : List Nm} (h : onlyIO n m l = true) : ∀ r ∈ l, (∃ i, r = .arg i ∧ i < n) ∨ (∃ i, r = .out i ∧ i < m) := by
  induction l with
  | nil => intro r hr; cases hr
  | cons x l ih =>
    cases x with
    | arg i =>
      simp only [onlyIO, Bool.and_eq_true, Nat.blt_eq] at h
      intro r hr
      rcases List.mem_cons.1 hr with rfl | hr
      · exact .inl ⟨i, rfl, h.1⟩
      · exact ih h.2 r hr
    | out i =>
      simp only [onlyIO, Bool.and_eq_true, Nat.blt_eq] at h
      intro r hr
      rcases List.mem_cons.1 hr with rfl | hr
      · exact .inr ⟨i, rfl, h.1⟩
      · exact ih h.2 r hr
    | _ => simp [onlyIO] at h
theorem inName_mem {ns : List Nm} {s : Nm} (hs : s ∈ ns) : ∃ i, inName ns s = .arg i ∧ ns[i]? = some s := by
  rcases inName_go (ns := ns) (s := s) (l := ns) (i := 0) (fun j => by simp) with e | ⟨j, e, hj⟩
  · exfalso
    have : ∀ (l : List Nm) (i : Nat), s ∈ l → inName.go s l i ≠ .out 0 := by
      intro l
      induction l with
      | nil => intro i hs; cases hs
      | cons x l ih =>
        intro i hs
        simp only [inName.go]
        split
        · simp
        · rename_i hx
          rcases List.mem_cons.1 hs with rfl | hs
          · exact absurd ((Nm.eqb_iff _ _).2 rfl) hx
          · exact ih _ hs
    exact this ns 0 hs e
  · exact ⟨j, e, hj⟩
theorem inName_not {ns : List Nm} {s : Nm} (hs : s ∉ ns) : inName ns s = .out 0 := by
  rcases inName_go (ns := ns) (s := s) (l := ns) (i := 0) (fun j => by simp) with e | ⟨j, e, hj⟩
  · exact e
  · exact absurd (List.mem_of_getElem? hj) hs
/-- A CALL that hands back rows, under the names os. -/
theorem sem1_callO {C : Ctx} {o : Oper} {L : LS} {c : Call} {x : Operand} {g : FuncId} {first caps : List AV} {args : List AV} {ns os : List Nm} {pre post : List (Option Blk)} {xs : List Blk} {v : AV} (hdst : ∀ d, o.dst = some d → d < C.fn.ntmps) (ho : o.op = .call c) (hc : c.callee = .value x)
    (hx : L.ev x = .fn (.func g) first caps)
    (hargs : AV.ren.renL (inName ns) (first ++ evL L c.args.toList ++ caps) = args) (hpre : renBs (inName ns) (blksOf L ns) = pre) (hall : ∀ s ∈ ns, ∃ b, L.blk s = some b) (hnd : (ns ++ os).Nodup) (hlen : post.length = ns.length) (hlen2 : xs.length = os.length)
    (hnoarg : ∀ s ∈ os, ∀ i, s ≠ .arg i)
    (hv : onlyIO ns.length os.length v.ments = true) (hpost : onlyIO ns.length os.length (blksMents (post ++ xs.map some)) = true) (h : FunO C.P C.Gl g args pre v post xs) :
    Sem1 C o L.ev (ns.filterMap fun s => (L.blk s).map fun b => (s, b)) ⟨v.ren (backO ns os), upsR (backO ns os) (ns ++ os) (post ++ xs.map some)⟩ := by
  intro L' hd F a w hev hfp hnew hi K Q hK
  have hblk : ∀ s ∈ ns, L'.blk s = L.blk s := fun s hs => by
    obtain ⟨b, hb⟩ := hall s hs
    rw [hb]
    exact hfp (s, b) (List.mem_filterMap.2 ⟨s, hs, by simp [hb]⟩)
  have hfresh : ∀ s ∈ os, L'.blk s = none ∧ L'.Fresh s ∧ ∀ i, s ≠ .arg i := fun s hs => by
    have hk := upsR_keys (backO ns os) (ns ++ os) (post ++ xs.map some) (by simp [hlen, hlen2])
    have hne : s ∉ ns := fun h => (List.nodup_append.1 hnd).2.2 s h s hs rfl
    obtain ⟨q1, q2⟩ := hnew s (List.mem_filter.2 ⟨by rw [hk]; simp [hs], by
      simp only [Bool.not_eq_true', List.any_eq_false]
      intro q hq
      obtain ⟨s', hs', hq'⟩ := List.mem_filterMap.1 hq
      obtain ⟨b, hb⟩ := hall s' hs'
      rw [hb] at hq'
      cases hq'
      intro e
      rw [Nm.eqb_iff] at e
      exact hne (e ▸ hs')⟩)
    exact ⟨q1, q2, hnoarg s hs⟩
  have hops : ∀ y ∈ c.args.toList, y ∈ o.op.operands.toList := fun y hy => by simp [ho, Op.operands, Call.operands, hc]; right; simpa using hy
  have hxo : x ∈ o.op.operands.toList := by simp [ho, Op.operands, Call.operands, hc]
  obtain ⟨⟨fng, hf, hn, hb⟩, h⟩ := h
  have hxv := ev_rep hi x
  rw [hev x hxo, hx] at hxv
  generalize hz : a.eval x = z at hxv
  cases hxv with
  | fn _ _ _ va vb q1 q2 q3 q4 =>
    -- the arguments
    have hreps : ∀ (j : Nat) (y : AV) (u : Value), (first ++ evL L c.args.toList ++ caps)[j]? = some y → (va ++ c.args.toList.map a.eval ++ vb)[j]? = some u → Rep w F hd y u := by
      intro j y u hj hu
      have he : (evL L c.args.toList).length = (c.args.toList.map a.eval).length := by simp [evL_len]
      rw [List.getElem?_append, List.length_append] at hj hu
      rw [← q1, he] at hj
      by_cases h1 : j < va.length + (c.args.toList.map a.eval).length
      · rw [if_pos h1] at hj hu
        rw [List.getElem?_append] at hj hu
        rw [← q1] at hj
        by_cases h2 : j < va.length
        · rw [if_pos h2] at hj hu
          exact q3 j y u hj hu
        · rw [if_neg h2] at hj hu
          rw [evL_get] at hj
          rw [List.getElem?_map] at hu
          cases hqj : c.args.toList[j - va.length]? with
          | none => rw [hqj] at hj; cases hj
          | some p =>
            rw [hqj] at hj hu
            cases hj
            cases hu
            have hp := ev_rep hi p
            rw [hev p (hops p (List.mem_of_getElem? hqj))] at hp
            exact hp
      · rw [if_neg h1] at hj hu
        exact q4 _ y u hj hu
    have hreps' : ∀ (j : Nat) (y : AV) (u : Value), args[j]? = some y → (va ++ c.args.toList.map a.eval ++ vb)[j]? = some u → Rep w F (inHd ns hd) y u := by
      intro j y u hj hu
      rw [← hargs, renL_get] at hj
      cases hlj : (first ++ evL L c.args.toList ++ caps)[j]? with
      | none => rw [hlj] at hj; cases hj
      | some p => rw [hlj] at hj; cases hj; exact (hreps j p u hlj hu).ren fun r _ => inHd_in ns hd r
    -- the blocks
    have hinown : ∀ r k, (inHd ns hd r).owns k → ∃ i s, r = .arg i ∧ ns[i]? = some s ∧ (hd s).owns k := by
      intro r k hk
      cases r with
      | arg i =>
        simp only [inHd] at hk
        cases hi' : ns[i]? with
        | none => rw [hi'] at hk; exact hk.elim
        | some s => rw [hi'] at hk; exact ⟨i, s, rfl, hi', hk⟩
      | _ => exact hk.elim
    have hndn : ns.Nodup := (List.nodup_append.1 hnd).1
    have hnsinj : ∀ i j s, ns[i]? = some s → ns[j]? = some s → i = j := fun i j s h1 h2 => by
      have hl1 := (List.getElem?_eq_some_iff.1 h1).1
      exact (List.getElem?_inj hl1 hndn).1 (h1.trans h2.symm)
    have hinj : ∀ i j s, (ns ++ os)[i]? = some s → (ns ++ os)[j]? = some s → i = j := fun i j s h1 h2 => by
      have hl1 := (List.getElem?_eq_some_iff.1 h1).1
      exact (List.getElem?_inj hl1 hnd).1 (h1.trans h2.symm)
    have hlies : Lies w F (inHd ns hd) (keyed 0 pre) := by
      refine ⟨fun k hk => (hi.fin k hk).1, fun r s k hne h1 h2 => ?_, fun r k hk => ?_, fun r => ?_⟩
      · obtain ⟨i, s1, rfl, e1, o1⟩ := hinown r k h1
        obtain ⟨j, s2, rfl, e2, o2⟩ := hinown s k h2
        have : s1 ≠ s2 := fun e => hne (by rw [hnsinj i j s1 e1 (e ▸ e2)])
        exact hi.sep s1 s2 k this o1 o2
      · obtain ⟨i, s1, rfl, e1, o1⟩ := hinown r k hk
        exact ⟨(hi.mine s1 k o1).1, (hi.mine s1 k o1).2.1⟩
      · rw [lkH_keyed]
        cases r with
        | arg i =>
          simp only [Nat.zero_le, if_true, Nat.sub_zero]
          rw [← hpre, renBs_get, blksOf_get]
          cases hi' : ns[i]? with
          | none => simp [HoldB, inHd, hi']
          | some s =>
            have hs := List.mem_of_getElem? hi'
            obtain ⟨b, hb⟩ := hall s hs
            have hbl := hi.blocks s
            rw [hblk s hs, hb] at hbl
            simp only [Option.map_some, hb, Option.getD_some]
            exact hbl.ren (by simp [inHd, hi']) fun m _ => inHd_in ns hd m
        | _ => exact rfl
    have hcall := h w F (inHd ns hd) (va ++ c.args.toList.map a.eval ++ vb) hi.gl hlies (by rw [← hargs, renL_len]; simp [q1, q2, evL_len]) hreps'
    have hrun : (execOp a.eval o).run C.P w = .ok (.enter g (va ++ c.args.toList.map a.eval ++ vb).toArray) w := by
      have e : (va ++ c.args.toList.map a.eval ++ vb).toArray = va.toArray ++ c.args.map a.eval ++ vb.toArray := by
        apply Array.ext'
        simp
      have hb' : ¬ fng.body = none := fun h => by rw [h] at hb; cases hb
      have hn' : ¬ fng.name = "runtime.NumGoroutine" := by simpa using hn
      simp [execOp, ho, resolve, hc, hz, Deferred.ofValue, invoke, callFunc, hf, hn', hb']
    unfold Oper.wp
    rw [hrun]
    refine hcall.mono fun e w' he => ?_
    obtain ⟨cv, F', hd', rfl, hr, hl', hle⟩ := he
    -- where the blocks lie behind the call
    obtain ⟨all, hallE⟩ : ∃ all, ns ++ os = all := ⟨_, rfl⟩
    rw [hallE] at hinj
    let hdn : Nm → Hd := fun s => match inName all s with
      | .arg i => hd' (qName ns.length i)
      | _ => hd s
    have hout : ∀ s, s ∉ all → hdn s = hd s := fun s hs => by
      simp only [hdn]; rw [inName_not hs]
    have hdn_in : ∀ i s, all[i]? = some s → hdn s = hd' (qName ns.length i) := fun i s hs => by
      obtain ⟨j, e, hj⟩ := inName_mem (List.mem_of_getElem? hs)
      have := hinj i j s hs hj
      subst this
      simp only [hdn, e]
    have hns_at : ∀ s ∈ ns, ∃ i, ns[i]? = some s ∧ all[i]? = some s ∧ i < ns.length := fun s hs => by
      obtain ⟨i, hi'⟩ := List.getElem?_of_mem hs
      have hl := (List.getElem?_eq_some_iff.1 hi').1
      exact ⟨i, hi', by rw [← hallE, List.getElem?_append_left hl]; exact hi', hl⟩
    have hdn_or : ∀ s, s ∉ os → hdn s = hd s ∨ hdn s = .dead := fun s hso => by
      by_cases hs : s ∈ ns
      · obtain ⟨i, h1, h2, h3⟩ := hns_at s hs
        rw [hdn_in i s h2]
        have := hle.kept i
        simp only [inHd, h1] at this
        simp only [qName, if_pos h3]
        exact this
      · exact .inl (hout s (by rw [← hallE]; simp [hs, hso]))
    have hown : ∀ s ∈ all, ∀ k, (hdn s).owns k → w.heap.size ≤ k ∨ ∃ s' ∈ ns, (hd s').owns k := fun s hs k hk => by
      obtain ⟨i, hi'⟩ := List.getElem?_of_mem hs
      rw [hdn_in i s hi'] at hk
      rcases hle.mine _ k hk with h1 | ⟨r, hr⟩
      · exact .inl h1
      · obtain ⟨j, s', _, hs', ho'⟩ := hinown r k hr
        exact .inr ⟨s', List.mem_of_getElem? hs', ho'⟩
    have hsub : ∀ s ∈ ns, s ∈ all := fun s hs => by rw [← hallE]; simp [hs]
    have hsame : ∀ k, k < w.heap.size → (∀ s ∈ ns, ¬ (hd s).owns k) → w'.heap[k]? = w.heap[k]? := fun k hk hno => hle.old k hk fun ⟨r, hr⟩ => by
      obtain ⟨i, s, _, hs, ho⟩ := hinown r k hr
      exact hno s (List.mem_of_getElem? hs) ho
    have hF : ∀ k, F k → w'.heap[k]? = w.heap[k]? := fun k hk => hsame k (hi.fin k hk).1 fun s _ ho => (hi.mine s k ho).1 hk
    have hFF : ∀ k, F k → F' k := hle.more
    have hblen : (post ++ xs.map some).length = all.length := by rw [← hallE]; simp [hlen, hlen2]
    have hkeys := upsR_keys (backO ns os) all (post ++ xs.map some) hblen
    have hback : ∀ m, (∃ i, m = .arg i ∧ i < ns.length) ∨ (∃ i, m = .out i ∧ i < os.length) → hdn (backO ns os m) = hd' m := fun m hm => by
      rcases hm with ⟨i, rfl, hi'⟩ | ⟨i, rfl, hi'⟩
      · have h2 : all[i]? = some (ns.getD i (.arg i)) := by
          rw [← hallE, List.getElem?_append_left hi', List.getD_eq_getElem?_getD, List.getElem?_eq_getElem hi']; rfl
        have := hdn_in i _ h2
        simp only [qName, if_pos hi'] at this
        exact this
      · have h2 : all[ns.length + i]? = some (os.getD i (.out i)) := by
          rw [← hallE, List.getElem?_append_right (by omega), List.getD_eq_getElem?_getD, Nat.add_sub_cancel_left, List.getElem?_eq_getElem hi']; rfl
        have := hdn_in (ns.length + i) _ h2
        rw [qName, if_neg (by omega), Nat.add_sub_cancel_left] at this
        exact this
    have hinv : Inv C (L'.upd (upsR (backO ns os) all (post ++ xs.map some))) hdn F' a w' := by
      refine { slots := fun t => ?_, blocks := fun r => ?_, sep := fun r s k hne h1 h2 => ?_, mine := fun r k hk => ⟨?_, ?_, ?_⟩, fin := fun k hk => ⟨hl'.fin k hk, ?_⟩, more := fun k hk => hFF k (hi.more k hk), kept := fun i => ?_, gl := C.Gl.mono hi.gl hF hFF, os := hle.os.trans hi.os, tape := hle.tape.trans hi.tape, output := hle.output.trans hi.output, size := Nat.le_trans hi.size hle.size, old := fun k hk hm => ?_, ntmps := hi.ntmps, defers := hi.defers }
      · have : (L'.upd (upsR (backO ns os) all (post ++ xs.map some))).get t = L'.get t := by simp [LS.get, upd_blk]
        rw [this]
        exact (hi.slots t).mono hF hFF fun r hr => hdn_or r fun hro => (hfresh r hro).2.1.1 t hr
      · rw [upd_get]
        by_cases hr : r ∈ all
        · cases hu : upsGet (upsR (backO ns os) all (post ++ xs.map some)) r with
          | none => exact absurd hu (upsGet_some (by rw [hkeys]; exact hr))
          | some b =>
            obtain ⟨i, c', e1, e2, rfl⟩ := upsR_get hu
            have hh := hl'.holds (qName ns.length i)
            rw [← hlen, lkH_handed, e2] at hh
            rw [hlen] at hh
            simp only [Option.getD_some] at hh ⊢
            cases c' with
            | none => exact (hdn_in i r e1).trans hh
            | some b =>
              simp only [Option.map_some]
              refine hh.ren (hdn_in i r e1) fun m hm => .inl ?_
              exact hback m (onlyIO_spec hpost m (blksMents_mem e2 m hm))
        · rw [upsGet_none (by rw [hkeys]; exact hr), Option.getD_none]
          exact (hi.blocks r).mono hF hFF (hout r hr) (fun k hk => hsame k (hi.mine r k hk).2.1 fun s hs ho => hi.sep r s k (fun e => hr (e ▸ hsub s hs)) hk ho) fun c hc s hs => hdn_or s fun hso => (hfresh s hso).2.1.2 r c hc hs
      · by_cases hra : r ∈ all <;> by_cases hsa : s ∈ all
        · obtain ⟨i, hi'⟩ := List.getElem?_of_mem hra
          obtain ⟨j, hj'⟩ := List.getElem?_of_mem hsa
          rw [hdn_in i r hi'] at h1
          rw [hdn_in j s hj'] at h2
          refine hl'.sep _ _ k (fun e => ?_) h1 h2
          have := qName_inj e
          subst this
          rw [hi'] at hj'
          cases hj'
          exact hne rfl
        · rw [hout s hsa] at h2
          rcases hown r hra k h1 with h3 | ⟨s', hs', h3⟩
          · have := (hi.mine s k h2).2.1; omega
          · exact hi.sep s' s k (fun e => hsa (e ▸ hsub s' hs')) h3 h2
        · rw [hout r hra] at h1
          rcases hown s hsa k h2 with h3 | ⟨s', hs', h3⟩
          · have := (hi.mine r k h1).2.1; omega
          · exact hi.sep s' r k (fun e => hra (e ▸ hsub s' hs')) h3 h1
        · rw [hout r hra] at h1
          rw [hout s hsa] at h2
          exact hi.sep r s k hne h1 h2
      · by_cases hr : r ∈ all
        · obtain ⟨i, hj⟩ := List.getElem?_of_mem hr
          rw [hdn_in i r hj] at hk
          exact (hl'.mine _ k hk).1
        · rw [hout r hr] at hk
          intro hk'
          rcases hle.fin k hk' with h1 | h1 | ⟨s, hs⟩
          · exact (hi.mine r k hk).1 h1
          · have := (hi.mine r k hk).2.1; omega
          · obtain ⟨i, s', _, hs', ho⟩ := hinown s k hs
            exact hi.sep r s' k (fun e => hr (e ▸ hsub s' (List.mem_of_getElem? hs'))) hk ho
      · by_cases hr : r ∈ all
        · obtain ⟨i, hj⟩ := List.getElem?_of_mem hr
          rw [hdn_in i r hj] at hk
          exact (hl'.mine _ k hk).2
        · rw [hout r hr] at hk
          exact Nat.lt_of_lt_of_le (hi.mine r k hk).2.1 hle.size
      · by_cases hr : r ∈ all
        · rcases hown r hr k hk with h3 | ⟨s', hs', h3⟩
          · exact .inl (Nat.le_trans hi.size h3)
          · exact (hi.mine s' k h3).2.2
        · rw [hout r hr] at hk
          exact (hi.mine r k hk).2.2
      · rcases hle.fin k hk with h1 | h1 | ⟨s, hs⟩
        · exact (hi.fin k h1).2
        · exact .inr (.inl (Nat.le_trans hi.size h1))
        · obtain ⟨i, s', _, hs', ho⟩ := hinown s k hs
          exact .inr (hi.mine s' k ho).2.2
      · rcases hdn_or (.arg i) (fun hso => (hfresh _ hso).2.2 i rfl) with e | e
        · rw [e]; exact hi.kept i
        · exact .inr e
      · rw [← hi.old k hk hm]
        refine hsame k (Nat.lt_of_lt_of_le hk hi.size) fun s _ ho => ?_
        rcases (hi.mine s k ho).2.2 with h1 | h1
        · omega
        · exact hm h1
    rw [← hallE] at hinv
    refine hK _ _ hdn F' (hinv.put o.dst (hr.ren fun r hr' => .inl ?_) hdst)
    exact hback r (onlyIO_spec hv r hr')
def argB : Nm → Bool
  | .arg _ => true
  | _ => false
def freshAll (L : LS) : List Nm → Bool
  | [] => true
  | r :: l => newOk L r && !argB r && freshAll L l
theorem freshAll_spec {L : LS} {os : List Nm} (h : freshAll L os = true) : ∀ s ∈ os, L.blk s = none ∧ L.Fresh s ∧ ∀ i, s ≠ .arg i := by
  induction os with
  | nil => intro s hs; cases hs
  | cons x l ih =>
    simp only [freshAll, Bool.and_eq_true] at h
    intro s hs
    rcases List.mem_cons.1 hs with rfl | hs
    · obtain ⟨h1, h2⟩ := newOk_spec h.1.1
      exact ⟨h1, h2, fun i e => by subst e; have := h.1.2; simp [argB] at this⟩
    · exact ih h.2 s hs
/-- What such a call asks of the operation that makes it. -/
def callSideO (n : Nat) (ops : Array Oper) (o : Oper) (L : LS) (g : FuncId) (args : List AV) (ns os : List Nm) (pre : List (Option Blk)) (v : AV) (post : List (Option Blk)) (xs : List Blk) : Prop := match o.op with
  | .call c => match c.callee with
    | .value x => match L.ev x with
      | .fn (.func g') first caps => g' = g ∧ guardOf ops o L = some true ∧ dstOk n o = true ∧ AV.ren.renL (inName ns) (first ++ evL L c.args.toList ++ caps) = args ∧ renBs (inName ns) (blksOf L ns) = pre ∧ allSome (blksOf L ns) = true ∧ nodupB (ns ++ os) = true ∧ post.length = ns.length ∧ xs.length = os.length ∧
        freshAll L os = true ∧ onlyIO ns.length os.length v.ments = true ∧ onlyIO ns.length os.length (blksMents (post ++ xs.map some)) = true
      | _ => False
    | _ => False
  | _ => False
theorem Rd.callO {C : Ctx} {P : Program} {Gl : Granted} {T : TT} {n : Nat} {rs : List ResultVar} {v : AV} {post : List (Nm × Option Blk)} (h : Rd C P Gl T n rs v post) {g : FuncId} {args : List AV} {pre' post' : List (Option Blk)} {xs : List Blk} {r : AV} (ns os : List Nm) (hc : FunO P Gl g args pre' r post' xs) {ops : Array Oper} {i : Nat} {o : Oper} {opl : List Oper} {done : List Trace} {todo : List Item} {L : LS}
    (hs : callSideO n ops o L g args ns os pre' r post' xs) (hnext : Go C (.reg ops false (i + 1) opl [] todo (L.app o.dst ⟨r.ren (backO ns os), upsR (backO ns os) (ns ++ os) (post' ++ xs.map some)⟩))) : Go C (.reg ops false i (o :: opl) done todo L) := by
  unfold callSideO at hs
  split at hs
  · rename_i c ho
    split at hs
    · rename_i x hcal
      split at hs
      · rename_i g' first caps hx
        obtain ⟨rfl, hg, hd, hargs, hpre, hall, hnd, hlen, hlen2, hfr, hv, hpost⟩ := hs
        have hp0 := h.prog
        have hg0 := h.gl
        subst hp0
        subst hg0
        have hfr := freshAll_spec hfr
        have hall := allSome_spec hall
        have e1 := fp_names hall
        have e2 := upsR_keys (backO ns os) (ns ++ os) (post' ++ xs.map some) (by simp [hlen, hlen2])
        have hsem := sem1_callO (C := C) (L := L) (fun d hd' => by rw [h.n]; exact dstOk_spec hd d hd') ho hcal hx hargs hpre hall (nodupB_spec hnd) hlen hlen2 (fun s hs => (hfr s hs).2.2) hv hpost hc
        refine reg_stepN (· = L.app o.dst ⟨r.ren (backO ns os), upsR (backO ns os) (ns ++ os) (post' ++ xs.map some)⟩) ⟨hg, fun hd F a w hi K Q hK => hsem L hd F a w (fun _ _ => rfl) (fun q hq => ?_) (fun s hs => ?_) hi K Q fun a' w' hd' F' hi' => hK _ a' w' hd' F' rfl hi'⟩ fun L1 e => by subst e; exact hnext
        · obtain ⟨s, hs, hq⟩ := List.mem_filterMap.1 hq
          obtain ⟨b, hb⟩ := hall s hs
          rw [hb] at hq
          cases hq
          exact hb
        · obtain ⟨h1, h2⟩ := List.mem_filter.1 hs
          rw [e2] at h1
          rcases List.mem_append.1 h1 with h1 | h1
          · exfalso
            obtain ⟨b, hb⟩ := hall s h1
            simp only [Bool.not_eq_true', List.any_eq_false] at h2
            exact h2 (s, b) (List.mem_filterMap.2 ⟨s, h1, by simp [hb]⟩) ((Nm.eqb_iff _ _).2 rfl)
          · exact ⟨(hfr s h1).1, (hfr s h1).2.1⟩
      · exact hs.elim
    · exact hs.elim
  · exact hs.elim
/-- .. in a region whose order is drawn: the row's name is the operation's. -/
def callSideD (n : Nat) (ops : Array Oper) (i : Nat) (o : Oper) (opl : List Oper) (done : List Trace) (L : LS) (d : Nat) (g : FuncId) (args : List AV) (ns : List Nm) (pre : List (Option Blk)) (v : AV) (post : List (Option Blk)) (xs : List Blk) : Prop :=
  o.dst = some d ∧ callSideO n ops o L g args ns [.loc d] pre v post xs ∧ okPair ops true done o ⟨i, ns, ns ++ [.loc d]⟩ ((v.ren (backO ns [.loc d])).ments ++ upsMents (upsR (backO ns [.loc d]) (ns ++ [.loc d]) (post ++ xs.map some))) opl = true
theorem Rd.callD {C : Ctx} {P : Program} {Gl : Granted} {T : TT} {n : Nat} {rs : List ResultVar} {v : AV} {post : List (Nm × Option Blk)} (h : Rd C P Gl T n rs v post) {g : FuncId} {args : List AV} {pre' post' : List (Option Blk)} {xs : List Blk} {r : AV} (ns : List Nm) (d : Nat) (hc : FunO P Gl g args pre' r post' xs) {ops : Array Oper} {i : Nat} {o : Oper} {opl : List Oper} {done : List Trace} {todo : List Item} {L : LS}
    (hs : callSideD n ops i o opl done L d g args ns pre' r post' xs) (hnext : Go C (.reg ops true (i + 1) opl (nexts o true ⟨i, ns, ns ++ [.loc d]⟩ done) todo (L.app o.dst ⟨r.ren (backO ns [.loc d]), upsR (backO ns [.loc d]) (ns ++ [.loc d]) (post' ++ xs.map some)⟩))) : Go C (.reg ops true i (o :: opl) done todo L) := by
  obtain ⟨hdd, hs, hok⟩ := hs
  unfold callSideO at hs
  split at hs
  · rename_i c ho
    split at hs
    · rename_i x hcal
      split at hs
      · rename_i g' first caps hx
        obtain ⟨rfl, hg, hd, hargs, hpre, hall, hnd, hlen, hlen2, hfr, hv, hpost⟩ := hs
        have hp0 := h.prog
        have hg0 := h.gl
        subst hp0
        subst hg0
        have hfr := freshAll_spec hfr
        have hall := allSome_spec hall
        have e1 := fp_names hall
        have e2 := upsR_keys (backO ns [.loc d]) (ns ++ [.loc d]) (post' ++ xs.map some) (by simp [hlen, hlen2])
        have hsem := sem1_callO (C := C) (L := L) (fun d hd' => by rw [h.n]; exact dstOk_spec hd d hd') ho hcal hx hargs hpre hall (nodupB_spec hnd) hlen hlen2 (fun s hs => (hfr s hs).2.2) hv hpost hc
        refine reg_step hg hsem (fun q hq => ?_) (fun s hs => ?_) ?_ ?_
        · obtain ⟨s, hs, hq⟩ := List.mem_filterMap.1 hq
          obtain ⟨b, hb⟩ := hall s hs
          rw [hb] at hq
          cases hq
          exact hb
        · obtain ⟨h1, h2⟩ := List.mem_filter.1 hs
          rw [e2] at h1
          rcases List.mem_append.1 h1 with h1 | h1
          · exfalso
            obtain ⟨b, hb⟩ := hall s h1
            simp only [Bool.not_eq_true', List.any_eq_false] at h2
            exact h2 (s, b) (List.mem_filterMap.2 ⟨s, h1, by simp [hb]⟩) ((Nm.eqb_iff _ _).2 rfl)
          · refine ⟨(hfr s h1).1, (hfr s h1).2.1, ?_⟩
            rw [List.mem_singleton] at h1
            subst h1
            simp [mayMake1, hdd, makes, ho, hcal]
        · rw [e1, e2]; exact hok
        · rw [e1, e2]; exact hnext
      · exact hs.elim
    · exact hs.elim
  · exact hs.elim
end Go.Abs
/-
  BYTES OF A CALL's OWN, taken for a text without a copy.
-/
set_option linter.unusedVariables false
set_option linter.unusedSimpArgs false
namespace Go.Abs
open Go.RowKit
/-- Some pointer. -/
def somePtr : AV := .opq fun _ _ v => ∃ p, v = .pointer p
section
variable {C : Ctx} {P : Program} {Gl : Granted} {T : TT} {n : Nat} {rs : List ResultVar} {v : AV} {post : List (Nm × Option Blk)} {ops : Array Oper} {draw : Bool} {i : Nat} {o : Oper} {opl : List Oper} {done : List Trace} {todo : List Item} {L : LS}
theorem Rd.sliceData (h : Rd C P Gl T n rs v post) {e : Nat} {x : Operand} {c : Call} {r : Nm} {l : List UInt8} (hl : l ≠ []) (h1 : o.op = .call c) (hc : c.callee = .builtin .unsafeSliceData) (hx : c.args = #[x])
    (hst : guardOf ops o L = some true ∧ dstOk n o = true ∧ L.ev x = .own r ∧ L.blk r = some (.row e 1 (byteRow l)) ∧ okPair ops draw done o ⟨i, [r], []⟩ [r] opl = true)
    (hnext : Go C (.reg ops draw (i + 1) opl (nexts o draw ⟨i, [r], []⟩ done) todo (L.app o.dst ⟨.ept r 1 0 0, []⟩))) : Go C (.reg ops draw i (o :: opl) done todo L) := by
  obtain ⟨h2, h3, h4, h5, h6⟩ := hst
  refine reg_step (fp := [(r, .row e 1 (byteRow l))]) h2 (sem1_read (fun d hd => by rw [h.n]; exact dstOk_spec h3 d hd) fun L' hd F a w hev hfp hi => ?_) (by simpa using h5) (fun q hq => by simp [news] at hq) (by simpa [upsMents, AV.ments] using h6) hnext
  have hblk := hi.blocks r
  rw [hfp (r, .row e 1 (byteRow l)) (by simp)] at hblk
  obtain ⟨v0, cells, q1, q2, q3, q4, q5⟩ := hblk
  have hv := hev x (by simp [h1, Op.operands, Call.operands, hx, hc])
  rw [h4] at hv
  have e0 : a.eval x = v0 := by cases hv with | own _ _ _ hp => exact hp v0 q1
  rcases q2.2 with ⟨_, h0⟩ | ⟨g, cap, cur, rfl, _, hg, hnc, _⟩
  · exact absurd (List.eq_nil_of_length_eq_zero (by simpa using h0)) hl
  · have hn : 0 < (byteRow l).length := by rw [byteRow_len]; exact List.length_pos_iff.2 hl
    refine ⟨.pointer (some ⟨g, 0, none⟩), ?_, .ept r 1 0 0 _ rfl fun g' n' c' hh => ?_⟩
    · have := Lib.run_unsafeSliceData_row (P := C.P) w c.argTypes o.type ⟨g, 0, none⟩ (byteRow l).length cap (by omega)
      simp [execOp, h1, resolve, hc, hx, invoke, builtin, e0]
      rw [byteRow_len] at this
      rw [this]
      rfl
    · rw [q1] at hh
      simp at hh
      rw [hh.1]
theorem Rd.sliceData0 (h : Rd C P Gl T n rs v post) {e e' : Nat} {x : Operand} {c : Call} {r : Nm} (hp : P.underlying o.type = some (.pointer e')) (h1 : o.op = .call c) (hc : c.callee = .builtin .unsafeSliceData) (hx : c.args = #[x])
    (hst : guardOf ops o L = some true ∧ dstOk n o = true ∧ L.ev x = .own r ∧ L.blk r = some (.row e 1 []) ∧ okPair ops draw done o ⟨i, [r], []⟩ [] opl = true)
    (hnext : Go C (.reg ops draw (i + 1) opl (nexts o draw ⟨i, [r], []⟩ done) todo (L.app o.dst ⟨somePtr, []⟩))) : Go C (.reg ops draw i (o :: opl) done todo L) := by
  obtain ⟨h2, h3, h4, h5, h6⟩ := hst
  have hpr := h.prog
  subst hpr
  refine reg_step (fp := [(r, .row e 1 [])]) (A := ⟨somePtr, []⟩) h2 (sem1_of (fun d hd => by rw [h.n]; exact dstOk_spec h3 d hd) fun L' hd F a w hev hfp _ hi => ?_) (by simpa using h5) (fun q hq => by simp [news] at hq) (by simpa [upsMents, AV.ments, somePtr] using h6) hnext
  have hblk := hi.blocks r
  rw [hfp (r, .row e 1 []) (by simp)] at hblk
  obtain ⟨v0, cells, q1, q2, q3, q4, q5⟩ := hblk
  have hv := hev x (by simp [h1, Op.operands, Call.operands, hx, hc])
  rw [h4] at hv
  have e0 : a.eval x = v0 := by cases hv with | own _ _ _ hp => exact hp v0 q1
  have hopq : ∀ (w : World) (p : Option Addr), Rep w F hd somePtr (.pointer p) := fun w p => .opq _ _ rfl fun _ _ _ _ => ⟨p, rfl⟩
  rcases q2.2 with ⟨rfl, _⟩ | ⟨g, cap, cur, rfl, _, hg, hnc, _⟩
  · refine ⟨.pointer none, w, hd, F, .inl ?_, hi, hopq w none⟩
    have := Lib.run_unsafeSliceData_nil (P := C.P) w c.argTypes o.type 0 0
    simp [execOp, h1, resolve, hc, hx, invoke, builtin, e0, this]
  · by_cases hcap : cap = 0
    · subst hcap
      refine ⟨.pointer (some ⟨w.heap.size, 0, none⟩), w.alloc (.view ⟨g, 0, none⟩ e'), hd, F, .inl ?_, ?_, hopq _ _⟩
      · have := Lib.run_unsafeSliceData_zero (P := C.P) w c.argTypes o.type e' hp ⟨g, 0, none⟩ 0 (e, cur.size) (by simp [World.shape?, hg])
        simp [execOp, h1, resolve, hc, hx, invoke, builtin, e0, this]
      · exact inv_more hi rfl rfl rfl (by simp) (fun k hk => heap_alloc_old w _ hk) (fun _ h => h) fun _ h => .inl h
    · refine ⟨.pointer (some ⟨g, 0, none⟩), w, hd, F, .inl ?_, hi, hopq w _⟩
      have := Lib.run_unsafeSliceData_row (P := C.P) w c.argTypes o.type ⟨g, 0, none⟩ 0 cap hcap
      simp [execOp, h1, resolve, hc, hx, invoke, builtin, e0, this]
theorem Rd.unsafeStr0 (h : Rd C P Gl T n rs v post) {x y : Operand} {c : Call} {pt it : TypeId} (h1 : o.op = .call c) (hc : c.callee = .builtin .unsafeString) (hx : c.args = #[x, y]) (ht : c.argTypes = #[pt, it])
    (hst : guardOf ops o L = some true ∧ dstOk n o = true ∧ L.ev x = somePtr ∧ L.ev y = .pv (.val (.int .i64 0)) ∧ okPair ops draw done o ⟨i, [], []⟩ [] opl = true)
    (hnext : Go C (.reg ops draw (i + 1) opl (nexts o draw ⟨i, [], []⟩ done) todo (L.app o.dst ⟨.pv (.val (.string ⟨#[]⟩)), []⟩))) : Go C (.reg ops draw i (o :: opl) done todo L) := by
  obtain ⟨h2, h3, h4, h5, h6⟩ := hst
  refine reg_step (fp := []) h2 (sem1_read (fun d hd => by rw [h.n]; exact dstOk_spec h3 d hd) fun L' hd F a w hev hfp hi => ⟨_, ?_, .pv _ _ (.val _ rfl)⟩) (by simp) (fun q hq => by simp [news] at hq) (by simpa [upsMents, AV.ments] using h6) hnext
  have hv := hev x (by simp [h1, Op.operands, Call.operands, hx, hc])
  have hy := hev y (by simp [h1, Op.operands, Call.operands, hx, hc])
  rw [h4] at hv
  rw [h5] at hy
  have e1 := bool_of hy
  have : ∃ p, a.eval x = .pointer p := by
    cases hv with
    | opq _ _ _ hq => exact hq w F (fun _ _ => rfl) fun _ h => h
  obtain ⟨p, e0⟩ := this
  have := Lib.run_unsafeString_none (P := C.P) w pt it o.type p
  simp [execOp, h1, resolve, hc, hx, ht, invoke, builtin, e0, e1, this]
  rfl
theorem freeze_at {w : World} {g n k : Nat} (h : k ≠ g) : (w.freeze ⟨g, 0, none⟩ n).heap[k]? = w.heap[k]? := by
  unfold World.freeze
  split
  · rfl
  · simp only [Array.getElem?_modify]
    rw [if_neg (fun e => h e.symm)]
theorem freeze_rest (w : World) (a : Addr) (n : Nat) : (w.freeze a n).os = w.os ∧ (w.freeze a n).tape = w.tape ∧ (w.freeze a n).output = w.output ∧ (w.freeze a n).heap.size = w.heap.size := by
  unfold World.freeze
  split
  · exact ⟨rfl, rfl, rfl, rfl⟩
  · exact ⟨rfl, rfl, rfl, by simp⟩
theorem Rd.unsafeStr (h : Rd C P Gl T n rs v post) {x y : Operand} {c : Call} {pt it : TypeId} {e : Nat} {r : Nm} {l : List UInt8} (hl : l ≠ []) (hp : P.underlying pt = some (.pointer e)) (hco : P.cellsOf e = 1) (h1 : o.op = .call c) (hc : c.callee = .builtin .unsafeString) (hx : c.args = #[x, y]) (ht : c.argTypes = #[pt, it])
    (hst : guardOf ops o L = some true ∧ dstOk n o = true ∧ L.ev x = .ept r 1 0 0 ∧ L.ev y = .pv (.val (.int .i64 l.length)) ∧ L.blk r = some (.row e 1 (byteRow l)) ∧ okPair ops draw done o ⟨i, [r], [r]⟩ [] opl = true)
    (hnext : Go C (.reg ops draw (i + 1) opl (nexts o draw ⟨i, [r], [r]⟩ done) todo (L.app o.dst ⟨.pv (.val (.string ⟨l.toArray⟩)), [(r, none)]⟩))) : Go C (.reg ops draw i (o :: opl) done todo L) := by
  obtain ⟨h2, h3, h4, h5, h6, h7⟩ := hst
  have hpr := h.prog
  subst hpr
  have hrr : r.eqb r = true := (Nm.eqb_iff _ _).2 rfl
  refine reg_step (fp := [(r, .row e 1 (byteRow l))]) (A := ⟨.pv (.val (.string ⟨l.toArray⟩)), [(r, none)]⟩) h2 (sem1_of (fun d hd => by rw [h.n]; exact dstOk_spec h3 d hd) fun L' hd F a w hev hfp _ hi => ?_) (by simpa using h6) (fun q hq => ?_) (by simpa [upsMents, AV.ments] using h7) hnext
  · have hblk := hi.blocks r
    rw [hfp (r, .row e 1 (byteRow l)) (by simp)] at hblk
    obtain ⟨v0, cells, q1, q2, q3, q4, q5⟩ := hblk
    have hv := hev x (by simp [h1, Op.operands, Call.operands, hx, hc])
    have hy := hev y (by simp [h1, Op.operands, Call.operands, hx, hc])
    rw [h4] at hv
    rw [h5] at hy
    have e1 := bool_of hy
    have hcl : cells.length = l.length := by have := q2.1; simpa using this
    have hcells := fun g hg => q2.cells (g := g) hg
    rcases q2.2 with ⟨_, h0⟩ | ⟨g, cap, cur, rfl, _, hg, hnc, hcm, hcs, htk⟩
    · exact absurd (List.eq_nil_of_length_eq_zero (by simpa using h0)) hl
    · have e0 : a.eval x = .pointer (some ⟨g, 0, none⟩) := by
        cases hv with
        | ept _ _ _ _ _ _ hh => simpa using hh g _ _ q1
      have hcell : ∀ (j : Nat) (b : UInt8), l[j]? = some b → w.cell? ((⟨g, 0, none⟩ : Addr).add j) = some (.int .u8 b.toNat) := fun j b hj => by
        have hjl : j < cells.length := by rw [hcl]; exact (List.getElem?_eq_some_iff.1 hj).1
        have h8 := q4 j 0 [.val (.int .u8 b.toNat)] (.val (.int .u8 b.toNat)) cells[j] (by simp [byteRow, hj]) rfl (by simp [hjl])
        have h9 : cells[j] = .int .u8 b.toNat := by
          generalize cells[j] = z at h8
          cases h8
          rfl
        rw [← h9]
        exact hcells g rfl j _ (List.getElem?_eq_getElem hjl)
      have hsz : l.length ≤ cur.size := by
        rw [byteRow_len] at hnc
        have := hcs
        simp at this
        omega
      have hrun := Lib.run_unsafeString_row (P := C.P) w pt it o.type e hp hco g cur.size (by simp [World.shape?, hg]) l hl hsz (by rw [byteRow_len] at hnc; simp only [maxLen] at hcm; omega) hcell
      obtain ⟨f1, f2, f3, f4⟩ := freeze_rest w ⟨g, 0, none⟩ l.length
      refine ⟨.string ⟨l.toArray⟩, w.freeze ⟨g, 0, none⟩ l.length, fun s => if s = r then .dead else hd s, F, .inl ?_, inv_upd hi [(r, none)] _ (fun k => k = g) f1 f2 f3 (Nat.le_of_eq f4.symm) (fun k hk hn => freeze_at hn) (fun k hk => ⟨r, by rw [q1, hk]; exact rfl⟩) (fun s hs => ?_) (fun s b hs => ?_) (fun s hs => ?_) (fun r' s k hne h8 h9 => ?_) (fun r' k hk => ?_), .pv _ _ (.val _ rfl)⟩
      · simp [execOp, h1, resolve, hc, hx, ht, invoke, builtin, e0, e1, hrun]
      · have hs : s ≠ r := fun e => hs (by subst e; exact List.mem_singleton.2 rfl)
        refine ⟨by simp [hs], fun k hk hn => ?_⟩
        subst hn
        exact hi.sep s r k hs hk (by rw [q1]; exact rfl)
      · by_cases hrs : r = s
        · subst hrs
          simp [upsGet] at hs
          subst hs
          simp [HoldB]
        · simp [upsGet, hrs] at hs
      · have hs : s = r := List.mem_singleton.1 hs
        subst hs
        right; left; simp
      · by_cases a1 : r' = r
        · rw [if_pos a1] at h8; exact h8.elim
        · by_cases a2 : s = r
          · rw [if_pos a2] at h9; exact h9.elim
          · rw [if_neg a1] at h8
            rw [if_neg a2] at h9
            exact hi.sep r' s k hne h8 h9
      · by_cases a1 : r' = r
        · rw [if_pos a1] at hk; exact hk.elim
        · rw [if_neg a1] at hk
          exact ⟨.inl ⟨r', hk⟩, by rw [f4]; exact (hi.mine r' k hk).2.1⟩
  · simp [news, hrr] at hq
end
/-- A nil slice in a block that is handed on, taken for a row of no elements. -/
theorem funO_nil {P : Program} {Gl : Granted} {g : FuncId} {args : List AV} {v : AV} {ty e sz : Nat} {cs : List AV} {c0 : AV} {b' : Option Blk} {xs : List Blk} (hm : ∀ c ∈ args, Nm.arg 1 ∉ c.ments) (hm0 : Nm.arg 1 ∉ c0.ments)
    (h : FunO P Gl g args [some (.box ty [c0, .own (.arg 1)]), some (.row e sz [])] v [b', none] xs) : FunO P Gl g args [some (.box ty [c0, .pv (.nilS sz)])] v [b'] xs := by
  refine ⟨h.fn, fun w0 F0 hd0 cargs hg hl hlen hr => ?_⟩
  have hd1 : hd0 (.arg 1) = .dead := by have := hl.holds (.arg 1); simpa [keyed, lkH, Nm.eqb, HoldB] using this
  let hd1' : Nm → Hd := fun s => if s = .arg 1 then .row (.slice none 0 0) else hd0 s
  have hown : ∀ s k, (hd1' s).owns k → (hd0 s).owns k := fun s k hk => by
    simp only [hd1'] at hk
    split at hk
    · exact absurd hk (by simp [Hd.owns, Value.ownBlock])
    · exact hk
  have hsame : ∀ s, s ≠ .arg 1 → hd1' s = hd0 s := fun s hs => by simp [hd1', hs]
  have hrep : ∀ (c : AV) (u : Value), Nm.arg 1 ∉ c.ments → Rep w0 F0 hd0 c u → Rep w0 F0 hd1' c u := fun c u hc hu => hu.mono (fun _ _ => rfl) (fun _ h => h) fun s hs => .inl (hsame s fun e => hc (e ▸ hs))
  have h0 := hl.holds (.arg 0)
  simp [keyed, lkH, Nm.eqb] at h0
  obtain ⟨k, arr, p1, p2, p3, p4, p5⟩ := h0
  refine (h.calls w0 F0 hd1' cargs hg ⟨hl.fin, fun r s k hne h1 h2 => hl.sep r s k hne (hown r k h1) (hown s k h2), fun r k hk => hl.mine r k (hown r k hk), fun r => ?_⟩ hlen fun j x c hj hc => ?_).mono fun e' w' he => ?_
  · by_cases r0 : r = .arg 0
    · subst r0
      simp [keyed, lkH, Nm.eqb]
      refine ⟨k, arr, by rw [hsame _ (by simp)]; exact p1, p2, p3, fun j c u hj hu => ?_, p5⟩
      match j, hj with
      | 0, hj =>
        simp at hj
        subst hj
        exact hrep _ _ hm0 (p4 0 _ u rfl hu)
      | 1, hj =>
        simp at hj
        subst hj
        have := p4 1 _ u rfl hu
        cases this with
        | pv _ _ hp => cases hp with
          | nilS => exact .own _ _ rfl fun u hu => by simp [hd1'] at hu; exact hu
    · by_cases r1 : r = .arg 1
      · subst r1
        simp [keyed, lkH, Nm.eqb]
        exact ⟨.slice none 0 0, [], by simp [hd1'], World.ownsRow_nil w0 0 e sz, by simp, by simp, by simp⟩
      · have : lkH (keyed 0 [some (.box ty [c0, .own (.arg 1)]), some (.row e sz [])]) r = none := by
          have e0 : ¬ Nm.arg 0 = r := fun e => r0 e.symm
          have e1 : ¬ Nm.arg 1 = r := fun e => r1 e.symm
          simp [keyed, lkH, Nm.eqb_iff, e0, e1]
        rw [this]
        have h2 := hl.holds r
        have : lkH (keyed 0 [some (.box ty [c0, .pv (.nilS sz)])]) r = none := by
          have e0 : ¬ Nm.arg 0 = r := fun e => r0 e.symm
          simp [keyed, lkH, Nm.eqb_iff, e0]
        rw [this] at h2
        exact (hsame r r1).trans h2
  · exact hrep x c (hm x (List.mem_of_getElem? hj)) (hr j x c hj hc)
  · obtain ⟨cv, F, hd, rfl, hrep, hlies, hleft⟩ := he
    refine ⟨cv, F, hd, rfl, hrep, ⟨hlies.fin, hlies.sep, hlies.mine, fun r => ?_⟩, ⟨fun r j hj => ?_, fun j hj => ?_, hleft.more, fun i => ?_, hleft.os, hleft.tape, hleft.output, hleft.size, fun j hj hn => hleft.old j hj fun ⟨s, hs⟩ => hn ⟨s, hown s j hs⟩⟩⟩
    · have := hlies.holds r
      rw [lkH_app] at this ⊢
      cases r with
      | arg i =>
        simp only [List.length_cons, List.length_nil] at this ⊢
        match i, this with
        | 0, this => simpa using this
        | 1, this => simpa [lkH_outs] using this
        | i + 2, this => simpa [lkH_outs] using this
      | _ => simpa using this
    · rcases hleft.mine r j hj with h1 | ⟨s, hs⟩
      · exact .inl h1
      · exact .inr ⟨s, hown s j hs⟩
    · rcases hleft.fin j hj with h1 | h1 | ⟨s, hs⟩
      · exact .inl h1
      · exact .inr (.inl h1)
      · exact .inr (.inr ⟨s, hown s j hs⟩)
    · by_cases hi : i = 1
      · subst hi
        right
        have := hlies.holds (.arg 1)
        rw [lkH_app] at this
        simpa [HoldB] using this
      · have := hleft.kept i
        rw [hsame (.arg i) (by simp [hi])] at this
        exact this
end Go.Abs
/-
  THE LARGER OF TWO NUMBERS; structs that are compared; going on from another state within a region.
-/
set_option linter.unusedVariables false
set_option linter.unusedSimpArgs false
namespace Go.Abs
open Go.RowKit
section
variable {C : Ctx} {P : Program} {Gl : Granted} {T : TT} {n : Nat} {rs : List ResultVar} {v : AV} {post : List (Nm × Option Blk)} {ops : Array Oper} {draw : Bool} {i : Nat} {o : Oper} {opl : List Oper} {done : List Trace} {todo : List Item} {L : LS}
theorem Rd.max (h : Rd C P Gl T n rs v post) {x y : Operand} {c : Call} {k : IntKind} {a b : Int} (h1 : o.op = .call c) (hc : c.callee = .builtin .max) (hx : c.args = #[x, y])
    (hst : guardOf ops o L = some true ∧ dstOk n o = true ∧ L.ev x = .pv (.val (.int k a)) ∧ L.ev y = .pv (.val (.int k b)) ∧ okPair ops draw done o ⟨i, [], []⟩ [] opl = true)
    (hnext : Go C (.reg ops draw (i + 1) opl (nexts o draw ⟨i, [], []⟩ done) todo (L.app o.dst ⟨.pv (.val (.int k (if b > a then b else a))), []⟩))) : Go C (.reg ops draw i (o :: opl) done todo L) := by
  obtain ⟨h2, h3, h4, h5, h6⟩ := hst
  refine reg_step (fp := []) h2 (sem1_read (fun d hd => by rw [h.n]; exact dstOk_spec h3 d hd) fun L' hd F a' w hev hfp hi => ⟨_, ?_, .pv _ _ (.val _ rfl)⟩) (by simp) (fun q hq => by simp [news] at hq) (by simpa [upsMents, AV.ments] using h6) hnext
  have hv := hev x (by simp [h1, Op.operands, Call.operands, hx, hc])
  have hy := hev y (by simp [h1, Op.operands, Call.operands, hx, hc])
  rw [h4] at hv
  rw [h5] at hy
  have e0 := bool_of hv
  have e1 := bool_of hy
  have := run_max_int2 (P := C.P) (w := w) c.argTypes o.type k k a b
  simp [execOp, h1, resolve, hc, hx, invoke, builtin, e0, e1, this]
/-- Are two structs of two texts others? -/
theorem Rd.neqAgg (h : Rd C P Gl T n rs v post) {x y : Operand} {t ty : TypeId} {a b c d : ByteArray}
    (hP : ∀ w, (eqGuard .neq t x y (.agg #[.string a, .string b]) (.agg #[.string c, .string d])).run P w = .ok () w ∧ (binOp .neq t (.agg #[.string a, .string b]) (.agg #[.string c, .string d])).run P w = .ok (.bool (!decide ((a, b) = (c, d)))) w) (h1 : o.op = .binOp .neq t x y ty)
    (hst : guardOf ops o L = some true ∧ dstOk n o = true ∧ L.ev x = .agg [.pv (.val (.string a)), .pv (.val (.string b))] ∧ L.ev y = .agg [.pv (.val (.string c)), .pv (.val (.string d))] ∧ okPair ops draw done o ⟨i, [], []⟩ [] opl = true)
    (hnext : Go C (.reg ops draw (i + 1) opl (nexts o draw ⟨i, [], []⟩ done) todo (L.app o.dst ⟨.pv (.val (.bool (!decide ((a, b) = (c, d))))), []⟩))) : Go C (.reg ops draw i (o :: opl) done todo L) := by
  obtain ⟨h2, h3, h4, h5, h6⟩ := hst
  have hpr := h.prog
  subst hpr
  refine reg_step (fp := []) h2 (sem1_read (fun d hd => by rw [h.n]; exact dstOk_spec h3 d hd) fun L' hd F a' w hev hfp hi => ⟨_, ?_, .pv _ _ (.val _ rfl)⟩) (by simp) (fun q hq => by simp [news] at hq) (by simpa [upsMents, AV.ments] using h6) hnext
  have hv := hev x (by simp [h1, Op.operands])
  have hy := hev y (by simp [h1, Op.operands])
  rw [h4] at hv
  rw [h5] at hy
  have two : ∀ {p q : ByteArray} {z : Value}, Rep w F hd (.agg [.pv (.val (.string p)), .pv (.val (.string q))]) z → z = .agg #[.string p, .string q] := fun {p q z} hz => by
    cases hz with
    | agg _ cs hl hh _ =>
      match cs, hl with
      | [c0, c1], _ =>
        rw [bool_of (hh 0 _ c0 rfl rfl), bool_of (hh 1 _ c1 rfl rfl)]
  have e0 := two hv
  have e1 := two hy
  obtain ⟨g1, g2⟩ := hP w
  simp only [execOp, h1, e0, e1, Sem.run_bind, g1, Result.andThen_ok, g2]
  rfl
end
end Go.Abs
/-
  A ROW OF BYTES of the call's own, turned to a text.
-/
set_option linter.unusedVariables false
set_option linter.unusedSimpArgs false
namespace Go.Abs
open Go.RowKit
theorem foldl_push (l : List UInt8) (s : ByteArray) : (l.map fun b => (b.toNat : Int)).foldl (fun r n => r.push (UInt8.ofNat n.toNat)) s = ⟨s.data ++ l.toArray⟩ := by
  induction l generalizing s with
  | nil => simp
  | cons b l ih =>
    simp only [List.map_cons, List.foldl_cons, ih]
    congr 1
    apply Array.ext'
    simp [ByteArray.push]
section
variable {C : Ctx} {P : Program} {Gl : Granted} {T : TT} {n : Nat} {rs : List ResultVar} {v : AV} {post : List (Nm × Option Blk)} {ops : Array Oper} {i : Nat} {o : Oper} {opl : List Oper} {done : List Trace} {todo : List Item} {L : LS}
theorem Rd.rowStr (h : Rd C P Gl T n rs v post) {s d e : Nat} {x : Operand} {r : Nm} {l : List UInt8} (h1 : o.op = .convert s d x) (ht : sliceE T s = some e ∧ intK T e = some .u8 ∧ isStrT T d = true)
    (hst : guardOf ops o L = some true ∧ dstOk n o = true ∧ L.ev x = .own r ∧ L.blk r = some (.row e 1 (byteRow l)))
    (hnext : Go C (.reg ops false (i + 1) opl [] todo (L.app o.dst ⟨.pv (.val (.string ⟨l.toArray⟩)), []⟩))) : Go C (.reg ops false i (o :: opl) done todo L) := by
  obtain ⟨h2, h3, h4, h5⟩ := hst
  obtain ⟨t1, t2, t3⟩ := ht
  have hT := h.tok
  refine reg_step (fp := [(r, .row e 1 (byteRow l))]) h2 (sem1_read (fun d hd => by rw [h.n]; exact dstOk_spec h3 d hd) fun L' hd F a w hev hfp hi => ⟨_, ?_, rep_val rfl⟩) (by simpa using h5) (by simp [news]) rfl hnext
  have hblk := hi.blocks r
  rw [hfp (r, .row e 1 (byteRow l)) (by simp)] at hblk
  obtain ⟨v0, cells, q1, q2, q3, q4, q5⟩ := hblk
  have hv := hev x (by simp [h1, Op.operands])
  rw [h4] at hv
  have e0 : a.eval x = v0 := by cases hv with | own _ _ _ hp => exact hp v0 q1
  have hcl : cells.length = l.length := by have := q2.1; simpa using this
  have hcells := fun g hg => q2.cells (g := g) hg
  rcases q2.2 with ⟨rfl, h0⟩ | ⟨g, cap, cur, rfl, _, hg, hnc, hcm, hcs, htk⟩
  · have hl : l = [] := List.eq_nil_of_length_eq_zero (by simpa using h0)
    subst hl
    have hcv := run_convert_bytes_string (P := C.P) w s d e none 0 0 (sliceE_ok hT t1) (intK_ok hT t2) (isStrT_ok hT t3)
    simp [execOp, h1, e0, hcv, Conv.bytesToString]
    rfl
  · have hcell : ∀ (j : Nat) (y : Value), (l.map fun b => Value.int .u8 (b.toNat : Int))[j]? = some y → w.cell? ((⟨g, 0, none⟩ : Addr).add j) = some y := fun j y hj => by
      simp only [List.getElem?_map, Option.map_eq_some_iff] at hj
      obtain ⟨b, hb, rfl⟩ := hj
      have hjl : j < cells.length := by rw [hcl]; exact (List.getElem?_eq_some_iff.1 hb).1
      have h8 := q4 j 0 [.val (.int .u8 b.toNat)] (.val (.int .u8 b.toNat)) cells[j] (by simp [byteRow, hb]) rfl (by simp [hjl])
      have h9 : cells[j] = .int .u8 b.toNat := by
        generalize cells[j] = z at h8
        cases h8
        rfl
      rw [← h9]
      exact hcells g rfl j _ (List.getElem?_eq_getElem hjl)
    have hl : (loadCells ⟨g, 0, none⟩ (byteRow l).length).run C.P w = .ok ((l.map fun b => (b.toNat : Int)).map (Value.int .u8)).toArray w := by
      have := run_loadCells_list (P := C.P) (w := w) ⟨g, 0, none⟩ (l.map fun b => Value.int .u8 (b.toNat : Int)) hcell
      rw [List.length_map] at this
      rw [byteRow_len, List.map_map]
      exact this
    have hb := run_bytesToString (P := C.P) w ⟨g, 0, none⟩ (byteRow l).length cap _ hl
    rw [foldl_push] at hb
    have hcv := run_convert_bytes_string (P := C.P) w s d e (some ⟨g, 0, none⟩) (byteRow l).length cap (sliceE_ok hT t1) (intK_ok hT t2) (isStrT_ok hT t3)
    rw [hb] at hcv
    simp only [execOp, h1, e0]
    simp only [Sem.run_bind, hcv, Result.andThen_ok]
    simp
end
end Go.Abs
