/-
  BYTES OF A CALL's OWN, as strings.Builder uses them: a text behind a row of bytes; the row turned to a text without a copy.
-/
import Derived.Test.YtciibpfhjfegnaaGreatDoorAbsT
import Derived.Lib.AppendStr
import Derived.Lib.UnsafeStr
import Derived.Laws.StructEq
import Derived.BigFrame
/-
  ROWS THAT A CALL HANDS BACK, be it in the place of others that were handed to it.
-/
set_option linter.unusedVariables false
set_option linter.unusedSimpArgs false
namespace Go.Abs
open Go.RowKit
/-- Rows that are new. -/
def outs : Nat → List Blk → List (Nm × Option Blk)
  | _, [] => []
  | j, b :: l => (.out j, some b) :: outs (j + 1) l
theorem lkH_outs (l : List Blk) (n : Nat) (r : Nm) : lkH (outs n l) r = match r with
    | .out i => if n ≤ i then l[i - n]? else none
    | _ => none := by
  induction l generalizing n with
  | nil => cases r <;> simp [outs, lkH]
  | cons b l ih =>
    cases r with
    | out i =>
      simp only [outs, lkH, Nm.eqb, Nat.beq_eq, ih]
      by_cases h : n = i
      · subst h; simp
      · by_cases h2 : n + 1 ≤ i
        · have h3 : n ≤ i := by omega
          simp only [h, if_false, h2, if_true, h3, show i - n = (i - (n + 1)) + 1 by omega, List.getElem?_cons_succ]
        · have h3 : ¬ n ≤ i := by omega
          simp [h, h2, h3]
    | _ => simp [outs, lkH, Nm.eqb, ih]
theorem lkH_app (l : List (Option Blk)) (n : Nat) (rest : List (Nm × Option Blk)) (r : Nm) : lkH (keyed n l ++ rest) r = match r with
    | .arg i => if n ≤ i ∧ i < n + l.length then (l[i - n]?).getD none else lkH rest (.arg i)
    | r => lkH rest r := by
  induction l generalizing n with
  | nil => cases r <;> simp [keyed] <;> intros <;> omega
  | cons b l ih =>
    cases r with
    | arg i =>
      simp only [keyed, List.cons_append, lkH, Nm.eqb, Nat.beq_eq, ih, List.length_cons]
      by_cases h : n = i
      · subst h; simp
      · by_cases h2 : n + 1 ≤ i ∧ i < n + 1 + l.length
        · have h3 : n ≤ i ∧ i < n + (l.length + 1) := by omega
          simp only [h, if_false, h2, if_true, h3, and_self, show i - n = (i - (n + 1)) + 1 by omega, List.getElem?_cons_succ]
        · have h3 : ¬ (n ≤ i ∧ i < n + (l.length + 1)) := by omega
          rw [if_neg h, if_neg h2, if_neg h3]
    | _ => simp [keyed, lkH, Nm.eqb, ih]
/-- The name, in the function that is called, of what lies at i of what is handed on and of what comes back. -/
def qName (n i : Nat) : Nm := if i < n then .arg i else .out (i - n)
theorem qName_inj {n i j : Nat} (h : qName n i = qName n j) : i = j := by
  unfold qName at h
  split at h <;> split at h <;> simp at h <;> omega
theorem lkH_handed (post : List (Option Blk)) (xs : List Blk) (i : Nat) : lkH (keyed 0 post ++ outs 0 xs) (qName post.length i) = ((post ++ xs.map some)[i]?).getD none := by
  unfold qName
  by_cases h : i < post.length
  · rw [if_pos h, lkH_app]
    simp only [Nat.zero_le, true_and, Nat.zero_add, h, if_true, Nat.sub_zero]
    rw [List.getElem?_append_left h]
  · rw [if_neg h, lkH_app]
    simp only
    rw [lkH_outs, List.getElem?_append_right (by omega), List.getElem?_map]
    simp only [Nat.zero_le, if_true, Nat.sub_zero]
    cases xs[i - post.length]? <;> rfl
/-- A function that hands back rows, too. -/
structure FunO (P : Program) (Gl : Granted) (g : FuncId) (args : List AV) (pre : List (Option Blk)) (v : AV) (post : List (Option Blk)) (xs : List Blk) : Prop where
  fn : ∃ fng, P.funcs[g]? = some fng ∧ (fng.name == "runtime.NumGoroutine") = false ∧ fng.body.isNone = false
  calls : ∀ (w0 : World) (F0 : Nat → Prop) (hd0 : Nm → Hd) (cargs : List Value), Gl.p w0 F0 → Lies w0 F0 hd0 (keyed 0 pre) → cargs.length = args.length → (∀ (j : Nat) (x : AV) (c : Value), args[j]? = some x → cargs[j]? = some c → Rep w0 F0 hd0 x c) →
    Calls P g cargs.toArray w0 (ownR w0 F0 hd0 (keyed 0 post ++ outs 0 xs) v)
theorem funO_of {P : Program} {Gl : Granted} {f : FuncId} {fn : Func} {c : Code} {args : List AV} {pre post : List (Option Blk)} {xs : List Blk} {v : AV} {T : TT} {n : Nat} {rs : List ResultVar} (hf : P.funcs[f]? = some fn) (hname : (fn.name == "runtime.NumGoroutine") = false) (hb : fn.body = some c) (hn : fn.ntmps = n) (hrs : fn.results.toList = rs)
    (hT : TOk P T) (hm : P.follows .mixedOrders = true) (hl : args.length ≤ n) (h : ∀ C, Rd C P Gl T n rs v (keyed 0 post ++ outs 0 xs) → Go C (.top [.code c] (LS.start args pre))) : FunO P Gl f args pre v post xs :=
  ⟨⟨fn, hf, hname, by rw [hb]; rfl⟩, own_calls hf hb (by rw [hn]; exact hl) fun w0 F0 hd0 => h _ ⟨rfl, rfl, hT, hn, hm, fun L x h1 h2 h3 => ⟨go_done hT hf (by rw [hrs]; exact h1) h2 h3, fun k => go_ret hT hf (by rw [hrs]; exact h1) h2 h3⟩⟩⟩
def backO (ns os : List Nm) : Nm → Nm
  | .arg i => ns.getD i (.arg i)
  | .out j => os.getD j (.out j)
  | r => r
def upsR (ρ : Nm → Nm) : List Nm → List (Option Blk) → List (Nm × Option Blk)
  | s :: l, b :: post => (s, b.map (Blk.ren ρ)) :: upsR ρ l post
  | _, _ => []
theorem upsR_get {ρ : Nm → Nm} {l : List Nm} {post : List (Option Blk)} {s : Nm} {b : Option Blk} (h : upsGet (upsR ρ l post) s = some b) : ∃ (i : Nat) (c : Option Blk), l[i]? = some s ∧ post[i]? = some c ∧ b = c.map (Blk.ren ρ) := by
  induction l generalizing post with
  | nil => simp [upsR, upsGet] at h
  | cons x l ih =>
    cases post with
    | nil => simp [upsR, upsGet] at h
    | cons c post =>
      simp only [upsR, upsGet] at h
      cases hg : upsGet (upsR ρ l post) s with
      | some y =>
        rw [hg] at h
        cases h
        obtain ⟨i, c', h1, h2, h3⟩ := ih hg
        exact ⟨i + 1, c', by simpa using h1, by simpa using h2, h3⟩
      | none =>
        rw [hg] at h
        by_cases hx : x = s
        · simp [hx] at h
          exact ⟨0, c, by simp [hx], rfl, h.symm⟩
        · simp [hx] at h
theorem upsR_keys (ρ : Nm → Nm) : ∀ (l : List Nm) (post : List (Option Blk)), post.length = l.length → (upsR ρ l post).map (·.1) = l
  | [], _, _ => by simp [upsR]
  | s :: l, [], h => by simp at h
  | s :: l, b :: post, h => by simp [upsR, upsR_keys ρ l post (by simpa using h)]
theorem upsGet_some {ups : List (Nm × Option Blk)} {r : Nm} (h : r ∈ ups.map (·.1)) : upsGet ups r ≠ none := by
  induction ups with
  | nil => simp at h
  | cons y l ih =>
    obtain ⟨k, b⟩ := y
    intro hn
    simp only [upsGet] at hn
    cases hl : upsGet l r with
    | some z => rw [hl] at hn; cases hn
    | none =>
      rw [hl] at hn
      by_cases hk : k = r
      · simp [hk] at hn
      · rcases List.mem_cons.1 h with h | h
        · exact hk h.symm
        · exact ih h hl
/-- Only what was handed on, or comes back, is named. -/
def onlyIO (n m : Nat) : List Nm → Bool
  | [] => true
  | .arg i :: l => Nat.blt i n && onlyIO n m l
  | .out i :: l => Nat.blt i m && onlyIO n m l
  | _ :: _ => false
theorem onlyIO_spec {n m : Nat} {l : List Nm} (h : onlyIO n m l = true) : ∀ r ∈ l, (∃ i, r = .arg i ∧ i < n) ∨ (∃ i, r = .out i ∧ i < m) := by
  induction l with
  | nil => intro r hr; cases hr
  | cons x l ih =>
    cases x with
    | arg i =>
      simp only [onlyIO, Bool.and_eq_true, Nat.blt_eq] at h
      intro r hr
      rcases List.mem_cons.1 hr with rfl | hr
      · exact .inl ⟨i, rfl, h.1⟩
      · exact ih h.2 r hr
    | out i =>
      simp only [onlyIO, Bool.and_eq_true, Nat.blt_eq] at h
      intro r hr
      rcases List.mem_cons.1 hr with rfl | hr
      · exact .inr ⟨i, rfl, h.1⟩
      · exact ih h.2 r hr
    | _ => simp [onlyIO] at h
theorem inName_mem {ns : List Nm} {s : Nm} (hs : s ∈ ns) : ∃ i, inName ns s = .arg i ∧ ns[i]? = some s := by
  rcases inName_go (ns := ns) (s := s) (l := ns) (i := 0) (fun j => by simp) with e | ⟨j, e, hj⟩
  · exfalso
    have : ∀ (l : List Nm) (i : Nat), s ∈ l → inName.go s l i ≠ .out 0 := by
      intro l
      induction l with
      | nil => intro i hs; cases hs
      | cons x l ih =>
        intro i hs
        simp only [inName.go]
        split
        · simp
        · rename_i hx
          rcases List.mem_cons.1 hs with rfl | hs
          · exact absurd ((Nm.eqb_iff _ _).2 rfl) hx
          · exact ih _ hs
    exact this ns 0 hs e
  · exact ⟨j, e, hj⟩
theorem inName_not {ns : List Nm} {s : Nm} (hs : s ∉ ns) : inName ns s = .out 0 := by
  rcases inName_go (ns := ns) (s := s) (l := ns) (i := 0) (fun j => by simp) with e | ⟨j, e, hj⟩
  · exact e
  · exact absurd (List.mem_of_getElem? hj) hs
/-- A CALL that hands back rows, under the names os. -/
theorem sem1_callO {C : Ctx} {o : Oper} {L : LS} {c : Call} {x : Operand} {g : FuncId} {first caps : List AV} {args : List AV} {ns os : List Nm} {pre post : List (Option Blk)} {xs : List Blk} {v : AV} (hdst : ∀ d, o.dst = some d → d < C.fn.ntmps) (ho : o.op = .call c) (hc : c.callee = .value x)
    (hx : L.ev x = .fn (.func g) first caps)
    (hargs : AV.ren.renL (inName ns) (first ++ evL L c.args.toList ++ caps) = args) (hpre : renBs (inName ns) (blksOf L ns) = pre) (hall : ∀ s ∈ ns, ∃ b, L.blk s = some b) (hnd : (ns ++ os).Nodup) (hlen : post.length = ns.length) (hlen2 : xs.length = os.length)
    (hnoarg : ∀ s ∈ os, ∀ i, s ≠ .arg i)
    (hv : onlyIO ns.length os.length v.ments = true) (hpost : onlyIO ns.length os.length (blksMents (post ++ xs.map some)) = true) (h : FunO C.P C.Gl g args pre v post xs) :
    Sem1 C o L.ev (ns.filterMap fun s => (L.blk s).map fun b => (s, b)) ⟨v.ren (backO ns os), upsR (backO ns os) (ns ++ os) (post ++ xs.map some)⟩ := by
  intro L' hd F a w hev hfp hnew hi K Q hK
  have hblk : ∀ s ∈ ns, L'.blk s = L.blk s := fun s hs => by
    obtain ⟨b, hb⟩ := hall s hs
    rw [hb]
    exact hfp (s, b) (List.mem_filterMap.2 ⟨s, hs, by simp [hb]⟩)
  have hfresh : ∀ s ∈ os, L'.blk s = none ∧ L'.Fresh s ∧ ∀ i, s ≠ .arg i := fun s hs => by
    have hk := upsR_keys (backO ns os) (ns ++ os) (post ++ xs.map some) (by simp [hlen, hlen2])
    have hne : s ∉ ns := fun h => (List.nodup_append.1 hnd).2.2 s h s hs rfl
    obtain ⟨q1, q2⟩ := hnew s (List.mem_filter.2 ⟨by rw [hk]; simp [hs], by
      simp only [Bool.not_eq_true', List.any_eq_false]
      intro q hq
      obtain ⟨s', hs', hq'⟩ := List.mem_filterMap.1 hq
      obtain ⟨b, hb⟩ := hall s' hs'
      rw [hb] at hq'
      cases hq'
      intro e
      rw [Nm.eqb_iff] at e
      exact hne (e ▸ hs')⟩)
    exact ⟨q1, q2, hnoarg s hs⟩
  have hops : ∀ y ∈ c.args.toList, y ∈ o.op.operands.toList := fun y hy => by simp [ho, Op.operands, Call.operands, hc]; right; simpa using hy
  have hxo : x ∈ o.op.operands.toList := by simp [ho, Op.operands, Call.operands, hc]
  obtain ⟨⟨fng, hf, hn, hb⟩, h⟩ := h
  have hxv := ev_rep hi x
  rw [hev x hxo, hx] at hxv
  generalize hz : a.eval x = z at hxv
  cases hxv with
  | fn _ _ _ va vb q1 q2 q3 q4 =>
    -- the arguments
    have hreps : ∀ (j : Nat) (y : AV) (u : Value), (first ++ evL L c.args.toList ++ caps)[j]? = some y → (va ++ c.args.toList.map a.eval ++ vb)[j]? = some u → Rep w F hd y u := by
      intro j y u hj hu
      have he : (evL L c.args.toList).length = (c.args.toList.map a.eval).length := by simp [evL_len]
      rw [List.getElem?_append, List.length_append] at hj hu
      rw [← q1, he] at hj
      by_cases h1 : j < va.length + (c.args.toList.map a.eval).length
      · rw [if_pos h1] at hj hu
        rw [List.getElem?_append] at hj hu
        rw [← q1] at hj
        by_cases h2 : j < va.length
        · rw [if_pos h2] at hj hu
          exact q3 j y u hj hu
        · rw [if_neg h2] at hj hu
          rw [evL_get] at hj
          rw [List.getElem?_map] at hu
          cases hqj : c.args.toList[j - va.length]? with
          | none => rw [hqj] at hj; cases hj
          | some p =>
            rw [hqj] at hj hu
            cases hj
            cases hu
            have hp := ev_rep hi p
            rw [hev p (hops p (List.mem_of_getElem? hqj))] at hp
            exact hp
      · rw [if_neg h1] at hj hu
        exact q4 _ y u hj hu
    have hreps' : ∀ (j : Nat) (y : AV) (u : Value), args[j]? = some y → (va ++ c.args.toList.map a.eval ++ vb)[j]? = some u → Rep w F (inHd ns hd) y u := by
      intro j y u hj hu
      rw [← hargs, renL_get] at hj
      cases hlj : (first ++ evL L c.args.toList ++ caps)[j]? with
      | none => rw [hlj] at hj; cases hj
      | some p => rw [hlj] at hj; cases hj; exact (hreps j p u hlj hu).ren fun r _ => inHd_in ns hd r
    -- the blocks
    have hinown : ∀ r k, (inHd ns hd r).owns k → ∃ i s, r = .arg i ∧ ns[i]? = some s ∧ (hd s).owns k := by
      intro r k hk
      cases r with
      | arg i =>
        simp only [inHd] at hk
        cases hi' : ns[i]? with
        | none => rw [hi'] at hk; exact hk.elim
        | some s => rw [hi'] at hk; exact ⟨i, s, rfl, hi', hk⟩
      | _ => exact hk.elim
    have hndn : ns.Nodup := (List.nodup_append.1 hnd).1
    have hnsinj : ∀ i j s, ns[i]? = some s → ns[j]? = some s → i = j := fun i j s h1 h2 => by
      have hl1 := (List.getElem?_eq_some_iff.1 h1).1
      exact (List.getElem?_inj hl1 hndn).1 (h1.trans h2.symm)
    have hinj : ∀ i j s, (ns ++ os)[i]? = some s → (ns ++ os)[j]? = some s → i = j := fun i j s h1 h2 => by
      have hl1 := (List.getElem?_eq_some_iff.1 h1).1
      exact (List.getElem?_inj hl1 hnd).1 (h1.trans h2.symm)
    have hlies : Lies w F (inHd ns hd) (keyed 0 pre) := by
      refine ⟨fun k hk => (hi.fin k hk).1, fun r s k hne h1 h2 => ?_, fun r k hk => ?_, fun r => ?_⟩
      · obtain ⟨i, s1, rfl, e1, o1⟩ := hinown r k h1
        obtain ⟨j, s2, rfl, e2, o2⟩ := hinown s k h2
        have : s1 ≠ s2 := fun e => hne (by rw [hnsinj i j s1 e1 (e ▸ e2)])
        exact hi.sep s1 s2 k this o1 o2
      · obtain ⟨i, s1, rfl, e1, o1⟩ := hinown r k hk
        exact ⟨(hi.mine s1 k o1).1, (hi.mine s1 k o1).2.1⟩
      · rw [lkH_keyed]
        cases r with
        | arg i =>
          simp only [Nat.zero_le, if_true, Nat.sub_zero]
          rw [← hpre, renBs_get, blksOf_get]
          cases hi' : ns[i]? with
          | none => simp [HoldB, inHd, hi']
          | some s =>
            have hs := List.mem_of_getElem? hi'
            obtain ⟨b, hb⟩ := hall s hs
            have hbl := hi.blocks s
            rw [hblk s hs, hb] at hbl
            simp only [Option.map_some, hb, Option.getD_some]
            exact hbl.ren (by simp [inHd, hi']) fun m _ => inHd_in ns hd m
        | _ => exact rfl
    have hcall := h w F (inHd ns hd) (va ++ c.args.toList.map a.eval ++ vb) hi.gl hlies (by rw [← hargs, renL_len]; simp [q1, q2, evL_len]) hreps'
    have hrun : (execOp a.eval o).run C.P w = .ok (.enter g (va ++ c.args.toList.map a.eval ++ vb).toArray) w := by
      have e : (va ++ c.args.toList.map a.eval ++ vb).toArray = va.toArray ++ c.args.map a.eval ++ vb.toArray := by
        apply Array.ext'
        simp
      have hb' : ¬ fng.body = none := fun h => by rw [h] at hb; cases hb
      have hn' : ¬ fng.name = "runtime.NumGoroutine" := by simpa using hn
      simp [execOp, ho, resolve, hc, hz, Deferred.ofValue, invoke, callFunc, hf, hn', hb']
    unfold Oper.wp
    rw [hrun]
    refine hcall.mono fun e w' he => ?_
    obtain ⟨cv, F', hd', rfl, hr, hl', hle⟩ := he
    -- where the blocks lie behind the call
    obtain ⟨all, hallE⟩ : ∃ all, ns ++ os = all := ⟨_, rfl⟩
    rw [hallE] at hinj
    let hdn : Nm → Hd := fun s => match inName all s with
      | .arg i => hd' (qName ns.length i)
      | _ => hd s
    have hout : ∀ s, s ∉ all → hdn s = hd s := fun s hs => by
      simp only [hdn]; rw [inName_not hs]
    have hdn_in : ∀ i s, all[i]? = some s → hdn s = hd' (qName ns.length i) := fun i s hs => by
      obtain ⟨j, e, hj⟩ := inName_mem (List.mem_of_getElem? hs)
      have := hinj i j s hs hj
      subst this
      simp only [hdn, e]
    have hns_at : ∀ s ∈ ns, ∃ i, ns[i]? = some s ∧ all[i]? = some s ∧ i < ns.length := fun s hs => by
      obtain ⟨i, hi'⟩ := List.getElem?_of_mem hs
      have hl := (List.getElem?_eq_some_iff.1 hi').1
      exact ⟨i, hi', by rw [← hallE, List.getElem?_append_left hl]; exact hi', hl⟩
    have hdn_or : ∀ s, s ∉ os → hdn s = hd s ∨ hdn s = .dead := fun s hso => by
      by_cases hs : s ∈ ns
      · obtain ⟨i, h1, h2, h3⟩ := hns_at s hs
        rw [hdn_in i s h2]
        have := hle.kept i
        simp only [inHd, h1] at this
        simp only [qName, if_pos h3]
        exact this
      · exact .inl (hout s (by rw [← hallE]; simp [hs, hso]))
    have hown : ∀ s ∈ all, ∀ k, (hdn s).owns k → w.heap.size ≤ k ∨ ∃ s' ∈ ns, (hd s').owns k := fun s hs k hk => by
      obtain ⟨i, hi'⟩ := List.getElem?_of_mem hs
      rw [hdn_in i s hi'] at hk
      rcases hle.mine _ k hk with h1 | ⟨r, hr⟩
      · exact .inl h1
      · obtain ⟨j, s', _, hs', ho'⟩ := hinown r k hr
        exact .inr ⟨s', List.mem_of_getElem? hs', ho'⟩
    have hsub : ∀ s ∈ ns, s ∈ all := fun s hs => by rw [← hallE]; simp [hs]
    have hsame : ∀ k, k < w.heap.size → (∀ s ∈ ns, ¬ (hd s).owns k) → w'.heap[k]? = w.heap[k]? := fun k hk hno => hle.old k hk fun ⟨r, hr⟩ => by
      obtain ⟨i, s, _, hs, ho⟩ := hinown r k hr
      exact hno s (List.mem_of_getElem? hs) ho
    have hF : ∀ k, F k → w'.heap[k]? = w.heap[k]? := fun k hk => hsame k (hi.fin k hk).1 fun s _ ho => (hi.mine s k ho).1 hk
    have hFF : ∀ k, F k → F' k := hle.more
    have hblen : (post ++ xs.map some).length = all.length := by rw [← hallE]; simp [hlen, hlen2]
    have hkeys := upsR_keys (backO ns os) all (post ++ xs.map some) hblen
    have hback : ∀ m, (∃ i, m = .arg i ∧ i < ns.length) ∨ (∃ i, m = .out i ∧ i < os.length) → hdn (backO ns os m) = hd' m := fun m hm => by
      rcases hm with ⟨i, rfl, hi'⟩ | ⟨i, rfl, hi'⟩
      · have h2 : all[i]? = some (ns.getD i (.arg i)) := by
          rw [← hallE, List.getElem?_append_left hi', List.getD_eq_getElem?_getD, List.getElem?_eq_getElem hi']; rfl
        have := hdn_in i _ h2
        simp only [qName, if_pos hi'] at this
        exact this
      · have h2 : all[ns.length + i]? = some (os.getD i (.out i)) := by
          rw [← hallE, List.getElem?_append_right (by omega), List.getD_eq_getElem?_getD, Nat.add_sub_cancel_left, List.getElem?_eq_getElem hi']; rfl
        have := hdn_in (ns.length + i) _ h2
        rw [qName, if_neg (by omega), Nat.add_sub_cancel_left] at this
        exact this
    have hinv : Inv C (L'.upd (upsR (backO ns os) all (post ++ xs.map some))) hdn F' a w' := by
      refine { slots := fun t => ?_, blocks := fun r => ?_, sep := fun r s k hne h1 h2 => ?_, mine := fun r k hk => ⟨?_, ?_, ?_⟩, fin := fun k hk => ⟨hl'.fin k hk, ?_⟩, more := fun k hk => hFF k (hi.more k hk), kept := fun i => ?_, gl := C.Gl.mono hi.gl hF hFF, os := hle.os.trans hi.os, tape := hle.tape.trans hi.tape, output := hle.output.trans hi.output, size := Nat.le_trans hi.size hle.size, old := fun k hk hm => ?_, ntmps := hi.ntmps, defers := hi.defers }
      · have : (L'.upd (upsR (backO ns os) all (post ++ xs.map some))).get t = L'.get t := by simp [LS.get, upd_blk]
        rw [this]
        exact (hi.slots t).mono hF hFF fun r hr => hdn_or r fun hro => (hfresh r hro).2.1.1 t hr
      · rw [upd_get]
        by_cases hr : r ∈ all
        · cases hu : upsGet (upsR (backO ns os) all (post ++ xs.map some)) r with
          | none => exact absurd hu (upsGet_some (by rw [hkeys]; exact hr))
          | some b =>
            obtain ⟨i, c', e1, e2, rfl⟩ := upsR_get hu
            have hh := hl'.holds (qName ns.length i)
            rw [← hlen, lkH_handed, e2] at hh
            rw [hlen] at hh
            simp only [Option.getD_some] at hh ⊢
            cases c' with
            | none => exact (hdn_in i r e1).trans hh
            | some b =>
              simp only [Option.map_some]
              refine hh.ren (hdn_in i r e1) fun m hm => .inl ?_
              exact hback m (onlyIO_spec hpost m (blksMents_mem e2 m hm))
        · rw [upsGet_none (by rw [hkeys]; exact hr), Option.getD_none]
          exact (hi.blocks r).mono hF hFF (hout r hr) (fun k hk => hsame k (hi.mine r k hk).2.1 fun s hs ho => hi.sep r s k (fun e => hr (e ▸ hsub s hs)) hk ho) fun c hc s hs => hdn_or s fun hso => (hfresh s hso).2.1.2 r c hc hs
      · by_cases hra : r ∈ all <;> by_cases hsa : s ∈ all
        · obtain ⟨i, hi'⟩ := List.getElem?_of_mem hra
          obtain ⟨j, hj'⟩ := List.getElem?_of_mem hsa
          rw [hdn_in i r hi'] at h1
          rw [hdn_in j s hj'] at h2
          refine hl'.sep _ _ k (fun e => ?_) h1 h2
          have := qName_inj e
          subst this
          rw [hi'] at hj'
          cases hj'
          exact hne rfl
        · rw [hout s hsa] at h2
          rcases hown r hra k h1 with h3 | ⟨s', hs', h3⟩
          · have := (hi.mine s k h2).2.1; omega
          · exact hi.sep s' s k (fun e => hsa (e ▸ hsub s' hs')) h3 h2
        · rw [hout r hra] at h1
          rcases hown s hsa k h2 with h3 | ⟨s', hs', h3⟩
          · have := (hi.mine r k h1).2.1; omega
          · exact hi.sep s' r k (fun e => hra (e ▸ hsub s' hs')) h3 h1
        · rw [hout r hra] at h1
          rw [hout s hsa] at h2
          exact hi.sep r s k hne h1 h2
      · by_cases hr : r ∈ all
        · obtain ⟨i, hj⟩ := List.getElem?_of_mem hr
          rw [hdn_in i r hj] at hk
          exact (hl'.mine _ k hk).1
        · rw [hout r hr] at hk
          intro hk'
          rcases hle.fin k hk' with h1 | h1 | ⟨s, hs⟩
          · exact (hi.mine r k hk).1 h1
          · have := (hi.mine r k hk).2.1; omega
          · obtain ⟨i, s', _, hs', ho⟩ := hinown s k hs
            exact hi.sep r s' k (fun e => hr (e ▸ hsub s' (List.mem_of_getElem? hs'))) hk ho
      · by_cases hr : r ∈ all
        · obtain ⟨i, hj⟩ := List.getElem?_of_mem hr
          rw [hdn_in i r hj] at hk
          exact (hl'.mine _ k hk).2
        · rw [hout r hr] at hk
          exact Nat.lt_of_lt_of_le (hi.mine r k hk).2.1 hle.size
      · by_cases hr : r ∈ all
        · rcases hown r hr k hk with h3 | ⟨s', hs', h3⟩
          · exact .inl (Nat.le_trans hi.size h3)
          · exact (hi.mine s' k h3).2.2
        · rw [hout r hr] at hk
          exact (hi.mine r k hk).2.2
      · rcases hle.fin k hk with h1 | h1 | ⟨s, hs⟩
        · exact (hi.fin k h1).2
        · exact .inr (.inl (Nat.le_trans hi.size h1))
        · obtain ⟨i, s', _, hs', ho⟩ := hinown s k hs
          exact .inr (hi.mine s' k ho).2.2
      · rcases hdn_or (.arg i) (fun hso => (hfresh _ hso).2.2 i rfl) with e | e
        · rw [e]; exact hi.kept i
        · exact .inr e
      · rw [← hi.old k hk hm]
        refine hsame k (Nat.lt_of_lt_of_le hk hi.size) fun s _ ho => ?_
        rcases (hi.mine s k ho).2.2 with h1 | h1
        · omega
        · exact hm h1
    rw [← hallE] at hinv
    refine hK _ _ hdn F' (hinv.put o.dst (hr.ren fun r hr' => .inl ?_) hdst)
    exact hback r (onlyIO_spec hv r hr')
def argB : Nm → Bool
  | .arg _ => true
  | _ => false
def freshAll (L : LS) : List Nm → Bool
  | [] => true
  | r :: l => newOk L r && !argB r && freshAll L l
theorem freshAll_spec {L : LS} {os : List Nm} (h : freshAll L os = true) : ∀ s ∈ os, L.blk s = none ∧ L.Fresh s ∧ ∀ i, s ≠ .arg i := by
  induction os with
  | nil => intro s hs; cases hs
  | cons x l ih =>
    simp only [freshAll, Bool.and_eq_true] at h
    intro s hs
    rcases List.mem_cons.1 hs with rfl | hs
    · obtain ⟨h1, h2⟩ := newOk_spec h.1.1
      exact ⟨h1, h2, fun i e => by subst e; have := h.1.2; simp [argB] at this⟩
    · exact ih h.2 s hs
/-- What such a call asks of the operation that makes it. -/
def callSideO (n : Nat) (ops : Array Oper) (o : Oper) (L : LS) (g : FuncId) (args : List AV) (ns os : List Nm) (pre : List (Option Blk)) (v : AV) (post : List (Option Blk)) (xs : List Blk) : Prop := match o.op with
  | .call c => match c.callee with
    | .value x => match L.ev x with
      | .fn (.func g') first caps => g' = g ∧ guardOf ops o L = some true ∧ dstOk n o = true ∧ AV.ren.renL (inName ns) (first ++ evL L c.args.toList ++ caps) = args ∧ renBs (inName ns) (blksOf L ns) = pre ∧ allSome (blksOf L ns) = true ∧ nodupB (ns ++ os) = true ∧ post.length = ns.length ∧ xs.length = os.length ∧
        freshAll L os = true ∧ onlyIO ns.length os.length v.ments = true ∧ onlyIO ns.length os.length (blksMents (post ++ xs.map some)) = true
      | _ => False
    | _ => False
  | _ => False
theorem Rd.callO {C : Ctx} {P : Program} {Gl : Granted} {T : TT} {n : Nat} {rs : List ResultVar} {v : AV} {post : List (Nm × Option Blk)} (h : Rd C P Gl T n rs v post) {g : FuncId} {args : List AV} {pre' post' : List (Option Blk)} {xs : List Blk} {r : AV} (ns os : List Nm) (hc : FunO P Gl g args pre' r post' xs) {ops : Array Oper} {i : Nat} {o : Oper} {opl : List Oper} {done : List Trace} {todo : List Item} {L : LS}
    (hs : callSideO n ops o L g args ns os pre' r post' xs) (hnext : Go C (.reg ops false (i + 1) opl [] todo (L.app o.dst ⟨r.ren (backO ns os), upsR (backO ns os) (ns ++ os) (post' ++ xs.map some)⟩))) : Go C (.reg ops false i (o :: opl) done todo L) := by
  unfold callSideO at hs
  split at hs
  · rename_i c ho
    split at hs
    · rename_i x hcal
      split at hs
      · rename_i g' first caps hx
        obtain ⟨rfl, hg, hd, hargs, hpre, hall, hnd, hlen, hlen2, hfr, hv, hpost⟩ := hs
        have hp0 := h.prog
        have hg0 := h.gl
        subst hp0
        subst hg0
        have hfr := freshAll_spec hfr
        have hall := allSome_spec hall
        have e1 := fp_names hall
        have e2 := upsR_keys (backO ns os) (ns ++ os) (post' ++ xs.map some) (by simp [hlen, hlen2])
        have hsem := sem1_callO (C := C) (L := L) (fun d hd' => by rw [h.n]; exact dstOk_spec hd d hd') ho hcal hx hargs hpre hall (nodupB_spec hnd) hlen hlen2 (fun s hs => (hfr s hs).2.2) hv hpost hc
        refine reg_stepN (· = L.app o.dst ⟨r.ren (backO ns os), upsR (backO ns os) (ns ++ os) (post' ++ xs.map some)⟩) ⟨hg, fun hd F a w hi K Q hK => hsem L hd F a w (fun _ _ => rfl) (fun q hq => ?_) (fun s hs => ?_) hi K Q fun a' w' hd' F' hi' => hK _ a' w' hd' F' rfl hi'⟩ fun L1 e => by subst e; exact hnext
        · obtain ⟨s, hs, hq⟩ := List.mem_filterMap.1 hq
          obtain ⟨b, hb⟩ := hall s hs
          rw [hb] at hq
          cases hq
          exact hb
        · obtain ⟨h1, h2⟩ := List.mem_filter.1 hs
          rw [e2] at h1
          rcases List.mem_append.1 h1 with h1 | h1
          · exfalso
            obtain ⟨b, hb⟩ := hall s h1
            simp only [Bool.not_eq_true', List.any_eq_false] at h2
            exact h2 (s, b) (List.mem_filterMap.2 ⟨s, h1, by simp [hb]⟩) ((Nm.eqb_iff _ _).2 rfl)
          · exact ⟨(hfr s h1).1, (hfr s h1).2.1⟩
      · exact hs.elim
    · exact hs.elim
  · exact hs.elim
/-- .. in a region whose order is drawn: the row's name is the operation's. -/
def callSideD (n : Nat) (ops : Array Oper) (i : Nat) (o : Oper) (opl : List Oper) (done : List Trace) (L : LS) (d : Nat) (g : FuncId) (args : List AV) (ns : List Nm) (pre : List (Option Blk)) (v : AV) (post : List (Option Blk)) (xs : List Blk) : Prop :=
  o.dst = some d ∧ callSideO n ops o L g args ns [.loc d] pre v post xs ∧ okPair ops true done o ⟨i, ns, ns ++ [.loc d]⟩ ((v.ren (backO ns [.loc d])).ments ++ upsMents (upsR (backO ns [.loc d]) (ns ++ [.loc d]) (post ++ xs.map some))) opl = true
theorem Rd.callD {C : Ctx} {P : Program} {Gl : Granted} {T : TT} {n : Nat} {rs : List ResultVar} {v : AV} {post : List (Nm × Option Blk)} (h : Rd C P Gl T n rs v post) {g : FuncId} {args : List AV} {pre' post' : List (Option Blk)} {xs : List Blk} {r : AV} (ns : List Nm) (d : Nat) (hc : FunO P Gl g args pre' r post' xs) {ops : Array Oper} {i : Nat} {o : Oper} {opl : List Oper} {done : List Trace} {todo : List Item} {L : LS}
    (hs : callSideD n ops i o opl done L d g args ns pre' r post' xs) (hnext : Go C (.reg ops true (i + 1) opl (nexts o true ⟨i, ns, ns ++ [.loc d]⟩ done) todo (L.app o.dst ⟨r.ren (backO ns [.loc d]), upsR (backO ns [.loc d]) (ns ++ [.loc d]) (post' ++ xs.map some)⟩))) : Go C (.reg ops true i (o :: opl) done todo L) := by
  obtain ⟨hdd, hs, hok⟩ := hs
  unfold callSideO at hs
  split at hs
  · rename_i c ho
    split at hs
    · rename_i x hcal
      split at hs
      · rename_i g' first caps hx
        obtain ⟨rfl, hg, hd, hargs, hpre, hall, hnd, hlen, hlen2, hfr, hv, hpost⟩ := hs
        have hp0 := h.prog
        have hg0 := h.gl
        subst hp0
        subst hg0
        have hfr := freshAll_spec hfr
        have hall := allSome_spec hall
        have e1 := fp_names hall
        have e2 := upsR_keys (backO ns [.loc d]) (ns ++ [.loc d]) (post' ++ xs.map some) (by simp [hlen, hlen2])
        have hsem := sem1_callO (C := C) (L := L) (fun d hd' => by rw [h.n]; exact dstOk_spec hd d hd') ho hcal hx hargs hpre hall (nodupB_spec hnd) hlen hlen2 (fun s hs => (hfr s hs).2.2) hv hpost hc
        refine reg_step hg hsem (fun q hq => ?_) (fun s hs => ?_) ?_ ?_
        · obtain ⟨s, hs, hq⟩ := List.mem_filterMap.1 hq
          obtain ⟨b, hb⟩ := hall s hs
          rw [hb] at hq
          cases hq
          exact hb
        · obtain ⟨h1, h2⟩ := List.mem_filter.1 hs
          rw [e2] at h1
          rcases List.mem_append.1 h1 with h1 | h1
          · exfalso
            obtain ⟨b, hb⟩ := hall s h1
            simp only [Bool.not_eq_true', List.any_eq_false] at h2
            exact h2 (s, b) (List.mem_filterMap.2 ⟨s, h1, by simp [hb]⟩) ((Nm.eqb_iff _ _).2 rfl)
          · refine ⟨(hfr s h1).1, (hfr s h1).2.1, ?_⟩
            rw [List.mem_singleton] at h1
            subst h1
            simp [mayMake1, hdd, makes, ho, hcal]
        · rw [e1, e2]; exact hok
        · rw [e1, e2]; exact hnext
      · exact hs.elim
    · exact hs.elim
  · exact hs.elim
end Go.Abs
/-
  BYTES OF A CALL's OWN, taken for a text without a copy.
-/
/-
  THE LARGER OF TWO NUMBERS; structs that are compared; going on from another state within a region.
-/
set_option linter.unusedVariables false
set_option linter.unusedSimpArgs false
namespace Go.Abs
open Go.RowKit
section
variable {C : Ctx} {P : Program} {Gl : Granted} {T : TT} {n : Nat} {rs : List ResultVar} {v : AV} {post : List (Nm × Option Blk)} {ops : Array Oper} {draw : Bool} {i : Nat} {o : Oper} {opl : List Oper} {done : List Trace} {todo : List Item} {L : LS}
theorem Rd.max (h : Rd C P Gl T n rs v post) {x y : Operand} {c : Call} {k : IntKind} {a b : Int} (h1 : o.op = .call c) (hc : c.callee = .builtin .max) (hx : c.args = #[x, y])
    (hst : guardOf ops o L = some true ∧ dstOk n o = true ∧ L.ev x = .pv (.val (.int k a)) ∧ L.ev y = .pv (.val (.int k b)) ∧ okPair ops draw done o ⟨i, [], []⟩ [] opl = true)
    (hnext : Go C (.reg ops draw (i + 1) opl (nexts o draw ⟨i, [], []⟩ done) todo (L.app o.dst ⟨.pv (.val (.int k (if b > a then b else a))), []⟩))) : Go C (.reg ops draw i (o :: opl) done todo L) := by
  obtain ⟨h2, h3, h4, h5, h6⟩ := hst
  refine reg_step (fp := []) h2 (sem1_read (fun d hd => by rw [h.n]; exact dstOk_spec h3 d hd) fun L' hd F a' w hev hfp hi => ⟨_, ?_, .pv _ _ (.val _ rfl)⟩) (by simp) (fun q hq => by simp [news] at hq) (by simpa [upsMents, AV.ments] using h6) hnext
  have hv := hev x (by simp [h1, Op.operands, Call.operands, hx, hc])
  have hy := hev y (by simp [h1, Op.operands, Call.operands, hx, hc])
  rw [h4] at hv
  rw [h5] at hy
  have e0 := bool_of hv
  have e1 := bool_of hy
  have := run_max_int2 (P := C.P) (w := w) c.argTypes o.type k k a b
  simp [execOp, h1, resolve, hc, hx, invoke, builtin, e0, e1, this]
end
end Go.Abs
/-
  A ROW OF BYTES of the call's own, turned to a text.
-/
