/-
  THE RULES for whoever goes through a body: what a function of pure values is, calls, loops, forgetting.
-/
import Derived.Test.YtonomogpephfkaaDoorAbsH
set_option linter.unusedVariables false
set_option linter.unusedSimpArgs false
namespace Go.Abs
open Go.RowKit

/-- A function by its number: it is one of the program's own, with a body; of args, the blocks that are handed on holding pre, it makes v, and they hold post. -/
structure Fun (P : Program) (Gl : Granted) (g : FuncId) (args : List AV) (pre : List (Option Blk)) (v : AV) (post : List (Option Blk)) : Prop where
  fn : ∃ fng, P.funcs[g]? = some fng ∧ (fng.name == "runtime.NumGoroutine") = false ∧ fng.body.isNone = false
  calls : ACalls P Gl g args pre v post

/-- A call under way. -/
structure Rd (C : Ctx) (P : Program) (Gl : Granted) (T : TT) (n : Nat) (rs : List ResultVar) (v : AV) (post : List (Option Blk)) : Prop where
  prog : C.P = P
  gl : C.Gl = Gl
  tok : TOk C.P T
  n : C.fn.ntmps = n
  mixed : C.P.follows .mixedOrders = true
  fin : ∀ (L : LS) (x : AV), resAV T L rs = some x → x.frz (lkH (keyed 0 post)) L.blk = v → subH L (keyed 0 post) → GoS C [] L ∧ ∀ k, GoS C (.code .ret :: k) L

theorem fun_of {P : Program} {Gl : Granted} {f : FuncId} {fn : Func} {c : Code} {args : List AV} {pre post : List (Option Blk)} {v : AV} {T : TT} {n : Nat} {rs : List ResultVar} (hf : P.funcs[f]? = some fn) (hname : (fn.name == "runtime.NumGoroutine") = false) (hb : fn.body = some c) (hn : fn.ntmps = n) (hrs : fn.results.toList = rs)
    (hT : TOk P T) (hm : P.follows .mixedOrders = true) (hl : args.length ≤ n) (h : ∀ C, Rd C P Gl T n rs v post → Go C (.top [.code c] (LS.start args pre))) : Fun P Gl f args pre v post :=
  ⟨⟨fn, hf, hname, by rw [hb]; rfl⟩, acalls_of hf hb (by rw [hn]; exact hl) fun w0 F0 hd0 => h _ ⟨rfl, rfl, hT, hn, hm, fun L x h1 h2 h3 => ⟨go_done hT hf (by rw [hrs]; exact h1) h2 h3, fun k => go_ret hT hf (by rw [hrs]; exact h1) h2 h3⟩⟩⟩

/-- What is to be shown at a return. -/
def retP (T : TT) (rs : List ResultVar) (v : AV) (post : List (Nm × Option Blk)) (L : LS) : Prop := match resAV T L rs with
  | some x => x.frz (lkH post) L.blk = v ∧ subH L post
  | none => False
theorem Rd.vc {C : Ctx} {P : Program} {Gl : Granted} {T : TT} {n : Nat} {rs : List ResultVar} {v : AV} {post : List (Option Blk)} (h : Rd C P Gl T n rs v post) (W : List Nat) (k : Nat) {c : Conf} (hv : VC C T W n (retP T rs v (keyed 0 post)) k c) : Go C c :=
  vc_sound h.tok h.n h.mixed (fun L hL => by
    unfold retP at hL
    split at hL
    · exact h.fin L _ ‹_› hL.1 hL.2
    · exact hL.elim) k c hv

def allSome : List (Option Blk) → Bool
  | [] => true
  | some _ :: l => allSome l
  | none :: _ => false
theorem allSome_spec {L : LS} {ns : List Nm} (h : allSome (blksOf L ns) = true) : ∀ s ∈ ns, ∃ b, L.blk s = some b := by
  induction ns with
  | nil => intro s hs; cases hs
  | cons x l ih =>
    simp only [blksOf] at h
    cases hx : L.blk x with
    | none => rw [hx] at h; cases h
    | some b =>
      rw [hx] at h
      intro s hs
      rcases List.mem_cons.1 hs with rfl | hs
      · exact ⟨b, hx⟩
      · exact ih h s hs
/-- What a call asks of the operation that makes it. -/
def callSide (n : Nat) (ops : Array Oper) (draw : Bool) (i : Nat) (o : Oper) (opl : List Oper) (done : List Trace) (L : LS) (g : FuncId) (args : List AV) (ns : List Nm) (pre : List (Option Blk)) (v : AV) (post : List (Option Blk)) : Prop := match o.op with
  | .call c => match c.callee with
    | .value x => match L.ev x with
      | .fn (.func g') first caps => g' = g ∧ guardOf ops o L = some true ∧ dstOk n o = true ∧ AV.ren.renL (inName ns) (first ++ evL L c.args.toList ++ caps) = args ∧ renBs (inName ns) (blksOf L ns) = pre ∧ allSome (blksOf L ns) = true ∧ nodupB ns = true ∧ post.length = ns.length ∧
        onlyArgs ns.length v.ments = true ∧ onlyArgs ns.length (blksMents post) = true ∧ okPair ops draw done o ⟨i, ns, ns⟩ ((v.ren (backName ns)).ments ++ upsMents (callUps ns ns post)) opl = true
      | _ => False
    | _ => False
  | _ => False
theorem fp_names {L : LS} {ns : List Nm} (h : ∀ s ∈ ns, ∃ b, L.blk s = some b) : (ns.filterMap fun s => (L.blk s).map fun b => (s, b)).map (·.1) = ns := by
  induction ns with
  | nil => rfl
  | cons x l ih =>
    obtain ⟨b, hb⟩ := h x (by simp)
    simp [hb, ih fun s hs => h s (by simp [hs])]
/-- A call. -/
theorem Rd.call {C : Ctx} {P : Program} {Gl : Granted} {T : TT} {n : Nat} {rs : List ResultVar} {v : AV} {post : List (Option Blk)} (h : Rd C P Gl T n rs v post) {g : FuncId} {args : List AV} {pre' post' : List (Option Blk)} {r : AV} (ns : List Nm) (hc : Fun P Gl g args pre' r post') {ops : Array Oper} {draw : Bool} {i : Nat} {o : Oper} {opl : List Oper} {done : List Trace} {todo : List Item} {L : LS}
    (hs : callSide n ops draw i o opl done L g args ns pre' r post') (hnext : Go C (.reg ops draw (i + 1) opl (nexts draw ⟨i, ns, ns⟩ done) todo (L.app o.dst ⟨r.ren (backName ns), callUps ns ns post'⟩))) : Go C (.reg ops draw i (o :: opl) done todo L) := by
  unfold callSide at hs
  split at hs
  · rename_i c ho
    split at hs
    · rename_i x hcal
      split at hs
      · rename_i g' first caps hx
        obtain ⟨rfl, hg, hd, hargs, hpre, hall, hnd, hlen, hv, hpost, hok⟩ := hs
        obtain ⟨fng, h1, h2, h3⟩ := hc.fn
        have hp0 := h.prog
        have hg0 := h.gl
        subst hp0
        subst hg0
        have hall := allSome_spec hall
        have e1 := fp_names hall
        have e2 := callUps_keys ns ns post' hlen
        refine reg_step hg (sem1_call (C := C) (L := L) (fun d hd' => by rw [h.n]; exact dstOk_spec hd d hd') ho hcal hx h1 h2 h3 hargs hpre hall (nodupB_spec hnd) hlen hv hpost hc.calls) ?_ ?_ ?_ ?_
        · intro q hq
          obtain ⟨s, hs, hq⟩ := List.mem_filterMap.1 hq
          obtain ⟨b, hb⟩ := hall s hs
          rw [hb] at hq
          cases hq
          exact hb
        · intro s hs
          exfalso
          obtain ⟨h1, h2⟩ := List.mem_filter.1 hs
          rw [e2] at h1
          obtain ⟨b, hb⟩ := hall s h1
          simp only [Bool.not_eq_true', List.any_eq_false] at h2
          have := h2 (s, b) (List.mem_filterMap.2 ⟨s, h1, by simp [hb]⟩)
          exact this ((Nm.eqb_iff _ _).2 rfl)
        · rw [e1, e2]; exact hok
        · rw [e1, e2]; exact hnext
      · exact hs.elim
    · exact hs.elim
  · exact hs.elim

/-! ### forgetting, renaming, laying rows open -/
inductive Src where
  | nm (s : Nm)
  | nil
/-- What a name of the state to come is now: itself, if nothing else is said. -/
def srcOf : List (Nm × Src) → Nm → Src
  | [], r => .nm r
  | (k, s) :: l, r => if k.eqb r = true then s else srcOf l r
def srcs (θ : List (Nm × Src)) : List (Nm × Option Blk) → List Nm
  | [] => []
  | (r, b) :: l => match b with
    | none => srcs θ l
    | some _ => match srcOf θ r with
      | .nm s => s :: srcs θ l
      | .nil => srcs θ l
def leP (p q : PV) : Prop := match p with
  | .nilS _ => match q with
    | .nilS _ => True
    | .ro _ es => es = []
    | .val _ => False
  | p => p = q
/-- A row of the call's own, taken for what is only read from now on. -/
def laid (live : List Nm) (L : LS) (s : Nm) (q : PV) : Prop := match q with
  | .ro sz es => match L.blk s with
    | some (.row _ sz' es') => notIn s live = true ∧ sz' = sz ∧ es' = es
    | _ => False
  | _ => False
/-- A map of the call's own, taken for what is only read from now on. -/
def laidM (live : List Nm) (L : LS) (s : Nm) (Q : Obj → Prop) : Prop := match L.blk s with
  | some (.raw Q') => notIn s live = true ∧ ∀ o, Q' o → Q o
  | _ => False
def leA (θ : List (Nm × Src)) (live : List Nm) (L : LS) (x : AV) : AV → Prop
  | .any => True
  | .pv q => match x with
    | .pv p => leP p q
    | .own s => laid live L s q
    | _ => False
  | .own r => match x with
    | .own s => srcOf θ r = .nm s
    | .pv p => match p with
      | .nilS _ => srcOf θ r = .nil
      | _ => False
    | _ => False
  | .ptr r off => match x with
    | .ptr s off' => srcOf θ r = .nm s ∧ off' = off
    | _ => False
  | .ept r sz i f => match x with
    | .ept s sz' i' f' => srcOf θ r = .nm s ∧ sz' = sz ∧ i' = i ∧ f' = f
    | _ => False
  | .hmap r => match x with
    | .hmap s => srcOf θ r = .nm s
    | _ => False
  | .rop cs => match x with
    | .rop cs' => cs' = cs
    | _ => False
  | .rom Q => match x with
    | .rom Q' => ∀ o, Q' o → Q o
    | .hmap s => laidM live L s Q
    | _ => False
  | .opq Q => match x with
    | .opq Q' => Q' = Q
    | _ => False
  | .agg m => match x with
    | .agg l => leL θ live L l m
    | _ => False
  | .tup m => match x with
    | .tup l => leL θ live L l m
    | _ => False
  | .fn f a b => match x with
    | .fn f' a' b' => f' = f ∧ leL θ live L a' a ∧ leL θ live L b' b
    | _ => False
where leL (θ : List (Nm × Src)) (live : List Nm) (L : LS) : List AV → List AV → Prop
  | l, [] => l = []
  | l, y :: m => match l with
    | [] => False
    | x :: l => leA θ live L x y ∧ leL θ live L l m
def leB (θ : List (Nm × Src)) (live : List Nm) (L : LS) (b b' : Blk) : Prop := match b with
  | .box ty cs => match b' with
    | .box ty' cs' => ty = ty' ∧ leA.leL θ live L cs cs'
    | _ => False
  | .row e sz es => match b' with
    | .row e' sz' es' => e = e' ∧ sz = sz' ∧ es = es'
    | _ => False
  | .raw Q => match b' with
    | .raw Q' => ∀ o, Q o → Q' o
    | _ => False
  | .iter Q => match b' with
    | .iter Q' => ∀ b ob o, Q b ob o → Q' b ob o
    | _ => False
def isArg : Nm → Bool
  | .arg _ => true
  | _ => false
def blkOk (θ : List (Nm × Src)) (live : List Nm) (L : LS) (r : Nm) (b : Option Blk) : Prop := match b with
  | none => True
  | some b => match srcOf θ r with
    | .nil => isArg r = false ∧ match b with
      | .row _ _ es => es = []
      | _ => False
    | .nm s => (isArg r = true → s = r) ∧ match L.blk s with
      | some b' => leB θ live L b' b
      | none => False
def convS (θ : List (Nm × Src)) (live : List Nm) (L : LS) : List (Nat × AV) → Prop
  | [] => True
  | (t, v) :: l => leA θ live L (L.get t) v ∧ convS θ live L l
def convH (θ : List (Nm × Src)) (live : List Nm) (L : LS) : List (Nm × Option Blk) → Prop
  | [] => True
  | (r, b) :: l => blkOk θ live L r b ∧ convH θ live L l
/-- Whoever knows L may go on from M. -/
def conv (θ : List (Nm × Src)) (L M : LS) : Prop := nodupB (srcs θ M.H) = true ∧ convS θ (srcs θ M.H) L M.σ ∧ convH θ (srcs θ M.H) L M.H

theorem convS_get {θ : List (Nm × Src)} {live : List Nm} {L : LS} : ∀ {l : List (Nat × AV)} (t : Nat), convS θ live L l → leA θ live L (L.get t) (lkS l t)
  | [], t, _ => by simp [lkS, leA]
  | (k, v) :: l, t, h => by
    simp only [lkS]
    split
    · rename_i e; subst e; exact h.1
    · exact convS_get t h.2
theorem convH_get {θ : List (Nm × Src)} {live : List Nm} {L : LS} : ∀ {l : List (Nm × Option Blk)} (r : Nm), convH θ live L l → blkOk θ live L r (lkH l r)
  | [], r, _ => trivial
  | (k, v) :: l, r, h => by
    simp only [lkH]
    split
    · rename_i e
      rw [Nm.eqb_iff] at e
      subst e
      exact h.1
    · exact convH_get r h.2
theorem srcs_mem {θ : List (Nm × Src)} : ∀ {l : List (Nm × Option Blk)} {r s : Nm} {b : Blk}, lkH l r = some b → srcOf θ r = .nm s → s ∈ srcs θ l
  | [], r, s, b, h, _ => by cases h
  | (k, v) :: l, r, s, b, h, hs => by
    simp only [lkH] at h
    split at h
    · rename_i e
      rw [Nm.eqb_iff] at e
      subst e
      subst h
      simp [srcs, hs]
    · have := srcs_mem h hs
      simp only [srcs]
      cases v with
      | none => exact this
      | some c => cases srcOf θ k <;> simp [this]
theorem srcs_inj {θ : List (Nm × Src)} : ∀ {l : List (Nm × Option Blk)} {r r' s : Nm} {b b' : Blk}, (srcs θ l).Nodup → lkH l r = some b → lkH l r' = some b' → srcOf θ r = .nm s → srcOf θ r' = .nm s → r = r'
  | [], r, r', s, b, b', _, h, _, _, _ => by cases h
  | (k, v) :: l, r, r', s, b, b', hn, h, h', hs, hs' => by
    have hn' : (srcs θ l).Nodup := by
      simp only [srcs] at hn
      cases v with
      | none => exact hn
      | some c =>
        cases hk : srcOf θ k with
        | nm q => rw [hk] at hn; exact (List.nodup_cons.1 hn).2
        | nil => rw [hk] at hn; exact hn
    simp only [lkH] at h h'
    by_cases e : k.eqb r = true
    · rw [if_pos e] at h
      rw [Nm.eqb_iff] at e
      subst e
      by_cases e' : k.eqb r' = true
      · rw [Nm.eqb_iff] at e'; exact e'
      · rw [if_neg e'] at h'
        subst h
        simp only [srcs, hs] at hn
        exact absurd (srcs_mem h' hs') (List.nodup_cons.1 hn).1
    · rw [if_neg e] at h
      by_cases e' : k.eqb r' = true
      · rw [if_pos e'] at h'
        rw [Nm.eqb_iff] at e'
        subst e'
        subst h'
        simp only [srcs, hs'] at hn
        exact absurd (srcs_mem h hs) (List.nodup_cons.1 hn).1
      · rw [if_neg e'] at h'
        exact srcs_inj hn' h h' hs hs'

def convHd (θ : List (Nm × Src)) (M : LS) (hd : Nm → Hd) (r : Nm) : Hd := match M.blk r with
  | none => .dead
  | some _ => match srcOf θ r with
    | .nm s => hd s
    | .nil => .row (.slice none 0 0)
def convF (live : List Nm) (F : Nat → Prop) (hd : Nm → Hd) (k : Nat) : Prop := F k ∨ ∃ s, s ∉ live ∧ (hd s).owns k
theorem convHd_nm {θ : List (Nm × Src)} {M : LS} {hd : Nm → Hd} {r s : Nm} (h : srcOf θ r = .nm s) : convHd θ M hd r = hd s ∨ convHd θ M hd r = .dead := by
  unfold convHd
  cases M.blk r <;> simp [h]
theorem leP_rep {w : World} {F : Nat → Prop} {p q : PV} {v : Value} (h : leP p q) (hr : RepP w F p v) : RepP w F q v := by
  unfold leP at h
  split at h
  · cases hr
    split at h
    · exact .nilS _
    · subst h
      exact .ro _ [] none 0 (fun _ _ => undef) (fun _ => rfl) (by simp) (by simp) (fun i e h => by simp at h) (fun h => absurd rfl h) (fun i j e c h => by simp at h)
    · exact h.elim
  · subst h; exact hr
theorem leA_rep {θ : List (Nm × Src)} {live : List Nm} {L M : LS} {w : World} {F : Nat → Prop} {hd : Nm → Hd} (hb : ∀ r, HoldB w F hd r (L.blk r)) {x : AV} {v : Value} (h : Rep w F hd x v) : ∀ {y : AV}, leA θ live L x y → Rep w (convF live F hd) (convHd θ M hd) y v := by
  have hL : ∀ (m l : List AV) (cs : List Value), leA.leL θ live L l m → (∀ (j : Nat) (c : AV) (v : Value), l[j]? = some c → cs[j]? = some v → ∀ {y : AV}, leA θ live L c y → Rep w (convF live F hd) (convHd θ M hd) y v) →
      l.length = m.length ∧ ∀ (j : Nat) (c : AV) (v : Value), m[j]? = some c → cs[j]? = some v → Rep w (convF live F hd) (convHd θ M hd) c v := by
    intro m
    induction m with
    | nil => intro l cs hl _; simp only [leA.leL] at hl; subst hl; exact ⟨rfl, fun j c v h => by simp at h⟩
    | cons y m ih =>
      intro l cs hl hh
      cases l with
      | nil => simp only [leA.leL] at hl
      | cons x l =>
        simp only [leA.leL] at hl
        cases cs with
        | nil =>
          obtain ⟨i1, _⟩ := ih l [] hl.2 (fun j c v h1 h2 => by simp at h2)
          exact ⟨by simp [i1], fun j c v _ h2 => by simp at h2⟩
        | cons u cs =>
          obtain ⟨i1, i2⟩ := ih l cs hl.2 (fun j c v h1 h2 => hh (j + 1) c v (by simpa using h1) (by simpa using h2))
          refine ⟨by simp [i1], fun j c v h1 h2 => ?_⟩
          cases j with
          | zero => simp at h1 h2; subst h1 h2; exact hh 0 x u rfl rfl hl.1
          | succ j => simp at h1 h2; exact i2 j c v h1 h2
  induction h with
  | pv p v h =>
    intro y hy
    cases y <;> simp only [leA] at hy
    · exact .pv _ v (leP_rep hy (h.mono (fun _ _ => rfl) (fun _ h => .inl h)))
    · rename_i r
      split at hy
      · cases h
        refine .own r _ rfl fun u hu => ?_
        simp only [convHd, hy] at hu
        split at hu
        · cases hu
        · exact (Hd.row.inj hu)
      · exact hy.elim
    · exact .any _
  | agg l cs hl h h1 ih =>
    intro y hy
    cases y <;> simp only [leA] at hy
    · obtain ⟨i1, i2⟩ := hL _ l cs hy (fun j c v h1 h2 {y} hc => ih j c v h1 h2 hc)
      exact .agg _ cs (by rw [hl, i1]) i2 h1
    · exact .any _
  | tup l cs hl h ih =>
    intro y hy
    cases y <;> simp only [leA] at hy
    · obtain ⟨i1, i2⟩ := hL _ l cs hy (fun j c v h1 h2 {y} hc => ih j c v h1 h2 hc)
      exact .tup _ cs (by rw [hl, i1]) i2
    · exact .any _
  | own s v h1 h =>
    intro y hy
    cases y <;> simp only [leA] at hy
    · unfold laid at hy
      split at hy
      · rename_i sz es
        have hbs := hb s
        split at hy
        · rename_i e sz' es' hbl
          obtain ⟨hni, rfl, rfl⟩ := hy
          rw [hbl] at hbs
          obtain ⟨u, cells, q1, q2, q3, q4, q5⟩ := hbs
          obtain rfl := h u q1
          exact .pv _ _ (row_ro q2 q3 (fun i j el c u' a1 a2 a3 => (q4 i j el c u' a1 a2 a3).mono (fun _ _ => rfl) (fun _ h => .inl h)) (fun k hk => .inr ⟨s, (notIn_iff _ _).1 hni, by rw [q1]; exact hk⟩))
        · exact hy.elim
      · exact hy.elim
    · rename_i r
      refine .own r v h1 fun u hu => h u ?_
      rcases convHd_nm (M := M) (hd := hd) hy with e | e
      · exact e ▸ hu
      · rw [e] at hu; cases hu
    · exact .any _
  | ptr s off v h1 h =>
    intro y hy
    cases y <;> simp only [leA] at hy
    · rename_i r off'
      obtain ⟨hy, rfl⟩ := hy
      refine .ptr r off v h1 fun u hu => h u ?_
      rcases convHd_nm (M := M) (hd := hd) hy with e | e
      · exact e ▸ hu
      · rw [e] at hu; cases hu
    · exact .any _
  | ept s sz i f v h1 h =>
    intro y hy
    cases y <;> simp only [leA] at hy
    · rename_i r _ _ _
      obtain ⟨hy, rfl, rfl, rfl⟩ := hy
      refine .ept r sz i f v h1 fun g n c hu => h g n c ?_
      rcases convHd_nm (M := M) (hd := hd) hy with e | e
      · exact e ▸ hu
      · rw [e] at hu; cases hu
    · exact .any _
  | rop cs ad u hs h1 hc hr =>
    intro y hy
    cases y <;> simp only [leA] at hy
    · subst hy
      exact .rop cs ad u hs (.inl h1) hc (fun j c hj => (hr j c hj).mono (fun _ _ => rfl) (fun _ h => .inl h))
    · exact .any _
  | fn f a b va vb ha hb' h h' ih ih' =>
    intro y hy
    cases y <;> simp only [leA] at hy
    · obtain ⟨rfl, y1, y2⟩ := hy
      obtain ⟨i1, i2⟩ := hL _ a va y1 (fun j c v h1 h2 {y} hc => ih j c v h1 h2 hc)
      obtain ⟨i3, i4⟩ := hL _ b vb y2 (fun j c v h1 h2 {y} hc => ih' j c v h1 h2 hc)
      exact .fn _ _ _ va vb (by rw [ha, i1]) (by rw [hb', i3]) i2 i4
    · exact .any _
  | hmap s v h1 h =>
    intro y hy
    cases y <;> simp only [leA] at hy
    · rename_i r
      refine .hmap r v h1 fun u hu => h u ?_
      rcases convHd_nm (M := M) (hd := hd) hy with e | e
      · exact e ▸ hu
      · rw [e] at hu; cases hu
    · unfold laidM at hy
      have hbs := hb s
      split at hy
      · rename_i Q' hbl
        obtain ⟨hni, hq⟩ := hy
        rw [hbl] at hbs
        obtain ⟨k, o, q1, q2, q3⟩ := hbs
        obtain rfl := h k q1
        exact .rom _ k o (.inr ⟨s, (notIn_iff _ _).1 hni, by rw [q1]; exact rfl⟩) q2 (hq o q3)
      · exact hy.elim
    · exact .any _
  | rom Q k o h1 h2 h3 =>
    intro y hy
    cases y <;> simp only [leA] at hy
    · exact .rom _ k o (.inl h1) h2 (hy o h3)
    · exact .any _
  | opq Q v h1 h =>
    intro y hy
    cases y <;> simp only [leA] at hy
    · subst hy
      exact .opq _ v h1 fun w2 F2 e1 e2 => h w2 F2 (fun k hk => e1 k (.inl hk)) (fun k hk => e2 k (.inl hk))
    · exact .any _
  | any v =>
    intro y hy
    cases y <;> simp only [leA] at hy
    exact .any _
theorem leL_rep {θ : List (Nm × Src)} {live : List Nm} {L M : LS} {w : World} {F : Nat → Prop} {hd : Nm → Hd} (hb : ∀ r, HoldB w F hd r (L.blk r)) : ∀ {m l : List AV} {cs : List Value}, leA.leL θ live L l m → (∀ (j : Nat) (c : AV) (v : Value), l[j]? = some c → cs[j]? = some v → Rep w F hd c v) →
    l.length = m.length ∧ ∀ (j : Nat) (c : AV) (v : Value), m[j]? = some c → cs[j]? = some v → Rep w (convF live F hd) (convHd θ M hd) c v
  | [], l, cs, h, hr => by simp only [leA.leL] at h; subst h; exact ⟨rfl, fun j c v h => by simp at h⟩
  | y :: m, [], cs, h, hr => by simp only [leA.leL] at h
  | y :: m, x :: l, [], h, hr => by
    simp only [leA.leL] at h
    obtain ⟨i1, _⟩ := leL_rep (M := M) (cs := []) hb h.2 (fun j c v h1 h2 => by simp at h2)
    exact ⟨by simp [i1], fun j c v _ h2 => by simp at h2⟩
  | y :: m, x :: l, u :: cs, h, hr => by
    simp only [leA.leL] at h
    obtain ⟨i1, i2⟩ := leL_rep (cs := cs) hb h.2 (fun j c v h1 h2 => hr (j + 1) c v (by simpa using h1) (by simpa using h2))
    refine ⟨by simp [i1], fun j c v h1 h2 => ?_⟩
    cases j with
    | zero => simp at h1 h2; subst h1 h2; exact leA_rep hb (hr 0 x u rfl rfl) h.1
    | succ j => simp at h1 h2; exact i2 j c v h1 h2

theorem Inv.conv {C : Ctx} {θ : List (Nm × Src)} {L M : LS} (h : conv θ L M) {hd : Nm → Hd} {F : Nat → Prop} {a : Act} {w : World} (hi : Inv C L hd F a w) : Inv C M (convHd θ M hd) (convF (srcs θ M.H) F hd) a w := by
  obtain ⟨hnd, hS, hH⟩ := h
  have hnd := nodupB_spec hnd
  have hown : ∀ r k, (convHd θ M hd r).owns k → ∃ s b, M.blk r = some b ∧ srcOf θ r = .nm s ∧ convHd θ M hd r = hd s ∧ (hd s).owns k ∧ s ∈ srcs θ M.H := by
    intro r k hk
    unfold convHd at hk ⊢
    cases hm : M.blk r with
    | none => rw [hm] at hk; exact hk.elim
    | some b =>
      rw [hm] at hk
      cases hs : srcOf θ r with
      | nil => rw [hs] at hk; cases hk
      | nm s => rw [hs] at hk; exact ⟨s, b, rfl, rfl, by simp, hk, srcs_mem hm hs⟩
  refine { slots := fun t => leA_rep hi.blocks (hi.slots t) (convS_get t hS), blocks := fun r => ?_, sep := fun r r' k hne h1 h2 => ?_, mine := fun r k hk => ?_, fin := fun k hk => ?_, more := fun k hk => .inl (hi.more k hk), kept := fun i => ?_, gl := C.Gl.mono hi.gl (fun _ _ => rfl) (fun _ h => .inl h), os := hi.os, tape := hi.tape, output := hi.output, size := hi.size, old := hi.old, ntmps := hi.ntmps, defers := hi.defers }
  · have hok := convH_get r hH
    have hmr : M.blk r = lkH M.H r := rfl
    rw [hmr]
    cases hl : lkH M.H r with
    | none => simp [HoldB, convHd, hmr, hl]
    | some b =>
      rw [hl] at hok
      simp only [blkOk] at hok
      cases hs : srcOf θ r with
      | nil =>
        rw [hs] at hok
        obtain ⟨_, hok⟩ := hok
        cases b with
        | row e sz es =>
          simp only at hok
          subst hok
          exact ⟨.slice none 0 0, [], by simp [convHd, hmr, hl, hs], World.ownsRow_nil w 0 e sz, fun i el h => by simp at h, fun i j el c u h => by simp at h, by simp⟩
        | box => exact hok.elim
        | raw => exact hok.elim
        | iter => exact hok.elim
      | nm s =>
        rw [hs] at hok
        obtain ⟨_, hok⟩ := hok
        have hhd : convHd θ M hd r = hd s := by simp [convHd, hmr, hl, hs]
        have hbs := hi.blocks s
        cases hb' : L.blk s with
        | none => rw [hb'] at hok; exact hok.elim
        | some b' =>
          rw [hb'] at hok hbs
          simp only at hok
          cases b' with
          | box ty cs =>
            cases b <;> simp only [leB] at hok
            obtain ⟨rfl, hok⟩ := hok
            obtain ⟨k, arr, h1, h2, h3, h4, h5⟩ := hbs
            obtain ⟨i1, i2⟩ := leL_rep (M := M) (cs := arr.toList) hi.blocks hok (fun j c v h6 h7 => h4 j c v h6 (by simpa using h7))
            exact ⟨k, arr, hhd.trans h1, h2, by rw [h3, i1], fun j c v h6 h7 => i2 j c v h6 (by simpa using h7), h5⟩
          | row e sz es =>
            cases b <;> simp only [leB] at hok
            obtain ⟨rfl, rfl, rfl⟩ := hok
            obtain ⟨v, cells, h1, h2, h3, h4, h5⟩ := hbs
            exact ⟨v, cells, hhd.trans h1, h2, h3, fun i j el c u a1 a2 a3 => (h4 i j el c u a1 a2 a3).mono (fun _ _ => rfl) (fun _ h => .inl h), h5⟩
          | raw Q =>
            cases b <;> simp only [leB] at hok
            obtain ⟨k, o, h1, h2, h4⟩ := hbs
            exact ⟨k, o, hhd.trans h1, h2, hok _ h4⟩
          | iter Q =>
            cases b <;> simp only [leB] at hok
            obtain ⟨k, o, b, ob, h1, h2, h3, h4, h5⟩ := hbs
            exact ⟨k, o, b, ob, hhd.trans h1, h2, .inl h3, h4, hok _ _ _ h5⟩
  · obtain ⟨s, b, hm, hs, _, ho, _⟩ := hown r k h1
    obtain ⟨s', b', hm', hs', _, ho', _⟩ := hown r' k h2
    by_cases e : s = s'
    · subst e; exact hne (srcs_inj hnd hm hm' hs hs')
    · exact hi.sep s s' k e ho ho'
  · obtain ⟨s, b, hm, hs, _, ho, hmem⟩ := hown r k hk
    obtain ⟨q1, q2, q3⟩ := hi.mine s k ho
    refine ⟨?_, q2, q3⟩
    rintro (h | ⟨s', hn, hs'⟩)
    · exact q1 h
    · exact hi.sep s s' k (fun e => hn (e ▸ hmem)) ho hs'
  · rcases hk with h | ⟨s, _, ho⟩
    · exact hi.fin k h
    · exact ⟨(hi.mine s k ho).2.1, .inr (hi.mine s k ho).2.2⟩
  · have hok := convH_get (.arg i) hH
    have hmr : M.blk (.arg i) = lkH M.H (.arg i) := rfl
    cases hl : lkH M.H (.arg i) with
    | none => right; simp [convHd, hmr, hl]
    | some b =>
      rw [hl] at hok
      simp only [blkOk] at hok
      cases hs : srcOf θ (.arg i) with
      | nil => rw [hs] at hok; simp [isArg] at hok
      | nm s =>
        rw [hs] at hok
        have e := hok.1 rfl
        subst e
        have : convHd θ M hd (.arg i) = hd (.arg i) := by simp [convHd, hmr, hl, hs]
        rw [this]
        exact hi.kept i
theorem go_to {C : Ctx} {todo : List Item} {L M : LS} (θ : List (Nm × Src)) (h : Go C (.top todo M)) (hk : conv θ L M) : Go C (.top todo L) := by
  intro hd F a w hi cs
  exact h _ _ a w (hi.conv hk) cs
theorem go_len {C : Ctx} {todo : List Item} {L : LS} (t sz : Nat) (es : List (List PV)) (ht : L.get t = .pv (.ro sz es)) (h : es.length ≤ 9223372036854775807 → Go C (.top todo L)) : Go C (.top todo L) := by
  intro hd F a w hi cs
  have hs := hi.slots t
  rw [ht] at hs
  generalize a.tmps.getD t undef = v at hs
  cases hs with
  | pv _ _ hp => cases hp with
    | ro _ _ A cap u hA hc hm => exact h hm hd F a w hi cs

/-! ### loops, and ways that meet again -/
theorem go_loop {C : Ctx} {ι : Type} (I : ι → LS) (μ : ι → Nat) {c : Code} {k : List Item} {L : LS} (x0 : ι) (θ : List (Nm × Src)) (h0 : conv θ L (I x0))
    (round : ∀ x, (∀ y, μ y < μ x → Go C (.top (.inLoop c :: k) (I y))) → Go C (.top (.code c :: .inLoop c :: k) (I x))) : Go C (.top (.code (.loop c) :: k) L) := by
  have key : ∀ m x, μ x = m → Go C (.top (.code c :: .inLoop c :: k) (I x)) := by
    intro m
    induction m using Nat.strongRecOn with
    | _ m ih =>
      intro x hx
      refine round x fun y hy => ?_
      exact go_inLoop (ih (μ y) (hx ▸ hy) y rfl)
  exact go_loopIn (go_to θ (key _ x0 rfl) h0)
theorem go_first {C : Ctx} {c : Code} {k : List Item} {L : LS} (h : Go C (.top (.code c :: .inLoop c :: k) L)) : Go C (.top (.code (.loop c) :: k) L) := go_loopIn h
theorem go_again {C : Ctx} {c : Code} {k : List Item} {L : LS} (h : Go C (.top (.code c :: .inLoop c :: k) L)) : Go C (.top (.inLoop c :: k) L) := go_inLoop h
theorem go_cut {C : Ctx} {ι : Type} (J : ι → LS) {x y : Code} {k : List Item} {L : LS} (hB : ∀ z, Go C (.top (.code y :: k) (J z))) (hA : (∀ z, Go C (.top (.code y :: k) (J z))) → Go C (.top (.code x :: .code y :: k) L)) : Go C (.top (.code (.seq x y) :: k) L) :=
  go_seq (hA hB)

end Go.Abs
