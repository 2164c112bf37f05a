/-
  THE CODE POINTS OF A TEXT as a row, and back; the smaller of two numbers.
-/
import Derived.Test.YtciibpfhjfegnaaGreatDoorAbsY
import Derived.Laws.IdiomStrings
import Derived.Laws.Cover4
import Derived.Lib.TrimUEq
set_option linter.unusedVariables false
set_option linter.unusedSimpArgs false
namespace Go.Abs
open Go.RowKit
/-- The code points of a text, as the decoder gives them. -/
def runesGo : Nat → List UInt8 → List Int
  | 0, _ => []
  | n + 1, l => if l = [] then [] else ((Lib.decodeL l).1 : Int) :: runesGo n (l.drop (Lib.decodeL l).2)
def runesI (s : ByteArray) : List Int := runesGo s.size s.data.toList
abbrev runeRow (l : List Int) : List (List PV) := l.map fun r => [PV.val (.int .i32 r)]
theorem runesFrom_go (s : ByteArray) : ∀ (b i : Nat) (acc : Array Value), Conv.runesFrom s b i acc = acc ++ ((runesGo b (s.data.toList.drop i)).map (Value.int .i32)).toArray
  | 0, i, acc => by simp [Conv.runesFrom, runesGo]
  | b + 1, i, acc => by
    have hsz : s.data.toList.length = s.size := Array.length_toList
    unfold Conv.runesFrom runesGo
    by_cases h : i < s.size
    · have hne : s.data.toList.drop i ≠ [] := by
        intro h0
        have := congrArg List.length h0
        rw [List.length_drop, hsz] at this
        simp at this
        omega
      rw [if_pos h, if_neg hne]
      have hd := Lib.decodeL_drop s i
      rw [hd]
      simp only
      rw [runesFrom_go s b, List.drop_drop]
      apply Array.ext'
      simp
    · have he : s.data.toList.drop i = [] := List.drop_eq_nil_of_le (by rw [hsz]; omega)
      rw [if_neg h, if_pos he]
      simp
theorem runesFrom_eq (s : ByteArray) : Conv.runesFrom s s.size 0 #[] = ((runesI s).map (Value.int .i32)).toArray := by
  rw [runesFrom_go]
  simp [runesI]
theorem runesI_len (s : ByteArray) : (runesI s).length ≤ s.size := by
  have h := size_runesFrom s s.size 0 #[]
  rw [runesFrom_eq] at h
  simpa using h
section
variable {C : Ctx} {P : Program} {Gl : Granted} {T : TT} {n : Nat} {rs : List ResultVar} {v : AV} {post : List (Nm × Option Blk)} {ops : Array Oper} {draw : Bool} {i : Nat} {o : Oper} {opl : List Oper} {done : List Trace} {todo : List Item} {L : LS}
theorem Rd.min (h : Rd C P Gl T n rs v post) {x y : Operand} {c : Call} {k : IntKind} {a b : Int} (h1 : o.op = .call c) (hc : c.callee = .builtin .min) (hx : c.args = #[x, y])
    (hst : guardOf ops o L = some true ∧ dstOk n o = true ∧ L.ev x = .pv (.val (.int k a)) ∧ L.ev y = .pv (.val (.int k b)) ∧ okPair ops draw done o ⟨i, [], []⟩ [] opl = true)
    (hnext : Go C (.reg ops draw (i + 1) opl (nexts o draw ⟨i, [], []⟩ done) todo (L.app o.dst ⟨.pv (.val (.int k (if b < a then b else a))), []⟩))) : Go C (.reg ops draw i (o :: opl) done todo L) := by
  obtain ⟨h2, h3, h4, h5, h6⟩ := hst
  refine reg_step (fp := []) h2 (sem1_read (fun d hd => by rw [h.n]; exact dstOk_spec h3 d hd) fun L' hd F a' w hev hfp hi => ⟨_, ?_, .pv _ _ (.val _ rfl)⟩) (by simp) (fun q hq => by simp [news] at hq) (by simpa [upsMents, AV.ments] using h6) hnext
  have hv := hev x (by simp [h1, Op.operands, Call.operands, hx, hc])
  have hy := hev y (by simp [h1, Op.operands, Call.operands, hx, hc])
  rw [h4] at hv
  rw [h5] at hy
  have e0 := bool_of hv
  have e1 := bool_of hy
  have := run_min_int2 (P := C.P) (w := w) c.argTypes o.type k k a b
  simp [execOp, h1, resolve, hc, hx, invoke, builtin, e0, e1, this]
/-- A text's code points, in a new row that is only read. -/
theorem Rd.runes (h : Rd C P Gl T n rs v post) {s d e : Nat} {x : Operand} {b : ByteArray} (h1 : o.op = .convert s d x) (ht : isStrT T s = true ∧ sliceE T d = some e ∧ intK T e = some .i32)
    (hst : guardOf ops o L = some true ∧ dstOk n o = true ∧ L.ev x = .pv (.val (.string b)) ∧ okPair ops draw done o ⟨i, [], []⟩ [] opl = true) (hlen : b.size ≤ 70368744177664)
    (hnext : Go C (.reg ops draw (i + 1) opl (nexts o draw ⟨i, [], []⟩ done) todo (L.app o.dst ⟨.pv (.ro 1 (runeRow (runesI b))), []⟩))) : Go C (.reg ops draw i (o :: opl) done todo L) := by
  obtain ⟨h2, h3, h4, h6⟩ := hst
  obtain ⟨t1, t2, t3⟩ := ht
  have hT := h.tok
  refine reg_step (fp := []) (A := ⟨.pv (.ro 1 (runeRow (runesI b))), []⟩) h2 (sem1_of (fun d hd => by rw [h.n]; exact dstOk_spec h3 d hd) fun L' hd F a w hev hfp hnew hi => ?_) (by simp) (fun q hq => by simp [news] at hq) (by simpa [upsMents, AV.ments] using h6) hnext
  have hv := hev x (by simp [h1, Op.operands])
  rw [h4] at hv
  have e0 := bool_of hv
  have hle := runesI_len b
  have hr := run_runes_of_string (P := C.P) w s d e b (isStrT_ok hT t1) (sliceE_ok hT t2) (intK_ok hT t3) (by rw [runesFrom_eq]; simp; omega)
  rw [runesFrom_eq] at hr
  have hcap := grownCap_ge w (runesI b).length 0 e
  simp only [List.size_toArray, List.length_map] at hr
  generalize hK : grownCap w (runesI b).length 0 e = K at hr hcap
  obtain ⟨z, hz⟩ : ∃ z, z = Array.replicate (K - (runesI b).length) (Value.int .i32 0) := ⟨_, rfl⟩
  rw [← hz] at hr
  obtain ⟨w', hw'⟩ : ∃ w', w' = w.drew.alloc (.cells (((runesI b).map (Value.int .i32)).toArray ++ z) e) := ⟨_, rfl⟩
  rw [← hw'] at hr
  have hsame : ∀ k, k < w.heap.size → w'.heap[k]? = w.heap[k]? := fun k hk => by
    rw [hw']
    exact Below.heap_alloc w.drew _ _ hk
  have hinv : Inv C L' hd (fun k => F k ∨ k = w.heap.size) a w' := inv_more hi (by rw [hw']; rfl) (by rw [hw']; rfl) (by rw [hw']; rfl) (by rw [hw']; simp) hsame (fun _ h => .inl h) (fun k hk => hk.imp id fun h => by subst h; rw [hw']; simp)
  refine ⟨.slice (some ⟨w.heap.size, 0, none⟩) (runesI b).length K, w', hd, fun k => F k ∨ k = w.heap.size, .inl ?_, by simpa [LS.upd] using hinv, .pv _ _ ?_⟩
  · simp only [execOp, h1, e0]
    simp only [Sem.run_bind, hr, Result.andThen_ok]
    simp
  · have hroe := RepP.ro (w := w') (F := fun k => F k ∨ k = w.heap.size) 1 (runeRow (runesI b)) (some ⟨w.heap.size, 0, none⟩) K (fun i j => .int .i32 ((runesI b).getD i 0)) (fun h => by cases h) (by simpa using hcap) (by simp; omega) (fun i el hi => by
      simp only [runeRow, List.getElem?_map, Option.map_eq_some_iff] at hi
      obtain ⟨r, _, rfl⟩ := hi
      rfl) (fun _ => ⟨_, rfl, rfl, .inr rfl, fun i j el c h5 h6 => by
      simp only [runeRow, List.getElem?_map, Option.map_eq_some_iff] at h5
      obtain ⟨r, h7, rfl⟩ := h5
      have hil : i < (runesI b).length := (List.getElem?_eq_some_iff.1 h7).1
      match j, h6 with
      | 0, h6 =>
        rw [add_plain, hw']
        refine Eq.trans (cell_at (heap_alloc_new w.drew _)) ?_
        simp only [Nat.mul_one, Nat.add_zero]
        rw [Array.getElem?_append_left (by simpa using hil)]
        simp [h7, List.getD]⟩) (fun i j el c h5 h6 => by
      simp only [runeRow, List.getElem?_map, Option.map_eq_some_iff] at h5
      obtain ⟨r, h7, rfl⟩ := h5
      match j, h6 with
      | 0, h6 =>
        simp at h6
        subst h6
        simp [List.getD, h7]
        exact .val _ rfl)
    simpa using hroe
/-- A row of code points, written as a text. -/
theorem Rd.runesStr (h : Rd C P Gl T n rs v post) {s d e : Nat} {x : Operand} {l : List Int} (h1 : o.op = .convert s d x) (ht : sliceE T s = some e ∧ intK T e = some .i32 ∧ isStrT T d = true)
    (hst : guardOf ops o L = some true ∧ dstOk n o = true ∧ L.ev x = .pv (.ro 1 (runeRow l)) ∧ okPair ops draw done o ⟨i, [], []⟩ [] opl = true)
    (hnext : Go C (.reg ops draw (i + 1) opl (nexts o draw ⟨i, [], []⟩ done) todo (L.app o.dst ⟨.pv (.val (.string (runesBytes l))), []⟩))) : Go C (.reg ops draw i (o :: opl) done todo L) := by
  obtain ⟨h2, h3, h4, h6⟩ := hst
  obtain ⟨t1, t2, t3⟩ := ht
  have hT := h.tok
  refine reg_step (fp := []) h2 (sem1_read (fun d hd => by rw [h.n]; exact dstOk_spec h3 d hd) fun L' hd F a w hev _ hi => ⟨_, ?_, rep_val rfl⟩) (by simp) (fun q hq => by simp [news] at hq) (by simpa [upsMents, AV.ments] using h6) hnext
  have h5 := hev x (by simp [h1, Op.operands])
  rw [h4] at h5
  generalize hz : a.eval x = z at h5
  cases h5 with
  | pv _ _ hp =>
    cases hp with
    | ro _ _ A cap u hA hc hm hl ha hr =>
      have hcv : (convert s d (.slice A (runeRow l).length cap)).run C.P w = .ok (.string (runesBytes l)) w := by
        by_cases hne : runeRow l = []
        · have hl0 : l = [] := by simpa [runeRow] using hne
          subst hl0
          cases A with
          | none => exact run_convert_runes_nil (P := C.P) w s d e _ _ (sliceE_ok hT t1) (intK_ok hT t2) (isStrT_ok hT t3)
          | some ad =>
            have := run_convert_runes (P := C.P) w s d e ad 0 cap [] (Nat.le_refl _) (sliceE_ok hT t1) (intK_ok hT t2) (isStrT_ok hT t3) (fun j hj => by simp at hj)
            simpa using this
        · obtain ⟨ad, rfl, had, _, hcell⟩ := ha hne
          have := run_convert_runes (P := C.P) w s d e ad l.length cap l (Nat.le_refl _) (sliceE_ok hT t1) (intK_ok hT t2) (isStrT_ok hT t3) (fun j hj => by
            have e1 : (runeRow l)[j]? = some [.val (.int .i32 l[j])] := by simp [runeRow, hj]
            have h7 := hcell j 0 _ _ e1 rfl
            have h8 := hr j 0 _ _ e1 rfl
            rw [Nat.mul_one, Nat.add_zero] at h7
            rw [h7]
            generalize u j 0 = y at h8
            cases h8
            simp [List.getD, hj])
          rw [List.take_length] at this
          simpa [runeRow] using this
      simp only [execOp, h1, hz]
      simp only [Sem.run_bind, hcv, Result.andThen_ok]
      simp
end
end Go.Abs
/-
  CALLS that leave the blocks that are handed on as they were: they only read.
-/
set_option linter.unusedVariables false
set_option linter.unusedSimpArgs false
namespace Go.Abs
open Go.RowKit
theorem sem1_keep {C : Ctx} {o : Oper} {ev : Operand → AV} {fp : List (Nm × Blk)} {A : Actn} (h : Sem1 C o ev fp A) (hk : ∀ q ∈ A.ups, ∃ b, q.2 = some b ∧ (q.1, b) ∈ fp) : Sem1 C o ev fp ⟨A.v, []⟩ := by
  intro L hd F a w h1 h2 _ hi K Q hK
  refine h L hd F a w h1 h2 (fun r hr => ?_) hi K Q (fun a' w' hd' F' hinv => hK a' w' hd' F' (hinv.like ?_))
  · exfalso
    obtain ⟨g1, g2⟩ := List.mem_filter.1 hr
    obtain ⟨q, hq, rfl⟩ := List.mem_map.1 g1
    obtain ⟨b, hb, hf⟩ := hk q hq
    simp only [Bool.not_eq_true', List.any_eq_false] at g2
    exact g2 (q.1, b) hf ((Nm.eqb_iff _ _).2 rfl)
  · have key : ∀ (ups : List (Nm × Option Blk)) (M : LS), (∀ q ∈ ups, ∃ b, q.2 = some b ∧ L.blk q.1 = some b) → (∀ r, M.blk r = L.blk r) → ∀ r, (M.upd ups).blk r = L.blk r := by
      intro ups
      induction ups with
      | nil => intro M _ hM r; exact hM r
      | cons x l ih =>
        intro M hu hM r
        obtain ⟨s, b⟩ := x
        simp only [LS.upd]
        refine ih _ (fun q hq => hu q (by simp [hq])) (fun r' => ?_) r
        obtain ⟨b', e1, e2⟩ := hu (s, b) (by simp)
        simp only at e1 e2
        simp only [LS.blk, lkH_setH]
        split
        · rename_i e; subst e; rw [e1]; exact e2.symm
        · exact hM r'
    have hb := key A.ups L (fun q hq => by
      obtain ⟨b, e1, e2⟩ := hk q hq
      exact ⟨b, e1, h2 (q.1, b) e2⟩) (fun _ => rfl)
    refine ⟨fun t => ?_, fun r => ?_⟩
    · simp only [LS.app, LS.get, LS.put, LS.upd]
      cases o.dst <;> simp [upd_blk]
    · have := hb r
      simp only [LS.app, LS.put, LS.upd]
      cases o.dst <;> exact this
theorem callUps_kept {L : LS} {ns : List Nm} (hall : ∀ s ∈ ns, ∃ b, L.blk s = some b) : ∀ (l : List Nm) (post : List (Option Blk)), (∀ s ∈ l, s ∈ ns) → renBs (backName ns) post = blksOf L l → ∀ q ∈ callUps ns l post, ∃ b, q.2 = some b ∧ (q.1, b) ∈ ns.filterMap fun s => (L.blk s).map fun b => (s, b)
  | [], post, _, _, q, hq => by simp [callUps] at hq
  | s :: l, [], _, _, q, hq => by simp [callUps] at hq
  | s :: l, b :: post, hs, he, q, hq => by
    simp only [renBs, blksOf, List.cons.injEq] at he
    simp only [callUps] at hq
    rcases List.mem_cons.1 hq with rfl | hq
    · obtain ⟨b', hb'⟩ := hall s (hs s (by simp))
      refine ⟨b', by rw [← hb']; exact he.1, List.mem_filterMap.2 ⟨s, hs s (by simp), by simp [hb']⟩⟩
    · exact callUps_kept hall l post (fun x hx => hs x (by simp [hx])) he.2 q hq
/-- What such a call asks of the operation that makes it. -/
def callSideR (n : Nat) (ops : Array Oper) (draw : Bool) (i : Nat) (o : Oper) (opl : List Oper) (done : List Trace) (L : LS) (g : FuncId) (args : List AV) (ns : List Nm) (pre : List (Option Blk)) (v : AV) (post : List (Option Blk)) : Prop := match o.op with
  | .call c => match c.callee with
    | .value x => match L.ev x with
      | .fn (.func g') first caps => g' = g ∧ guardOf ops o L = some true ∧ dstOk n o = true ∧ AV.ren.renL (inName ns) (first ++ evL L c.args.toList ++ caps) = args ∧ renBs (inName ns) (blksOf L ns) = pre ∧ allSome (blksOf L ns) = true ∧ nodupB ns = true ∧ post.length = ns.length ∧
        onlyArgs ns.length v.ments = true ∧ onlyArgs ns.length (blksMents post) = true ∧ renBs (backName ns) post = blksOf L ns ∧ okPair ops draw done o ⟨i, ns, []⟩ (v.ren (backName ns)).ments opl = true
      | _ => False
    | _ => False
  | _ => False
/-- A call that leaves the blocks as they were. -/
theorem Rd.callR {C : Ctx} {P : Program} {Gl : Granted} {T : TT} {n : Nat} {rs : List ResultVar} {v : AV} {post : List (Nm × Option Blk)} (h : Rd C P Gl T n rs v post) {g : FuncId} {args : List AV} {pre' post' : List (Option Blk)} {r : AV} (ns : List Nm) (hc : Fun P Gl g args pre' r post') {ops : Array Oper} {draw : Bool} {i : Nat} {o : Oper} {opl : List Oper} {done : List Trace} {todo : List Item} {L : LS}
    (hs : callSideR n ops draw i o opl done L g args ns pre' r post') (hnext : Go C (.reg ops draw (i + 1) opl (nexts o draw ⟨i, ns, []⟩ done) todo (L.app o.dst ⟨r.ren (backName ns), []⟩))) : Go C (.reg ops draw i (o :: opl) done todo L) := by
  unfold callSideR at hs
  split at hs
  · rename_i c ho
    split at hs
    · rename_i x hcal
      split at hs
      · rename_i g' first caps hx
        obtain ⟨rfl, hg, hd, hargs, hpre, hall, hnd, hlen, hv, hpost, hkeep, hok⟩ := hs
        obtain ⟨fng, h1, h2, h3⟩ := hc.fn
        have hp0 := h.prog
        have hg0 := h.gl
        subst hp0
        subst hg0
        have hall := allSome_spec hall
        have e1 := fp_names hall
        refine reg_step hg (sem1_keep (sem1_call (C := C) (L := L) (fun d hd' => by rw [h.n]; exact dstOk_spec hd d hd') ho hcal hx h1 h2 h3 hargs hpre hall (nodupB_spec hnd) hlen hv hpost hc.calls) (callUps_kept hall ns post' (fun _ h => h) hkeep)) ?_ ?_ ?_ ?_
        · intro q hq
          obtain ⟨s, hs, hq⟩ := List.mem_filterMap.1 hq
          obtain ⟨b, hb⟩ := hall s hs
          rw [hb] at hq
          cases hq
          exact hb
        · intro s hs
          simp [news] at hs
        · rw [e1]
          simpa [upsMents] using hok
        · rw [e1]; exact hnext
      · exact hs.elim
    · exact hs.elim
  · exact hs.elim
end Go.Abs
