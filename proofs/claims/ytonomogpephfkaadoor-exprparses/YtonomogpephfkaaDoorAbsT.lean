/-
  A ROW OF ONE BYTE, turned to a text, at the operations of a call under way.
-/
import Derived.Test.YtonomogpephfkaaDoorAbsS
import Derived.Laws.BytesString
set_option linter.unusedVariables false
set_option linter.unusedSimpArgs false
namespace Go.Abs
open Go.RowKit
section
variable {C : Ctx} {P : Program} {Gl : Granted} {T : TT} {n : Nat} {rs : List ResultVar} {v : AV} {post : List (Option Blk)} {ops : Array Oper} {i : Nat} {o : Oper} {opl : List Oper} {done : List Trace} {todo : List Item} {L : LS}
theorem Rd.byteStr (h : Rd C P Gl T n rs v post) {s d e : Nat} {x : Operand} {b : Int} (h1 : o.op = .convert s d x) (ht : sliceE T s = some e ∧ intK T e = some .u8 ∧ isStrT T d = true)
    (hst : guardOf ops o L = some true ∧ dstOk n o = true ∧ L.ev x = .pv (.ro 1 [[.val (.int .u8 b)]]))
    (hnext : Go C (.reg ops false (i + 1) opl [] todo (L.app o.dst ⟨.pv (.val (.string (ByteArray.empty.push (UInt8.ofNat b.toNat)))), []⟩))) : Go C (.reg ops false i (o :: opl) done todo L) := by
  obtain ⟨h2, h3, h4⟩ := hst
  obtain ⟨t1, t2, t3⟩ := ht
  have hT := h.tok
  refine reg_step (fp := []) h2 (sem1_read (fun d hd => by rw [h.n]; exact dstOk_spec h3 d hd) fun L' hd F a w hev _ hi => ⟨_, ?_, rep_val rfl⟩) (by simp) (by simp [news]) rfl hnext
  have h5 := hev x (by simp [h1, Op.operands])
  rw [h4] at h5
  generalize hz : a.eval x = z at h5
  cases h5 with
  | pv _ _ hp =>
    cases hp with
    | ro _ _ A cap u hA hc hm hlen ha hr =>
      obtain ⟨ad, rfl, hs, hF, hcell⟩ := ha (by simp)
      have hc0 := hcell 0 0 _ _ rfl rfl
      have hr0 := hr 0 0 _ _ rfl rfl
      generalize u 0 0 = y at hc0 hr0
      cases hr0
      obtain ⟨g, q, sp⟩ := ad
      obtain rfl : sp = none := hs
      have hl : (loadCells ⟨g, q, none⟩ 1).run C.P w = .ok #[Value.int .u8 b] w := by
        refine run_loadCells_list (P := C.P) (w := w) ⟨g, q, none⟩ [Value.int .u8 b] fun j y hj => ?_
        match j, hj with
        | 0, hj => simp at hj; subst hj; simpa using hc0
        | j + 1, hj => simp at hj
      have hb := run_bytesToString (P := C.P) w ⟨g, q, none⟩ 1 cap [b] (by simpa using hl)
      have hcv := run_convert_bytes_string (P := C.P) w s d e (some ⟨g, q, none⟩) 1 cap (sliceE_ok hT t1) (intK_ok hT t2) (isStrT_ok hT t3)
      rw [hb] at hcv
      have hcv2 : (convert s d (Value.slice (some ⟨g, q, none⟩) 1 cap)).run C.P w = .ok (.string (ByteArray.empty.push (UInt8.ofNat b.toNat))) w := by simpa using hcv
      simp [execOp, h1, hz, hcv2]
end
end Go.Abs
