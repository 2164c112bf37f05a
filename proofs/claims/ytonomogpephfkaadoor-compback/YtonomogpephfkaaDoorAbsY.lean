/-
  A ROW OF BYTES of the call's own, turned to a text.
-/
import Derived.Test.YtonomogpephfkaaDoorAbsX
set_option linter.unusedVariables false
set_option linter.unusedSimpArgs false
namespace Go.Abs
open Go.RowKit
theorem foldl_push (l : List UInt8) (s : ByteArray) : (l.map fun b => (b.toNat : Int)).foldl (fun r n => r.push (UInt8.ofNat n.toNat)) s = ⟨s.data ++ l.toArray⟩ := by
  induction l generalizing s with
  | nil => simp
  | cons b l ih =>
    simp only [List.map_cons, List.foldl_cons, ih]
    congr 1
    apply Array.ext'
    simp [ByteArray.push]
section
variable {C : Ctx} {P : Program} {Gl : Granted} {T : TT} {n : Nat} {rs : List ResultVar} {v : AV} {post : List (Nm × Option Blk)} {ops : Array Oper} {i : Nat} {o : Oper} {opl : List Oper} {done : List Trace} {todo : List Item} {L : LS}
theorem Rd.rowStr (h : Rd C P Gl T n rs v post) {s d e : Nat} {x : Operand} {r : Nm} {l : List UInt8} (h1 : o.op = .convert s d x) (ht : sliceE T s = some e ∧ intK T e = some .u8 ∧ isStrT T d = true)
    (hst : guardOf ops o L = some true ∧ dstOk n o = true ∧ L.ev x = .own r ∧ L.blk r = some (.row e 1 (byteRow l)))
    (hnext : Go C (.reg ops false (i + 1) opl [] todo (L.app o.dst ⟨.pv (.val (.string ⟨l.toArray⟩)), []⟩))) : Go C (.reg ops false i (o :: opl) done todo L) := by
  obtain ⟨h2, h3, h4, h5⟩ := hst
  obtain ⟨t1, t2, t3⟩ := ht
  have hT := h.tok
  refine reg_step (fp := [(r, .row e 1 (byteRow l))]) h2 (sem1_read (fun d hd => by rw [h.n]; exact dstOk_spec h3 d hd) fun L' hd F a w hev hfp hi => ⟨_, ?_, rep_val rfl⟩) (by simpa using h5) (by simp [news]) rfl hnext
  have hblk := hi.blocks r
  rw [hfp (r, .row e 1 (byteRow l)) (by simp)] at hblk
  obtain ⟨v0, cells, q1, q2, q3, q4, q5⟩ := hblk
  have hv := hev x (by simp [h1, Op.operands])
  rw [h4] at hv
  have e0 : a.eval x = v0 := by cases hv with | own _ _ _ hp => exact hp v0 q1
  have hcl : cells.length = l.length := by have := q2.1; simpa using this
  have hcells := fun g hg => q2.cells (g := g) hg
  rcases q2.2 with ⟨rfl, h0⟩ | ⟨g, cap, cur, rfl, _, hg, hnc, hcm, hcs, htk⟩
  · have hl : l = [] := List.eq_nil_of_length_eq_zero (by simpa using h0)
    subst hl
    have hcv := run_convert_bytes_string (P := C.P) w s d e none 0 0 (sliceE_ok hT t1) (intK_ok hT t2) (isStrT_ok hT t3)
    simp [execOp, h1, e0, hcv, Conv.bytesToString]
    rfl
  · have hcell : ∀ (j : Nat) (y : Value), (l.map fun b => Value.int .u8 (b.toNat : Int))[j]? = some y → w.cell? ((⟨g, 0, none⟩ : Addr).add j) = some y := fun j y hj => by
      simp only [List.getElem?_map, Option.map_eq_some_iff] at hj
      obtain ⟨b, hb, rfl⟩ := hj
      have hjl : j < cells.length := by rw [hcl]; exact (List.getElem?_eq_some_iff.1 hb).1
      have h8 := q4 j 0 [.val (.int .u8 b.toNat)] (.val (.int .u8 b.toNat)) cells[j] (by simp [byteRow, hb]) rfl (by simp [hjl])
      have h9 : cells[j] = .int .u8 b.toNat := by
        generalize cells[j] = z at h8
        cases h8
        rfl
      rw [← h9]
      exact hcells g rfl j _ (List.getElem?_eq_getElem hjl)
    have hl : (loadCells ⟨g, 0, none⟩ (byteRow l).length).run C.P w = .ok ((l.map fun b => (b.toNat : Int)).map (Value.int .u8)).toArray w := by
      have := run_loadCells_list (P := C.P) (w := w) ⟨g, 0, none⟩ (l.map fun b => Value.int .u8 (b.toNat : Int)) hcell
      rw [List.length_map] at this
      rw [byteRow_len, List.map_map]
      exact this
    have hb := run_bytesToString (P := C.P) w ⟨g, 0, none⟩ (byteRow l).length cap _ hl
    rw [foldl_push] at hb
    have hcv := run_convert_bytes_string (P := C.P) w s d e (some ⟨g, 0, none⟩) (byteRow l).length cap (sliceE_ok hT t1) (intK_ok hT t2) (isStrT_ok hT t3)
    rw [hb] at hcv
    simp only [execOp, h1, e0]
    simp only [Sem.run_bind, hcv, Result.andThen_ok]
    simp
end
end Go.Abs
