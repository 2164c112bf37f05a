/-
  WHAT CARDS SHARE that stand on the library's tables.
-/
import Derived.Test.YtdlnenkemolnlaaGreatDoorCards
import Derived.Test.YtdlnenkemolnlaaGreatDoorTie
import Derived.Lay
import Derived.Deep.DeepHandedRow
import Derived.Lib.LaidTab
import Derived.Lib.LaidU8T
import Derived.Shelf.Vars
import Derived.LaidSub
import Derived.Test.YtdlnenkemolnlaaGreatDoorT1
import Derived.Test.YtdlnenkemolnlaaGreatDoorQ4
set_option linter.unusedVariables false
set_option linter.unusedSimpArgs false
namespace Go.Proofs.D
open Go Go.Abs Go.RowKit Go.ChangeShapes Go.WideShapes
theorem ownKnobsB : ownKnob Tryz.prog.godebug = none := by kernel_rfl
theorem u8extra : U8Extra Tryz.prog Tryz.lays196_ren := { n3 := by kernel_rfl, n4 := by kernel_rfl, y3 := by kernel_rfl, y4 := by kernel_rfl, c5 := by kernel_rfl, c119 := by kernel_rfl, c138 := by kernel_rfl }
theorem tabs_of {W : World} (h : laidMetH Tryz.prog [("unicode/utf8.acceptRanges", Go.Proofs.YtdlnenkemolnlaaGreatDoor.Rows.laid_unicode_utf8_acceptRanges), ("unicode/utf8.first", Go.Proofs.YtdlnenkemolnlaaGreatDoor.Rows.laid_unicode_utf8_first)] W) (hsh : W.ShapedOpen Tryz.prog) : tabs.p W (allOf W) := by
  have h1 : laidMet Tryz.prog [("unicode/utf8.acceptRanges", Go.Proofs.YtdlnenkemolnlaaGreatDoor.Rows.laid_unicode_utf8_acceptRanges), ("unicode/utf8.first", Go.Proofs.YtdlnenkemolnlaaGreatDoor.Rows.laid_unicode_utf8_first)] W := (laidMetH_iff.1 h).1
  have e3 : Go.Proofs.YtdlnenkemolnlaaGreatDoor.Rows.laid_unicode_utf8_first = Lib.firstData := by kernel_rfl
  have e4 : (Go.Proofs.YtdlnenkemolnlaaGreatDoor.Rows.laid_unicode_utf8_acceptRanges : DataW Unit) = Lib.acceptData := by kernel_rfl
  have r3 : Lib.VarReads Tryz.prog W "unicode/utf8.first" Lib.firstData := Lib.laidMet.reads h1 (by rw [← e3]; exact List.mem_cons_of_mem _ (List.mem_cons_self ..))
  have r4 : Lib.VarReads Tryz.prog W "unicode/utf8.acceptRanges" Lib.acceptData := Lib.laidMet.reads h1 (by rw [← e4]; exact List.mem_cons_self ..)
  have ht : Lib.Utf8Tabs 0 1 W := utf8Tabs_of_readsT (U8Types.of196 Tryz.lays196) u8extra r3 r4
  obtain ⟨m, hm⟩ := cell_of_shapedOpen_int (g := 2) (t := 3) (zero := #[.int .i64 0]) (k := .i64) hsh (of_decide_eq_true (by kernel_rfl)) (by kernel_rfl) rfl (by kernel_rfl) (by kernel_rfl) Tryz.underlying3
  exact ⟨ht, (cell_lt (ht.1 0 (by omega))).1, (cell_lt (ht.2 0 (by omega)).1).1, ⟨m, hm⟩, (cell_lt hm).1⟩
end Go.Proofs.D
/-
  A TEXT AS AN ARGUMENT, as a row of bytes.
-/
set_option linter.unusedVariables false
set_option linter.unusedSimpArgs false
namespace Go.Proofs.D
open Go Go.Abs Go.RowKit Go.ChangeShapes Go.WideShapes
set_option maxRecDepth 20000 in
theorem argT {H : Type} {enc : TypeId × Value → H} {W : World} {b0 : Nat} {v : Value} {d : DataW H} {p : List MemPlace} (hok : Value.okWide Tryz.prog W .any b0 9 v) (hr : DataW.Trod enc Tryz.prog W 0 (fun _ => true) true 9 v d p) : ∃ t : Bs, Rep W (allOf W) noHd (vS (bytesOf t)) v := by
  obtain ⟨s, rfl, _, _, _⟩ := Go.ChangeMaps.open_string Tryz.underlying9 hok hr
  exact ⟨s.data.toList, by rw [bytesOf_list]; exact rep_val rfl⟩
end Go.Proofs.D
