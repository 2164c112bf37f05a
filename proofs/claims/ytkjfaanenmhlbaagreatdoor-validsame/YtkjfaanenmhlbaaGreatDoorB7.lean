/-
  THE ARGUMENTS of a law within its reach: expressions, rows of names, texts, each within the bulk; the table of tens out of what is laid.
-/
import Derived.Test.YtkjfaanenmhlbaaGreatDoorCards
import Derived.Test.YtkjfaanenmhlbaaGreatDoorTie
import Derived.Lay
import Derived.Deep.DeepHandedRow
import Derived.Lib.LaidTab
import Derived.Lib.LaidU8
import Derived.Shelf.Vars
import Derived.LaidSub
import Derived.Test.YtkjfaanenmhlbaaGreatDoorB0
import Derived.Test.YtkjfaanenmhlbaaGreatDoorH21
set_option linter.unusedVariables false
set_option linter.unusedSimpArgs false
namespace Go.Proofs.D
open Go Go.Abs Go.RowKit Go.ChangeShapes Go.WideShapes
open Go.Proofs.YtkjfaanenmhlbaaGreatDoor.Rows (uptoBulk uptoBulkAll uptoSmall)
section
variable {H:Type} {enc:TypeId × Value→H} {W:World}
theorem ownKnobs7:ownKnob Tryz.prog.godebug=none:=by kernel_rfl
instance instE7:Inhabited E:=⟨.mk 0 ⟨#[]⟩ []⟩
set_option maxRecDepth 20000 in
theorem argB {b0:Nat}{v:Value}{d:DataW H}{p:List MemPlace}(hok:Value.okWide Tryz.prog W .any b0 9 v)(hr:DataW.Trod enc Tryz.prog W 0 (fun _=>true) true 9 v d p)(hk:uptoBulk d≤1048576):∃s:ByteArray,Rep W (allOf W) noHd (vS s) v∧s.size≤1048576:=by
 obtain ⟨s,rfl,rfl,_,_⟩:=Go.ChangeMaps.open_string Tryz.underlying9 hok hr;have e:s.data.toList.length=s.size:=Array.length_toList;simp only [uptoBulk] at hk;exact ⟨s,rep_val rfl,by omega⟩
theorem tab10_of {L:List (String × DataW Unit)}(h:laidMetH Tryz.prog L W)(hm:("internal/strconv.uint64pow10",Go.Proofs.YtkjfaanenmhlbaaGreatDoor.Rows.laid_internal_strconv_uint64pow10)∈L):tab10.p W (allOf W):=by
 obtain ⟨g,t,cs,fuel,p,hg,ht,hv,hd⟩:=Lib.laidMet.reads (laidMetH_iff.1 h).1 (List.mem_filter.2 ⟨hm,by kernel_rfl⟩);obtain rfl:g=3:=Option.some.inj (hg.symm.trans (show Tryz.prog.globalNamed "internal/strconv.uint64pow10" = some 3 by kernel_rfl));obtain rfl:t=375:=Option.some.inj (ht.symm.trans (show (Tryz.prog.globals[3]?).map (·.type)=some 375 by kernel_rfl));have e4:(Go.Proofs.YtkjfaanenmhlbaaGreatDoor.Rows.laid_internal_strconv_uint64pow10:DataW Unit)=Lib.tabData .u64 Lib.pow10Tab:=by kernel_rfl
 rw [e4] at hd;have hcs:=Lib.cells_of_tab Tryz.underlying375 Tryz.underlying292 (by kernel_rfl) (by kernel_rfl) hd;simp only [World.var?,hg,Option.bind_some] at hv;cases hb:W.heap[3]? with
 |none=>rw [hb] at hv;cases hv
 |some o=>
  rw [hb] at hv;cases o with
  |cells cs' t' p'=>
   simp only [Option.some.injEq] at hv;subst hv;exact ⟨3,_,_,_,hg,(Array.getElem?_eq_some_iff.1 hb).1,hb,by rw [←hcs]⟩
  |_=>cases hv
end
end Go.Proofs.D
