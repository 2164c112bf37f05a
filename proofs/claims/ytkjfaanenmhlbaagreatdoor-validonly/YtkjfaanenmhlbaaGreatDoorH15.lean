/-
  TEXTS OF A ROW, one by one, to whoever asks (slices.Values); put into a new row, in order (slices.Sorted).
-/
import Derived.RangeFuncBox
import Derived.RangeFuncLeaves
import Derived.RangeFuncWrites
import Derived.Maps.AppendAt
import Derived.Sort.OwnSorted
import Derived.LoopNIn
import Derived.LoopIn
import Derived.TacticsInMore
import Derived.OwnWalkIn
import Derived.Test.YtkjfaanenmhlbaaGreatDoorH2
import Derived.Test.YtkjfaanenmhlbaaGreatDoorShelfS
set_option linter.unusedVariables false
set_option linter.unusedSimpArgs false
namespace Go.Proofs.D
open Go Go.Abs Go.RowKit Go.Sort Go.Maps Go.Shelf
abbrev encB (s:ByteArray):Value:=.string s
def VQ (l:List ByteArray)(w:World)(F:Nat→Prop)(v:Value):Prop:=
 ∃kb A cap,v = .func (.func 236) #[] #[.pointer (some ⟨kb,0,none⟩)]∧F kb∧w.heap[kb]?=some (.cells #[.slice A l.length cap] 23 (0,0))∧(l≠[]→∃b off,A=some ⟨b,off,none⟩∧F b∧∀(j:Nat) (z:ByteArray),l[j]?=some z→w.cell? ⟨b,off+j,none⟩=some (encB z))
theorem VQ.mono {l:List ByteArray}{w w':World}{F F':Nat→Prop}{v:Value}(h:VQ l w F v)(h1:∀k,F k→w'.heap[k]?=w.heap[k]?)(h2:∀k,F k→F' k):VQ l w' F' v:=by
 obtain ⟨kb,A,cap,e,q1,q2,q3⟩:=h;refine ⟨kb,A,cap,e,h2 _ q1,(h1 _ q1).trans q2,fun hne=>?_⟩;obtain ⟨b,off,e2,hb,hc⟩:=q3 hne;exact ⟨b,off,e2,h2 _ hb,fun j z hz=>(World.cell?_of_block (w:=w) (h1 b hb)).trans (hc j z hz)⟩
end Go.Proofs.D
