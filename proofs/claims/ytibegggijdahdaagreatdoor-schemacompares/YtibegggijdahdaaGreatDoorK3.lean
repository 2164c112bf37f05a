/-
  ARE TWO ONE?
-/
import Derived.Test.YtibegggijdahdaaGreatDoorZ3
import Derived.Test.YtibegggijdahdaaGreatDoorS0
set_option linter.unusedVariables false
set_option linter.unusedSimpArgs false
namespace Go.Proofs.D
open Go Go.Abs Go.RowKit
theorem dec_drop {α:Type}[DecidableEq α]{l m:List α}{i:Nat}(h1:i<l.length)(h2:i<m.length):decide (l.drop i=m.drop i)=(decide (l[i]=m[i])&&decide (l.drop (i+1)=m.drop (i+1))):=by
 rw [List.drop_eq_getElem_cons h1,List.drop_eq_getElem_cons h2,Bool.eq_iff_iff];simp only [decide_eq_true_eq,Bool.and_eq_true,List.cons.injEq]
theorem dec_len {α:Type}[DecidableEq α]{l m:List α}(h:¬(l.length:Int)=m.length):decide (l=m)=false:=by
 rw [decide_eq_false_iff_not];intro e;subst e;exact h rfl
theorem dec_end {α:Type}[DecidableEq α]{l m:List α}{i:Nat}(h1:l.length≤i)(h2:m.length≤i):decide (l.drop i=m.drop i)=true:=by
 rw [List.drop_eq_nil_of_le h1,List.drop_eq_nil_of_le h2];simp
theorem Ent.pv_eq (e:Ent):e.pv = [.val (.bool e.has),.val (.string e.value),nodes e.rest]:=rfl
end Go.Proofs.D
