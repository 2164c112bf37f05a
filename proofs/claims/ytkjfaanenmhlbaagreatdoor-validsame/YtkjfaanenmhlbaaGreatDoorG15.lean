/-
  THE ANSWER TO CHAPTER 6: all names of an expression.
-/
import Derived.Test.YtkjfaanenmhlbaaGreatDoorZ4
import Derived.Test.YtkjfaanenmhlbaaGreatDoorS14
import Derived.Test.YtkjfaanenmhlbaaGreatDoorG12
import Derived.Test.YtkjfaanenmhlbaaGreatDoorL6
import Derived.Test.YtkjfaanenmhlbaaGreatDoorH25
set_option linter.unusedVariables false
set_option linter.unusedSimpArgs false
namespace Go.Proofs.D
open Go Go.Abs Go.RowKit
def E.namesR:E→List ByteArray
 |.mk op name kids=>if op=110 then [name] else go kids []
where go:List E→List ByteArray→List ByteArray
 |[],out=>out
 |k::l,out=>go l (k.namesR.foldl putR out)
theorem namesR_eq (e:E):e.namesR=if e.op=110 then [e.name] else E.namesR.go e.kids []:=by
 obtain ⟨o,n,k⟩:=e;simp only [E.namesR,E.op,E.name,E.kids];rfl
theorem fold_mem (x:ByteArray):∀(m out:List ByteArray),x∈m.foldl putR out↔x∈out∨x∈m
 |[],out=>by simp
 |y::m,out=>by
  rw [List.foldl_cons,fold_mem x m,putR_mem];simp only [List.mem_cons,or_assoc]
theorem fold_len:∀(m out:List ByteArray),(m.foldl putR out).length≤out.length+m.length
 |[],out=>by simp
 |y::m,out=>by
  have h1:=fold_len m (putR out y);have h2:=putR_len out y;rw [List.foldl_cons,List.length_cons];omega
theorem namesR_mem (e:E)(x:ByteArray):x∈e.namesR↔e.occ x:=by
 have key:∀(l:List E) (out:List ByteArray),(∀k∈l,x∈k.namesR↔k.occ x)→(x∈E.namesR.go l out↔x∈out∨∃k∈l,k.occ x):=by
  intro l;induction l with
  |nil=>intro out _;simp [E.namesR.go]
  |cons k l ih=>
   intro out h;simp only [E.namesR.go];rw [ih _ (fun y hy=>h y (by simp [hy])),fold_mem,h k (by simp)];simp only [List.mem_cons,exists_eq_or_imp,or_assoc]
 rw [namesR_eq,occ_eq];by_cases h:e.op=110
 ·rw [if_pos h,if_pos h];simp
 ·rw [if_neg h,if_neg h,key e.kids [] (fun k hk=>namesR_mem k x)];simp
termination_by SizeOf.sizeOf e
decreasing_by exact E.kids_lt hk
theorem namesR_len (e:E):e.namesR.length≤e.cnt:=by
 have key:∀(l:List E) (out:List ByteArray),(∀k∈l,k.namesR.length≤k.cnt)→(E.namesR.go l out).length≤out.length+(l.map E.cnt).sum:=by
  intro l;induction l with
  |nil=>intro out _;simp [E.namesR.go]
  |cons k l ih=>
   intro out h;have h1:=ih (k.namesR.foldl putR out) (fun y hy=>h y (by simp [hy]));have h2:=fold_len k.namesR out;have h3:=h k (by simp);simp only [E.namesR.go,List.map_cons,List.sum_cons];omega
 rw [namesR_eq,cnt_eq];split
 ·simp
 ·have:=key e.kids [] (fun k hk=>namesR_len k);simp at this;omega
termination_by SizeOf.sizeOf e
decreasing_by exact E.kids_lt hk
end Go.Proofs.D
namespace Go.Proofs.D
open Go Go.Abs
theorem less_blt (s x:ByteArray):Op.bytesLess s.toList x.toList=true↔blt s x:=by
 rw [Go.Proofs.bytesLess_eq,decide_eq_true_iff,ByteArray.toList_eq,ByteArray.toList_eq];exact Iff.rfl
theorem putL_true (s:ByteArray):∀l:List ByteArray,putL s l true=l
 |[]=>rfl
 |x::l=>by simp [putL,putL_true s l]
theorem putL_sorted (s:ByteArray):∀(l:List ByteArray),l.Pairwise blt→s∉l→(putL s l false).Pairwise blt
 |[],_,_=>by simp [putL]
 |x::l,h,hn=>by
  obtain ⟨h1,h2⟩:=List.pairwise_cons.1 h;have hsx:s≠x:=fun e=>hn (by simp [e]);have hsl:s∉l:=fun e=>hn (by simp [e]);unfold putL;split
  ·rename_i hc;have hb:=(less_blt s x).1 hc.2;rw [putL_true];refine List.pairwise_cons.2 ⟨fun y hy=>?_,h⟩;rcases List.mem_cons.1 hy with rfl|hy
   ·exact hb
   ·exact blt_trans hb (h1 y hy)
  ·rename_i hc;have hxs:blt x s:=by
    rcases blt_tri x s with g|g|g
    ·exact g
    ·exact absurd g.symm hsx
    ·exact absurd ⟨rfl,(less_blt s x).2 g⟩ hc
   refine List.pairwise_cons.2 ⟨fun y hy=>?_,putL_sorted s l h2 hsl⟩;rcases (putL_mem s y l false).1 hy with hy|⟨_,rfl⟩
   ·exact h1 y hy
   ·exact hxs
theorem putR_sorted {l:List ByteArray}(h:l.Pairwise blt)(s:ByteArray):(putR l s).Pairwise blt:=by
 unfold putR;split
 ·exact h
 ·exact putL_sorted s l h (by assumption)
theorem fold_sorted:∀(m:List ByteArray) {l:List ByteArray},l.Pairwise blt→(m.foldl putR l).Pairwise blt
 |[],_,h=>h
 |x::m,l,h=>by rw [List.foldl_cons];exact fold_sorted m (putR_sorted h x)
theorem namesR_sorted (e:E):e.namesR.Pairwise blt:=by
 rw [namesR_eq];split
 ·exact List.pairwise_singleton _ _
 ·have:∀(l:List E) (out:List ByteArray),out.Pairwise blt→(E.namesR.go l out).Pairwise blt:=by
   intro l;induction l with
   |nil=>intro out h;exact h
   |cons k l ih=>intro out h;rw [E.namesR.go];exact ih _ (fold_sorted _ h)
  exact this e.kids [] .nil
theorem sorted_nodup {l:List ByteArray}(h:l.Pairwise blt):l.Nodup:=by
 refine h.imp fun {a b} h e=>?_;subst e;exact blt_irrefl a h
theorem names_sorted (e:E):e.names.Pairwise blt:=List.pairwise_map (f:=fun s:ByteArray=>s.data.toList) (R:=fun a b=>a<b) |>.1 (names_rise e)
theorem sorted_eq:∀ {l m:List ByteArray},l.Pairwise blt→m.Pairwise blt→(∀x,x∈l↔x∈m)→l=m:=fun {l m} hl hm h=>by
 refine List.Perm.eq_of_pairwise (le:=blt) (fun a b _ _ h1 h2=>absurd (blt_trans h1 h2) (blt_irrefl a)) hl hm ?_;exact (List.perm_ext_iff_of_nodup (sorted_nodup hl) (sorted_nodup hm)).2 h
theorem namesR_names (e:E):e.namesR=e.names:=sorted_eq (namesR_sorted e) (names_sorted e) fun x=>(namesR_mem e x).trans (names_mem e x).symm
end Go.Proofs.D
