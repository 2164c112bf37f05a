/-
  SCHEMAS: are two the same?
-/
import Derived.Test.YtkjfaanenmhlbaaGreatDoorZ8
import Derived.Test.YtkjfaanenmhlbaaGreatDoorB8
import Derived.Test.YtkjfaanenmhlbaaGreatDoorS5
import Derived.Test.YtkjfaanenmhlbaaGreatDoorS20
import Derived.Test.YtkjfaanenmhlbaaGreatDoorH29p
import Derived.Test.YtkjfaanenmhlbaaGreatDoorG3
set_option linter.unusedVariables false
set_option linter.unusedSimpArgs false
namespace Go.Proofs.D
open Go Go.Abs Go.RowKit
def Sc.top (s:Sc):ByteArray:=((s.kinds[0]?).getD k0).name
theorem kinds_place (s:Sc):∀(l:List Kd) (i j:Nat) (h:j<l.length),kindsFrom s i l=true→s.place l[j].name=((i+j:Nat):Int)
 |[],_,_,h,_=>by simp at h
 |x::l,i,j,h,hk=>by
  simp only [kindsFrom,Bool.and_eq_true,decide_eq_true_eq] at hk
  match j,h with
  |0,_=>simpa using hk.1.1
  |j+1,h=>
   have:=kinds_place s l (i+1) j (by simpa using h) hk.2;simp only [List.getElem_cons_succ];rw [this];congr 1;omega
theorem ok_place {s:Sc}(h:s.ok=true){j:Nat}(hj:j<s.kinds.length):s.place s.kinds[j].name=(j:Int):=by
 simp only [Sc.ok,Bool.and_eq_true] at h;have:=kinds_place s s.kinds 0 j hj h.1;simpa using this
theorem ok_find {s:Sc}(h:s.ok=true){k:Kd}(hk:k∈s.kinds):s.find k.name=(k,true):=by
 obtain ⟨j,hj,rfl⟩:=List.getElem_of_mem hk;have hp:=ok_place h hj;unfold Sc.find;rw [if_neg (by omega),hp];simp [hj]
theorem ok_name_inj {s:Sc}(h:s.ok=true){k m:Kd}(hk:k∈s.kinds)(hm:m∈s.kinds)(e:k.name=m.name):k=m:=by
 have h1:=ok_find h hk;have h2:=ok_find h hm;rw [e,h2] at h1;exact (congrArg Prod.fst h1).symm
theorem ok_names_nodup {s:Sc}(h:s.ok=true):(s.kinds.map (·.name)).Nodup:=by
 unfold List.Nodup;rw [List.pairwise_map];refine List.pairwise_iff_getElem.2 fun i j hi hj hij e=>?_;have h1:=ok_place h hi;have h2:=ok_place h hj;rw [e,h2] at h1;omega
structure AlikeS (a b:Sc):Prop where
 ok1:a.ok=true
 ok2:b.ok=true
 top:a.top=b.top
 len:a.kinds.length=b.kinds.length
 marks:a.marks=b.marks
 kinds:∀k∈a.kinds,∃m∈b.kinds,m.name=k.name∧m.attrs=k.attrs∧∀w,k.content.L w↔m.content.L w
theorem AlikeS.symm {a b:Sc}(h:AlikeS a b):AlikeS b a:=by
 refine ⟨h.ok2,h.ok1,h.top.symm,h.len.symm,h.marks.symm,fun m hm=>?_⟩;have hex:m.name∈a.kinds.map (·.name):=Classical.byContradiction fun hn=>by
  have:=nodup_sub_len (m.name::a.kinds.map (·.name)) (b.kinds.map (·.name)) (List.nodup_cons.2 ⟨hn,ok_names_nodup h.ok1⟩) fun x hx=>by
   rcases List.mem_cons.1 hx with rfl|hx
   ·exact List.mem_map.2 ⟨m,hm,rfl⟩
   ·obtain ⟨k,hk,rfl⟩:=List.mem_map.1 hx;obtain ⟨m',hm',e,_⟩:=h.kinds k hk;exact List.mem_map.2 ⟨m',hm',e⟩
  have hl:=h.len;simp only [List.length_cons,List.length_map] at this;omega
 obtain ⟨k,hk,e⟩:=List.mem_map.1 hex;obtain ⟨m',hm',e1,e2,e3⟩:=h.kinds k hk;obtain rfl:m'=m:=ok_name_inj h.ok2 hm' hm (e1.trans e);exact ⟨k,hk,e,e2.symm,fun w=>(e3 w).symm⟩
theorem AlikeS.trans {a b c:Sc}(h:AlikeS a b)(h':AlikeS b c):AlikeS a c:=by
 refine ⟨h.ok1,h'.ok2,h.top.trans h'.top,h.len.trans h'.len,h.marks.trans h'.marks,fun k hk=>?_⟩;obtain ⟨m,hm,e1,e2,e3⟩:=h.kinds k hk;obtain ⟨n,hn,f1,f2,f3⟩:=h'.kinds m hm;exact ⟨n,hn,f1.trans e1,f2.trans e2,fun w=>(e3 w).trans (f3 w)⟩
end Go.Proofs.D
