/-
  WHAT IS QUOTED, as the library replaces its signs.
-/
import Derived.Test.YtkjfaanenmhlbaaGreatDoorP1
import Derived.Lib.Replace
import Derived.Lib.SplitLaws
import Derived.Lib.Strings
import Derived.Lib.RuneCount
set_option linter.unusedVariables false
set_option linter.unusedSimpArgs false
namespace Go.Proofs.D
open Go Go.Abs
def splitC (c:UInt8):Bs→List Bs
 |[]=>[[]]
 |x::l=>if x=c then []::splitC c l else match splitC c l with
  |[]=>[[x]]
  |y::r=>(x::y)::r
theorem splitC_ne (c:UInt8):∀l,splitC c l≠[]
 |[]=>by simp [splitC]
 |x::l=>by
  unfold splitC;split
  ·simp
  ·split<;>simp
theorem index_one_cons (b c:UInt8)(l:Bs):Lib.index (b::l) [c]=if b=c then 0 else if Lib.index l [c] = -1 then -1 else Lib.index l [c]+1:=by
 rw [Lib.index];by_cases h:b=c
 ·subst h;simp [List.isPrefixOf]
 ·have hp:([c]:List UInt8).isPrefixOf (b::l)=false:=by simp [List.isPrefixOf,Ne.symm h]
  rw [hp,if_neg h];simp
theorem count_index (c:UInt8)(l:Bs):Lib.count l [c]=0↔Lib.index l [c] = -1:=by
 constructor
 ·intro h;rcases Lib.index_spec l [c] with ⟨h1,_⟩|⟨i,h1,_⟩
  ·exact h1
  ·rw [Lib.count_hit (by simp) h1] at h;omega
 ·intro h;exact Lib.count_miss h
theorem splitK_one (c:UInt8):∀l:Bs,Lib.splitK [c] 0 (Lib.count l [c]) l=splitC c l
 |[]=>by rw [Lib.count_miss (by simp [Lib.index])];rfl
 |b::l=>by
  have ih:=splitK_one c l;by_cases h:b=c
  ·subst h;have hix:Lib.index (b::l) [b]=0:=(by rw [index_one_cons,if_pos rfl]);rw [Lib.count_cons_eq,Nat.add_comm,Lib.splitK,hix];simp [splitC,ih]
  ·rw [Lib.count_cons_ne b c l h];rcases Nat.eq_zero_or_pos (Lib.count l [c]) with h0|h0
   ·rw [h0] at ih ⊢;simp only [Lib.splitK] at ih ⊢;rw [splitC,if_neg h,←ih]
   ·obtain ⟨k,hk⟩:∃k,Lib.count l [c]=k+1:=⟨Lib.count l [c]-1,by omega⟩;have hne:Lib.index l [c]≠-1:=fun e=>by rw [(count_index c l).2 e] at h0;omega
    have hge:=Lib.index_ge l [c];obtain ⟨j,hj⟩:∃j:Nat,Lib.index l [c]=j:=⟨(Lib.index l [c]).toNat,by omega⟩;have hix:Lib.index (b::l) [c]=((j+1:Nat):Int):=(by rw [index_one_cons,if_neg h,if_neg hne,hj];simp);have e1:¬(((j+1:Nat):Int) == -1)=true:=fun e=>by have:=beq_iff_eq.1 e;omega
    have e2:¬((j:Int) == -1)=true:=fun e=>by have:=beq_iff_eq.1 e;omega
    rw [hk] at ih ⊢;rw [Lib.splitK,hj,if_neg e2] at ih;rw [Lib.splitK,hix,if_neg e1,splitC,if_neg h,←ih];have e3:((j+1:Nat):Int).toNat=j+1:=(by omega);have e4:((j:Nat):Int).toNat=j:=(by omega);simp only [e3,e4,Nat.add_zero,List.length_cons,List.length_nil,Nat.zero_add];simp [List.take_succ_cons]
theorem trim_cons (c b:UInt8)(l:Bs)(h:b≠c):Lib.trimSuffix (b::l) [c]=b::Lib.trimSuffix l [c]:=by
 unfold Lib.trimSuffix Lib.hasSuffix;rcases List.eq_nil_or_concat l with rfl|⟨m,x,rfl⟩
 ·simp [List.isSuffixOf,List.isPrefixOf,Ne.symm h]
 ·simp only [List.isSuffixOf,List.concat_eq_append,List.reverse_append,List.reverse_cons,List.reverse_nil,List.nil_append,List.isPrefixOf,List.cons_append];by_cases hx:c=x
  ·subst hx;simp
  ·simp [hx]
def afterL (c:UInt8)(l:Bs):List Bs:=Lib.splitK [c] 1 (Lib.count l [c]) l
theorem after_trim (c:UInt8):∀l:Bs,(afterL c l).map (fun x=>Lib.trimSuffix x [c])=splitC c l
 |[]=>by
  unfold afterL;rw [Lib.count_miss (by simp [Lib.index])];simp [Lib.splitK,splitC,Lib.trimSuffix,Lib.hasSuffix,List.isSuffixOf,List.isPrefixOf]
 |b::l=>by
  have ih:=after_trim c l;unfold afterL at ih ⊢;by_cases h:b=c
  ·subst h;have hix:Lib.index (b::l) [b]=0:=(by rw [index_one_cons,if_pos rfl]);rw [Lib.count_cons_eq,Nat.add_comm,Lib.splitK,hix];have e0:Lib.trimSuffix [b] [b] = []:=(by simp [Lib.trimSuffix,Lib.hasSuffix,List.isSuffixOf,List.isPrefixOf]);simp [splitC,ih,e0]
  ·rw [Lib.count_cons_ne b c l h];rcases Nat.eq_zero_or_pos (Lib.count l [c]) with h0|h0
   ·rw [h0] at ih ⊢;simp only [Lib.splitK,List.map_cons,List.map_nil] at ih ⊢;rw [splitC,if_neg h,←ih,trim_cons c b l h]
   ·obtain ⟨k,hk⟩:∃k,Lib.count l [c]=k+1:=⟨Lib.count l [c]-1,by omega⟩;have hne:Lib.index l [c]≠-1:=fun e=>by rw [(count_index c l).2 e] at h0;omega
    have hge:=Lib.index_ge l [c];obtain ⟨j,hj⟩:∃j:Nat,Lib.index l [c]=j:=⟨(Lib.index l [c]).toNat,by omega⟩;have hix:Lib.index (b::l) [c]=((j+1:Nat):Int):=(by rw [index_one_cons,if_neg h,if_neg hne,hj];simp);have e1:¬(((j+1:Nat):Int) == -1)=true:=fun e=>by have:=beq_iff_eq.1 e;omega
    have e2:¬((j:Int) == -1)=true:=fun e=>by have:=beq_iff_eq.1 e;omega
    rw [hk] at ih ⊢;rw [Lib.splitK,hj,if_neg e2] at ih;rw [Lib.splitK,hix,if_neg e1,splitC,if_neg h,←ih];have e3:((j+1:Nat):Int).toNat=j+1:=(by omega);have e4:((j:Nat):Int).toNat=j:=(by omega);simp only [e3,e4,List.map_cons,List.length_cons,List.length_nil,Nat.zero_add,List.take_succ_cons,List.drop_succ_cons];rw [trim_cons c b _ h]
noncomputable instance:DecidableEq N:=fun a b=>Classical.propDecidable _
structure Ent where
 has:Bool
 value:ByteArray
 rest:List N
noncomputable instance:DecidableEq Ent:=fun a b=>Classical.propDecidable _
def xOf (l:List N):N:=.mk ⟨#[120]⟩ ⟨#[]⟩ [] [] l
def N.deep:N→Int
 |.mk k t m a kids=>if k=textK then 0 else wr .i64 (go kids 0+1)
where go:List N→Int→Int
 |[],d=>d
 |x::l,d=>go l (if d<x.deep then x.deep else d)
theorem N.deep_eq (n:N):n.deep=if n.kind=textK then 0 else wr .i64 (N.deep.go n.kids 0+1):=by
 obtain ⟨⟩:=n;simp only [N.deep];rfl
def N.size:N→Int
 |.mk k t m a kids=>if k=textK then Lib.runeCount t else wr .i64 (2+go kids 0)
where go:List N→Int→Int
 |[],d=>d
 |x::l,d=>go l (wr .i64 (d+x.size))
theorem N.size_eq (n:N):n.size=if n.kind=textK then (Lib.runeCount n.text:Int) else wr .i64 (2+N.size.go n.kids 0):=by
 obtain ⟨⟩:=n;simp only [N.size];rfl
def N.check (n:N):Int:=if n.form=false then 2 else if 40<n.deep then 4 else if 4000<n.size then 5 else 0
def Ent.none (e:Ent):Bool:=decide (e.value=⟨#[]⟩)&&decide (e.rest.length=0)
def Ent.ok (e:Ent):Bool:=if e.has=true then Go.Proofs.D.value e.value&&decide ((xOf e.rest).check=0) else e.none
def Ent.w (e:Ent):Bs:=if e.has=true then 61::(quoteB e.value.data.toList++(if N.w.go e.rest = [] then [] else 91::(N.w.go e.rest++[93]))) else [45]
def names1 (l:List ByteArray):Nat:=(l.map fun s=>1+s.size).sum
def attrs1 (l:List (ByteArray × ByteArray)):Nat:=(l.map fun p=>1+p.1.size+p.2.size).sum
def N.wt:N→Nat
 |.mk k t m a kids=>1+k.size+t.size+names1 m+attrs1 a+go kids
where go:List N→Nat
 |[]=>0
 |x::l=>x.wt+go l
theorem N.wt_eq (n:N):n.wt=1+n.kind.size+n.text.size+names1 n.marks+attrs1 n.attrs+N.wt.go n.kids:=by
 obtain ⟨⟩:=n;simp only [N.wt];rfl
theorem wt_kid {l:List N}{x:N}(h:x∈l):x.wt≤N.wt.go l:=by
 induction l with
 |nil=>cases h
 |cons y l ih=>
  simp only [N.wt.go];rcases List.mem_cons.1 h with rfl|h
  ·omega
  ·have:=ih h;omega
theorem wt_pos (n:N):1≤n.wt:=by rw [N.wt_eq];omega
theorem go_len_wt (l:List N):l.length≤N.wt.go l:=by
 induction l with
 |nil=>simp
 |cons x l ih=>have:=wt_pos x;simp only [N.wt.go,List.length_cons];omega
theorem mem_names1 {l:List ByteArray}{s:ByteArray}(h:s∈l):1+s.size≤names1 l:=by
 induction l with
 |nil=>cases h
 |cons x l ih=>
  simp only [names1,List.map_cons,List.sum_cons] at ih ⊢;rcases List.mem_cons.1 h with rfl|h
  ·omega
  ·have:=ih h;omega
theorem mem_attrs1 {l:List (ByteArray × ByteArray)}{s:ByteArray × ByteArray}(h:s∈l):1+s.1.size+s.2.size≤attrs1 l:=by
 induction l with
 |nil=>cases h
 |cons x l ih=>
  simp only [attrs1,List.map_cons,List.sum_cons] at ih ⊢;rcases List.mem_cons.1 h with rfl|h
  ·omega
  ·have:=ih h;omega
theorem names1_len (l:List ByteArray):l.length≤names1 l:=by
 induction l with
 |nil=>simp
 |cons x l ih=>simp only [names1,List.map_cons,List.sum_cons,List.length_cons] at ih ⊢;omega
theorem attrs1_len (l:List (ByteArray × ByteArray)):l.length≤attrs1 l:=by
 induction l with
 |nil=>simp
 |cons x l ih=>simp only [attrs1,List.map_cons,List.sum_cons,List.length_cons] at ih ⊢;omega
theorem bsz (s:ByteArray):s.data.toList.length=s.size:=Array.length_toList
def Ent.wt (e:Ent):Nat:=1+e.value.size+N.wt.go e.rest
end Go.Proofs.D
