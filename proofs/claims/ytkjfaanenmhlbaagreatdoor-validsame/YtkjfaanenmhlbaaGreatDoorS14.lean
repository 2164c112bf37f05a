/-
  THE ANSWER TO CHAPTER 6: the names of an expression.
-/
import Derived.Test.YtkjfaanenmhlbaaGreatDoorZ4
import Derived.Test.YtkjfaanenmhlbaaGreatDoorS0
import Derived.Test.YtkjfaanenmhlbaaGreatDoorD16
set_option linter.unusedVariables false
set_option linter.unusedSimpArgs false
namespace Go.Proofs.D
open Go Go.Abs Go.RowKit
instance memDec (s:ByteArray) (l:List ByteArray):Decidable (s∈l):=@List.instDecidableMemOfLawfulBEq _ instBEqOfDecidableEq inferInstance s l
def putL (s:ByteArray):List ByteArray→Bool→List ByteArray
 |[],done=>if done=true then [] else [s]
 |x::l,done=>if done=false∧Op.bytesLess s.toList x.toList=true then s::x::putL s l true else x::putL s l done
def putR (l:List ByteArray)(s:ByteArray):List ByteArray:=if s∈l then l else putL s l false
theorem putL_mem (s x:ByteArray):∀(l:List ByteArray) (b:Bool),x∈putL s l b↔x∈l∨(b=false∧x=s)
 |[],b=>by cases b<;>simp [putL]
 |y::l,b=>by
  simp only [putL];split
  ·rename_i h;have:=putL_mem s x l true;simp only [List.mem_cons,this,h.1];simp;constructor
   ·rintro (h|h|h)
    ·exact .inr h
    ·exact .inl (.inl h)
    ·exact .inl (.inr h)
   ·rintro ((h|h)|h)
    ·exact .inr (.inl h)
    ·exact .inr (.inr h)
    ·exact .inl h
  ·have:=putL_mem s x l b;simp only [List.mem_cons,this,or_assoc]
theorem putL_len (s:ByteArray):∀(l:List ByteArray) (b:Bool),(putL s l b).length≤l.length+1
 |[],b=>by cases b<;>simp [putL]
 |y::l,b=>by
  simp only [putL];split
  ·have:∀l:List ByteArray,(putL s l true).length=l.length:=by
    intro l;induction l with
    |nil=>simp [putL]
    |cons y l ih=>simp [putL,ih]
   simp [this]
  ·have:=putL_len s l b;simp only [List.length_cons];omega
theorem putR_mem (l:List ByteArray)(s x:ByteArray):x∈putR l s↔x∈l∨x=s:=by
 unfold putR;split
 ·rename_i h;constructor
  ·exact .inl
  ·rintro (h1|rfl)
   ·exact h1
   ·exact h
 ·rw [putL_mem];simp
theorem putR_len (l:List ByteArray)(s:ByteArray):(putR l s).length≤l.length+1:=by
 unfold putR;split
 ·omega
 ·exact putL_len s l false
end Go.Proofs.D
