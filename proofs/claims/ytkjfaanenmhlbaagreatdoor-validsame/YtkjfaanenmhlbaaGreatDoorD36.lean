/-
  THE NAMES of an expression: how often each.
-/
import Derived.Test.YtkjfaanenmhlbaaGreatDoorZ0
import Derived.Test.YtkjfaanenmhlbaaGreatDoorL6
import Derived.Test.YtkjfaanenmhlbaaGreatDoorAbsR
import Derived.StringKeys
import Derived.Test.YtkjfaanenmhlbaaGreatDoorD32
set_option linter.unusedVariables false
set_option linter.unusedSimpArgs false
namespace Go.Proofs.D
open Go Go.Abs
def T2:TT:=(245,⟨false,1,8,[.val .nilFunc],.other⟩)::T
theorem tok2:TOk Tryz.prog T2:=tok_cons (tok1 (z:=.nilFunc) Tryz.isAgg245 (by kernel_rfl) rfl rfl rfl (by decide) trivial) tok
attribute [local simp] T2
abbrev keyS (s:ByteArray):Lit:=.string s.data.toList
def valS (D:DataW Unit)(s:ByteArray):Int:=match D.atKey (keyS s) (.lit (.int .i64 0)) with
 |.lit (.int .i64 c)=>c
 |_=>0
def bump (D:DataW Unit)(s:ByteArray):DataW Unit:=D.put (keyS s) (.lit (.int .i64 (wr .i64 (valS D s+1))))
def E.tally:E→DataW Unit→DataW Unit
 |.mk op name kids=>fun D=>if op=110 then bump D name else go kids D
where go:List E→DataW Unit→DataW Unit
 |[]=>fun D=>D
 |k::l=>fun D=>go l (k.tally D)
theorem tally_eq (e:E)(D:DataW Unit):e.tally D=if e.op=110 then bump D e.name else E.tally.go e.kids D:=by
 obtain ⟨o,n,k⟩:=e;simp only [E.tally];rfl
structure Tal (D:DataW Unit) (N:Nat):Prop where
 tidy:Maps.Tidy D
 val:∀k,∃c,D.atKey k (.lit (.int .i64 0)) = .lit (.int .i64 c)
 size:Maps.size D≤N
theorem key_str (s:ByteArray):WideAt.IsKeyLit (keyS s):=by simp [WideAt.IsKeyLit]
theorem valS_eq {D:DataW Unit}{N:Nat}(h:Tal D N)(s:ByteArray):D.atKey (keyS s) (.lit (.int .i64 0)) = .lit (.int .i64 (valS D s)):=by
 obtain ⟨c,hc⟩:=h.val (keyS s);simp only [valS,hc]
theorem tal_empty:Tal (.map []) 0:=⟨Maps.tidy_empty,fun k=>⟨0,rfl⟩,Nat.le_refl _⟩
theorem tal_bump {D:DataW Unit}{N:Nat}(h:Tal D N)(s:ByteArray):Tal (bump D s) (N+1):=by
 refine ⟨h.tidy.put (key_str s) _,fun k=>?_,?_⟩
 ·by_cases hk:k=keyS s
  ·subst hk;exact ⟨_,Maps.atKey_put_same h.tidy.isMap (key_str s) _ _⟩
  ·obtain ⟨c,hc⟩:=h.val k;exact ⟨c,by rw [bump,Maps.atKey_put_other hk];exact hc⟩
 ·have:=h.size;rw [bump,Maps.size_put h.tidy];split<;>omega
theorem Tal.mono {D:DataW Unit}{N M:Nat}(h:Tal D N)(hm:N≤M):Tal D M:=⟨h.tidy,h.val,Nat.le_trans h.size hm⟩
theorem tal_tally (e:E)(D:DataW Unit)(N:Nat)(h:Tal D N):Tal (e.tally D) (N+e.cnt):=by
 have hc:=cnt_eq e;rw [tally_eq];split
 ·exact (tal_bump h e.name).mono (by omega)
 ·have key:∀(l:List E),(∀k∈l,k∈e.kids)→∀D N,Tal D N→Tal (E.tally.go l D) (N+(l.map E.cnt).sum):=by
   intro l;induction l with
   |nil=>intro _ D N h;exact h
   |cons x l ih=>
    intro hl D N h;simp only [E.tally.go,List.map_cons,List.sum_cons];have h1:=tal_tally x D N h;have:=ih (fun k hk=>hl k (by simp [hk])) _ _ h1
    rwa [Nat.add_assoc] at this
  exact (key e.kids (fun _ h=>h) D N h).mono (by omega)
termination_by SizeOf.sizeOf e
decreasing_by exact E.kids_lt (hl x (by simp))
abbrev Nq (D:DataW Unit):Obj→Prop:=mapIs Tryz.prog 9 3 D
theorem keyed9:Maps.Keyed Tryz.prog 9:=Maps.string_keyed Tryz.underlying9
theorem zero3 (w:World):(zeroValue 3).run Tryz.prog w = .ok (.int .i64 0) w:=by kernel_rfl
theorem wr_wf (z:Int):(Lit.int .i64 (wr .i64 z)).wf=true:=wf64 (by rw [wr_eq,IntKind.wrap_i64];omega)
set_option maxRecDepth 20000 in
theorem f47 (Gl:Granted)(e:E)(hs:e.small)(D:DataW Unit)(N:Nat)(hD:Tal D N)(hN:N+e.cnt≤1000000) :
 Fun Tryz.prog Gl 171 [e.av,.ptr (.arg 0) 0,.ptr (.arg 1) 0] [some (.box 244 [.hmap (.arg 2)]),some (.box 245 [.fn (.func 171) [] [.ptr (.arg 0) 0,.ptr (.arg 1) 0]]),some (.raw (Nq D))] (.tup [])
  [some (.box 244 [.hmap (.arg 2)]),some (.box 245 [.fn (.func 171) [] [.ptr (.arg 0) 0,.ptr (.arg 1) 0]]),some (.raw (Nq (e.tally D)))]:=by
 have hc:=cnt_eq e;refine fun_of (T:=T2) (n:=25) (rs:=[]) Tryz.func171 (by kernel_rfl) rfl rfl rfl tok2 mixed (by simp) fun C hC=>?_;have hte:=tally_eq e D;refine hC.vc [] 60 ?_;by_cases h1:e.op=110
 ·rw [if_pos h1] at hte;simp [E.av,E.cells,h1];have hn:=E.small_name hs;have hkey:keyOf Tryz.prog 9 (.string e.name)=some (keyS e.name):=Go.WideMaps.keyOf_string_mk Tryz.underlying9 (by simp only [maxLen];omega);refine hC.isGet Tryz.underlying244 Tryz.underlying3 zero3 keyed9 (.arg 2) (by rfl) hkey (valS_eq hD e.name) (by simp) ?_;refine hC.vc [] 60 ?_;simp;refine hC.isPut (D:=D) Tryz.underlying244 keyed9 (.arg 2) (by rfl) hkey (plainElem_int Tryz.underlying3 (wr_wf (valS D e.name+1))) (by have:=hD.size;simp only [maxLen];omega) (by simp) ?_;refine hC.vc [] 60 ?_;simp [hte,bump]
 ·rw [if_neg h1] at hte;simp [E.av,E.cells,h1];refine go_len 15 3 (e.kids.map E.pv) (by simp) fun hlen=>?_;rw [List.length_map] at hlen;refine go_loop (ι:={x:Nat × DataW Unit // x.1≤e.kids.length∧Tal x.2 (N+((e.kids.take x.1).map E.cnt).sum)∧E.tally.go (e.kids.drop x.1) x.2=e.tally D})
   (fun x=>⟨[(1,.ptr (.arg 0) 0),(2,.ptr (.arg 1) 0),(15,.pv (.ro 3 (e.kids.map E.pv))),(16,vI e.kids.length),(17,vI x.1.1)],
     [(.arg 0,some (.box 244 [.hmap (.arg 2)])),(.arg 1,some (.box 245 [.fn (.func 171) [] [.ptr (.arg 0) 0,.ptr (.arg 1) 0]])),(.arg 2,some (.raw (Nq x.1.2)))]⟩)
   (fun x=>e.kids.length-x.1.1) ⟨(0,D),by simp [hte];exact hD⟩ [] (by simp) fun x ih=>?_
  obtain ⟨⟨i,D'⟩,hi,hD',hg⟩:=x;simp only at ih hi hD' hg;refine hC.vc [] 60 ?_;by_cases hlt:i<e.kids.length
  ·rw [List.drop_eq_getElem_cons hlt] at hg;simp only [E.tally.go] at hg;have hsum:((e.kids.take i).map E.cnt).sum+e.kids[i].cnt≤(e.kids.map E.cnt).sum∧((e.kids.take (i+1)).map E.cnt).sum=((e.kids.take i).map E.cnt).sum+e.kids[i].cnt:=by
    have e1:e.kids.take (i+1)=e.kids.take i++[e.kids[i]]:=(by rw [List.take_add_one,List.getElem?_eq_getElem hlt];rfl);have e2:((e.kids.take (i+1)).map E.cnt).sum=((e.kids.take i).map E.cnt).sum+e.kids[i].cnt:=(by rw [e1,List.map_append,List.sum_append];rfl);have e3:=List.take_append_drop (i+1) e.kids;have e4:=congrArg (fun l:List E=>(l.map E.cnt).sum) e3;simp only [List.map_append,List.sum_append] at e4;exact ⟨by omega,e2⟩
   simp [hlt,E.pv_eq e.kids[i]];refine hC.call [.arg 0,.arg 1,.arg 2] (f47 Gl e.kids[i] (E.small_kids hs _ (by simp)) D' _ hD' (by omega)) (by simp [E.av,E.cells]) ?_;refine hC.vc [] 60 ?_;simp;have hw1:=wr64 ((i:Int)+1) (by omega);exact go_to [] (ih ⟨(i+1,e.kids[i].tally D'),hlt,by rw [hsum.2,←Nat.add_assoc];exact tal_tally _ _ _ hD',hg⟩ (by simp;omega)) (by simp [hw1])
  ·simp [hlt];rw [List.drop_eq_nil_of_le (by omega)] at hg;simp only [E.tally.go] at hg;rw [hg]
termination_by SizeOf.sizeOf e
decreasing_by exact E.kids_lt (by simp)
end Go.Proofs.D
