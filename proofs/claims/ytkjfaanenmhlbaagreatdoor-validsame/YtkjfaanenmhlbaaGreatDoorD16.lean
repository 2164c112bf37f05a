/-
  PREFIXES.
-/
import Derived.Test.YtkjfaanenmhlbaaGreatDoorZ0
import Derived.Test.YtkjfaanenmhlbaaGreatDoorAbsP
set_option linter.unusedVariables false
set_option linter.unusedSimpArgs false
namespace Go.Proofs.D
open Go Go.Abs
def hasPre (s p:ByteArray):Bool:=decide (p.size≤s.size)&&decide (s.extract 0 p.size=p)
theorem f96 (Gl:Granted)(s p:ByteArray):Fun Tryz.prog Gl 191 [vS s,vS p] [] (vB (hasPre s p)) []:=by
 refine fun_of (T:=T) (n:=18) (rs:=[.tmp 4]) Tryz.func191 (by kernel_rfl) rfl rfl rfl tok mixed (by simp) fun C hC=>?_;refine hC.vc [] 60 ?_;simp;by_cases h:p.size≤s.size
 ·simp [h,hasPre]
 ·simp [h,hasPre]
def cutPre (s p:ByteArray):ByteArray:=if hasPre s p=true then s.extract p.size s.size else s
theorem hasPre_le {s p:ByteArray}(h:hasPre s p=true):p.size≤s.size:=by simp [hasPre] at h;exact h.1
theorem f75 (Gl:Granted)(s p:ByteArray):Fun Tryz.prog Gl 128 [vS s,vS p] [] (.tup [vS (cutPre s p),vB (hasPre s p)]) []:=by
 refine fun_of (T:=T) (n:=15) (rs:=[.tmp 4,.tmp 5]) Tryz.func128 (by kernel_rfl) rfl rfl rfl tok mixed (by simp) fun C hC=>?_;refine hC.vc [] 60 ?_;simp;refine hC.call [] (f96 Gl s p) (by simp) ?_;refine hC.vc [] 60 ?_;simp;cases h:hasPre s p
 ·simp [cutPre,h]
 ·simp [cutPre,h,hasPre_le h]
theorem f50 (Gl:Granted)(s p:ByteArray):Fun Tryz.prog Gl 72 [vS s,vS p] [] (.tup [vS (cutPre s p),vB (hasPre s p)]) []:=by
 refine fun_of (T:=T) (n:=11) (rs:=[.tmp 4,.tmp 5]) Tryz.func72 (by kernel_rfl) rfl rfl rfl tok mixed (by simp) fun C hC=>?_;refine hC.vc [] 60 ?_;simp;refine hC.call [] (f75 Gl s p) (by simp) ?_;refine hC.vc [] 60 ?_;simp
def rdB (left:ByteArray)(bad:Bool)(many:Int):Blk:=.box 273 [vS left,vB bad,vI many]
theorem f81 (Gl:Granted)(s p:ByteArray)(bad:Bool)(many:Int):Fun Tryz.prog Gl 275 [.ptr (.arg 0) 0,vS p] [some (rdB s bad many)] (vB (hasPre s p)) [some (rdB (cutPre s p) bad many)]:=by
 refine fun_of (T:=T) (n:=21) (rs:=[.tmp 4]) Tryz.func275 (by kernel_rfl) rfl rfl rfl tok mixed (by simp) fun C hC=>?_;refine hC.vc [] 60 ?_;simp [rdB];refine hC.call [] (f50 Gl s p) (by simp) ?_;refine hC.vc [] 60 ?_;simp [rdB]
inductive E where
 |mk (op:Int) (name:ByteArray) (kids:List E)
def E.op:E→Int | .mk a _ _=>a
def E.name:E→ByteArray | .mk _ a _=>a
def E.kids:E→List E | .mk _ _ a=>a
theorem E.kids_lt {e x:E}(h:x∈e.kids):SizeOf.sizeOf x<SizeOf.sizeOf e:=by
 obtain ⟨op,name,kids⟩:=e;have:=List.sizeOf_lt_of_mem h;have e:(E.mk op name kids).kids=kids:=rfl;rw [e] at this;simp;omega
def E.pv:E→List PV
 |.mk op name kids=>[.val (.int .u8 op),.val (.string name),.ro 3 (kids.attach.map fun x=>x.1.pv)]
termination_by e=>SizeOf.sizeOf e
decreasing_by exact E.kids_lt (e:=.mk op name kids) x.2
theorem E.pv_eq (e:E):e.pv = [.val (.int .u8 e.op),.val (.string e.name),.ro 3 (e.kids.map E.pv)]:=by
 cases e;simp [E.pv,E.op,E.name,E.kids]
def E.cells (e:E):List AV:=[.pv (.val (.int .u8 e.op)),.pv (.val (.string e.name)),.pv (.ro 3 (e.kids.map E.pv))]
def E.av (e:E):AV:=.agg e.cells
def E.small:E→Prop
 |.mk _ name kids=>name.size≤9223372036854775807∧go kids
where go:List E→Prop
 |[]=>True
 |k::l=>k.small∧go l
theorem E.small_name {e:E}(h:e.small):e.name.size≤9223372036854775807:=by
 obtain ⟨o,n,k⟩:=e;simp only [E.small] at h;exact h.1
theorem E.small_kids {e:E}(h:e.small):∀k∈e.kids,k.small:=by
 obtain ⟨o,n,kids⟩:=e;simp only [E.small] at h;have:∀l:List E,E.small.go l→∀k∈l,k.small:=by
  intro l;induction l with
  |nil=>intro _ k hk;cases hk
  |cons x l ih=>
   intro h k hk;simp only [E.small.go] at h;rcases List.mem_cons.1 hk with rfl|hk
   ·exact h.1
   ·exact ih h.2 k hk
 exact this kids h.2
theorem E.small_mk {o:Int}{n:ByteArray}{l:List E}(h1:n.size≤9223372036854775807)(h2:∀k∈l,k.small):(E.mk o n l).small:=by
 simp only [E.small];refine ⟨h1,?_⟩;induction l with
 |nil=>simp only [E.small.go]
 |cons x l ih=>
  simp only [E.small.go];exact ⟨h2 x (by simp),ih fun k hk=>h2 k (by simp [hk])⟩
def E.many:E→Int
 |.mk a b kids=>kids.attach.foldl (fun n x=>wr .i64 (n+x.1.many)) 1
termination_by e=>SizeOf.sizeOf e
decreasing_by exact E.kids_lt (e:=.mk a b kids) x.2
theorem E.many_eq (e:E):e.many=e.kids.foldl (fun n x=>wr .i64 (n+x.many)) 1:=by
 cases e;simp [E.many,E.kids]
theorem f32 (Gl:Granted)(e:E):Fun Tryz.prog Gl 120 [e.av] [] (vI e.many) []:=by
 refine fun_of (T:=T) (n:=19) (rs:=[.tmp 2]) Tryz.func120 (by kernel_rfl) rfl rfl rfl tok mixed (by simp) fun C hC=>?_;refine hC.vc [] 60 ?_;simp [E.av,E.cells];refine go_len 7 3 (e.kids.map E.pv) (by simp) fun hk=>?_;rw [List.length_map] at hk;refine go_loop (ι:={p:Nat × Int // p.1≤e.kids.length∧e.many=(e.kids.drop p.1).foldl (fun n x=>wr .i64 (n+x.many)) p.2}) (fun x=>⟨[(7,.pv (.ro 3 (e.kids.map E.pv))),(8,vI e.kids.length),(3,vI x.1.2),(9,vI x.1.1)],[]⟩) (fun x=>e.kids.length-x.1.1) ⟨(0,1),by simp only [List.drop_zero];exact ⟨Nat.zero_le _,E.many_eq e⟩⟩ [] (by simp) fun x ih=>?_;obtain ⟨⟨i,n⟩,hi,hn⟩:=x;simp only at hi hn ih;refine hC.vc [] 60 ?_;simp;by_cases hlt:i<e.kids.length
 ·rw [foldl_drop _ _ _ hlt] at hn;simp [hlt,E.pv_eq];refine hC.call [] (f32 Gl e.kids[i]) (by simp [E.av,E.cells]) ?_;refine hC.vc [] 40 ?_;simp;have hw:=wr64 ((i:Int)+1) (by omega);exact go_to [] (ih ⟨(i+1,_),hlt,hn⟩ (by simp;omega)) (by simp [hw])
 ·simp [hlt];rw [hn,List.drop_eq_nil_of_le (by omega)];rfl
termination_by SizeOf.sizeOf e
decreasing_by exact E.kids_lt (by simp)
def E.suffix (e:E):Bool:=decide (e.op=42) || decide (e.op=43) || decide (e.op=63)
theorem f59 (Gl:Granted)(e:E):Fun Tryz.prog Gl 175 [e.av] [] (vB e.suffix) []:=by
 refine fun_of (T:=T) (n:=16) (rs:=[.tmp 2]) Tryz.func175 (by kernel_rfl) rfl rfl rfl tok mixed (by simp) fun C hC=>?_;refine hC.vc [] 60 ?_;simp [E.av,E.cells,E.suffix];by_cases h1:e.op=42
 ·simp [h1]
 ·by_cases h2:e.op=43
  ·simp [h2]
  ·simp [h1,h2]
def isName (s:ByteArray):Bool:=decide (1≤s.size)&&decide (s.size≤8)&&s.data.toList.all (fun c=>decide (97≤c.toNat)&&decide (c.toNat≤122))&&!decide (s=⟨#[116,101,120,116]⟩)
def firstIx (q:E→Bool):List E→Nat→Int
 |[],_=>-1
 |x::l,i=>if q x=true then (i:Int) else firstIx q l (i+1)
theorem firstIx_any (q:E→Bool)(l:List E)(i:Nat):decide (firstIx q l i≥0)=l.any q:=by
 induction l generalizing i with
 |nil=>simp [firstIx]
 |cons x l ih=>
  simp only [firstIx,List.any_cons];split
  ·rename_i h;simp [h]
  ·rename_i h;simp at h;simp only [h,Bool.false_or];exact ih (i+1)
theorem f87 (Gl:Granted)(l:List E)(e:E)(q:E→Bool)(hq:∀x∈l,Fun Tryz.prog Gl 176 [x.av,.ptr (.arg 0) 0] [some (.box 63 e.cells)] (vB (q x)) [some (.box 63 e.cells)]) :
 Fun Tryz.prog Gl 226 [.pv (.ro 3 (l.map E.pv)),.fn (.func 176) [] [.ptr (.arg 0) 0]] [some (.box 63 e.cells)] (vI (firstIx q l 0)) [some (.box 63 e.cells)]:=by
 refine fun_of (T:=T) (n:=19) (rs:=[.tmp 4]) Tryz.func226 (by kernel_rfl) rfl rfl rfl tok mixed (by simp) fun C hC=>?_;refine hC.vc [] 60 ?_;simp [E.cells];refine go_len 6 3 (l.map E.pv) (by simp) fun hk=>?_;rw [List.length_map] at hk;refine go_loop (ι:={i:Nat // i≤l.length∧firstIx q l 0=firstIx q (l.drop i) i}) (fun x=>⟨[(0,.pv (.ro 3 (l.map E.pv))),(1,.fn (.func 176) [] [.ptr (.arg 0) 0]),(6,.pv (.ro 3 (l.map E.pv))),(7,vI l.length),(8,vI x.1)],[(.arg 0,some (.box 63 e.cells))]⟩) (fun x=>l.length-x.1) ⟨0,by simp⟩ [] (by simp [E.cells]) fun x ih=>?_;obtain ⟨i,hi,hn⟩:=x;simp only at hi hn ih;refine hC.vc [] 60 ?_;simp [E.cells];by_cases hlt:i<l.length
 ·rw [List.drop_eq_getElem_cons hlt] at hn;simp only [firstIx] at hn;simp [hlt,E.pv_eq];refine hC.call [.arg 0] (hq l[i] (by simp)) (by simp [E.av,E.cells]) ?_;refine hC.vc [] 40 ?_;simp;cases hqi:q l[i] with
  |true=>
   simp [hn,hqi,E.cells]
  |false=>
   simp;have hw:=wr64 ((i:Int)+1) (by omega);exact go_to [] (ih ⟨i+1,hlt,by simpa [hqi] using hn⟩ (by simp;omega)) (by simp [hw,E.cells])
 ·simp [hlt];rw [hn,List.drop_eq_nil_of_le (by omega)];simp [firstIx,E.cells]
theorem f61 (Gl:Granted)(l:List E)(e:E)(q:E→Bool)(hq:∀x∈l,Fun Tryz.prog Gl 176 [x.av,.ptr (.arg 0) 0] [some (.box 63 e.cells)] (vB (q x)) [some (.box 63 e.cells)]) :
 Fun Tryz.prog Gl 177 [.pv (.ro 3 (l.map E.pv)),.fn (.func 176) [] [.ptr (.arg 0) 0]] [some (.box 63 e.cells)] (vB (l.any q)) [some (.box 63 e.cells)]:=by
 refine fun_of (T:=T) (n:=9) (rs:=[.tmp 4]) Tryz.func177 (by kernel_rfl) rfl rfl rfl tok mixed (by simp) fun C hC=>?_;refine hC.vc [] 60 ?_;simp [E.cells];refine hC.call [.arg 0] (f87 Gl l e q hq) (by simp [E.cells]) ?_;refine hC.vc [] 60 ?_;simp [E.cells,firstIx_any]
def E.ok:E→Bool
 |.mk op name kids=>
  if op=110 then decide (kids.length=0)&&(isName name || decide (name=⟨#[116,101,120,116]⟩))
  else (decide (name=⟨#[]⟩)&&(if op=115 then !decide ((kids.length:Int)=1) else if op=97 then decide (1<(kids.length:Int)) else decide (op=42∨op=43∨op=63)&&decide ((kids.length:Int)=1)&&!(kids.any E.suffix)))
   && !(kids.attach.any fun k=>decide (k.1.op=op) || !k.1.ok)
termination_by e=>SizeOf.sizeOf e
decreasing_by exact E.kids_lt (e:=.mk op name kids) k.2
theorem f60 (Gl:Granted)(k e:E)(h:Fun Tryz.prog Gl 121 [k.av] [] (vB k.ok) []):Fun Tryz.prog Gl 176 [k.av,.ptr (.arg 0) 0] [some (.box 63 e.cells)] (vB (decide (k.op=e.op) || !k.ok)) [some (.box 63 e.cells)]:=by
 refine fun_of (T:=T) (n:=14) (rs:=[.tmp 3]) Tryz.func176 (by kernel_rfl) rfl rfl rfl tok mixed (by simp) fun C hC=>?_;refine hC.vc [] 60 ?_;simp [E.av,E.cells];by_cases h1:k.op=e.op
 ·simp [h1]
 ·simp [h1];refine hC.call [] h (by simp [E.av,E.cells]) ?_;refine hC.vc [] 60 ?_;simp [h1,E.cells]
end Go.Proofs.D
namespace Go.Proofs.D
open Go Go.Abs
abbrev Row:=List ByteArray
inductive Many (p:Row→Prop):Row→Prop
 |one {w:Row}:p w→Many p w
 |more {u v:Row}:p u→Many p v→Many p (u++v)
def E.L:E→Row→Prop
 |.mk op name kids=>fun w=>
  if op=110 then w = [name]
  else if op=115 then seqL kids w
  else if op=97 then altL kids w
  else if op=63 then w = []∨headL kids w
  else (op=42∧w = [])∨Many (headL kids) w
where
 seqL:List E→Row→Prop
 |[]=>fun w=>w = []
 |k::l=>fun w=>∃u v,w=u++v∧k.L u∧seqL l v
 altL:List E→Row→Prop
 |[]=>fun _=>False
 |k::l=>fun w=>k.L w∨altL l w
 headL:List E→Row→Prop
 |[]=>fun _=>False
 |k::_=>k.L
theorem L_eq (e:E)(w:Row):e.L w=(if e.op=110 then w = [e.name] else if e.op=115 then E.L.seqL e.kids w else if e.op=97 then E.L.altL e.kids w else if e.op=63 then w = []∨E.L.headL e.kids w else (e.op=42∧w = [])∨Many (E.L.headL e.kids) w):=by
 obtain ⟨o,n,k⟩:=e;simp only [E.L];rfl
theorem Many.snoc {p:Row→Prop}{u v:Row}(h:Many p u)(hv:p v):Many p (u++v):=by
 induction h with
 |one h=>exact .more h (.one hv)
 |more h _ ih=>rw [List.append_assoc];exact .more h ih
theorem Many.nil {p:Row→Prop}{w:Row}(h:Many p w)(hw:w = []):p []:=by
 induction h with
 |one h=>exact hw ▸ h
 |more h _ ih=>simp at hw;exact hw.1 ▸ h
def seg (w:Row)(i j:Nat):Row:=(w.take j).drop i
theorem seg_self (w:Row)(i:Nat):seg w i i = []:=by simp [seg]
theorem seg_add (w:Row){i j k:Nat}(h1:i≤j)(h2:j≤k):seg w i j++seg w j k=seg w i k:=by
 have e:w.take j=(w.take k).take j:=by rw [List.take_take,Nat.min_eq_left h2]
 unfold seg;rw [e];generalize w.take k=l;rw [List.drop_take];have:l.drop j=(l.drop i).drop (j-i):=by rw [List.drop_drop];congr 1;omega
 rw [this,List.take_append_drop]
theorem seg_len (w:Row){i j:Nat}(h2:j≤w.length):(seg w i j).length=j-i:=by simp [seg];omega
theorem seg_split (w:Row){i k:Nat}(h1:i≤k)(h2:k≤w.length){u v:Row}(h:seg w i k=u++v):∃j,i≤j∧j≤k∧seg w i j=u∧seg w j k=v:=by
 have hl:=seg_len w (i:=i) h2;rw [h,List.length_append] at hl;have ha:=seg_add w (i:=i) (j:=i+u.length) (k:=k) (by omega) (by omega);rw [h] at ha;have hl2:=seg_len w (i:=i) (j:=i+u.length) (by omega);obtain ⟨e1,e2⟩:=List.append_inj ha (by omega);exact ⟨i+u.length,by omega,by omega,e1,e2⟩
def stepP (p:Row→Prop)(w:Row)(S:Nat→Prop)(j:Nat):Prop:=j≤w.length∧∃i,S i∧i≤j∧p (seg w i j)
theorem stepP_nil {w:Row}{S:Nat→Prop}(hS:∀i,S i→i≤w.length):stepP (fun v=>v = []) w S=S:=by
 funext j;apply propext;constructor
 ·rintro ⟨h1,i,h2,h3,h4⟩
  have:=seg_len w (i:=i) h1;rw [h4] at this;simp at this;have:i=j:=by omega
  exact this ▸ h2
 ·intro h;exact ⟨hS j h,j,h,Nat.le_refl _,seg_self w j⟩
theorem stepP_cat (p q:Row→Prop)(w:Row)(S:Nat→Prop):stepP (fun x=>∃u v,x=u++v∧p u∧q v) w S=stepP q w (stepP p w S):=by
 funext k;apply propext;constructor
 ·rintro ⟨h1,i,h2,h3,u,v,h4,h5,h6⟩
  obtain ⟨j,a1,a2,rfl,rfl⟩:=seg_split w h3 h1 h4;exact ⟨h1,j,⟨by omega,i,h2,a1,h5⟩,a2,h6⟩
 ·rintro ⟨h1,j,⟨h2,i,h3,h4,h5⟩,h6,h7⟩
  exact ⟨h1,i,h3,by omega,_,_,(seg_add w h4 h6).symm,h5,h7⟩
theorem stepP_or (p q:Row→Prop)(w:Row)(S:Nat→Prop)(j:Nat):stepP (fun x=>p x∨q x) w S j↔stepP p w S j∨stepP q w S j:=by
 constructor
 ·rintro ⟨h1,i,h2,h3,h4|h4⟩
  ·exact .inl ⟨h1,i,h2,h3,h4⟩
  ·exact .inr ⟨h1,i,h2,h3,h4⟩
 ·rintro (⟨h1,i,h2,h3,h4⟩|⟨h1,i,h2,h3,h4⟩)
  ·exact ⟨h1,i,h2,h3,.inl h4⟩
  ·exact ⟨h1,i,h2,h3,.inr h4⟩
theorem stepP_mono {p:Row→Prop}{w:Row}{S T:Nat→Prop}(h:∀i,S i→T i)(j:Nat):stepP p w S j→stepP p w T j:=fun ⟨h1,i,h2,h3⟩=>⟨h1,i,h _ h2,h3⟩
theorem stepP_union {p:Row→Prop}{w:Row}{S T:Nat→Prop}(j:Nat):stepP p w (fun i=>S i∨T i) j↔stepP p w S j∨stepP p w T j:=by
 constructor
 ·rintro ⟨h1,i,h2|h2,h3⟩
  ·exact .inl ⟨h1,i,h2,h3⟩
  ·exact .inr ⟨h1,i,h2,h3⟩
 ·rintro (⟨h1,i,h2,h3⟩|⟨h1,i,h2,h3⟩)
  ·exact ⟨h1,i,.inl h2,h3⟩
  ·exact ⟨h1,i,.inr h2,h3⟩
theorem stepP_name (n:ByteArray)(w:Row)(S:Nat→Prop)(j:Nat):stepP (fun v=>v = [n]) w S j↔∃k,S k∧j=k+1∧w[k]?=some n:=by
 constructor
 ·rintro ⟨h1,i,h2,h3,h4⟩
  have hl:=seg_len w (i:=i) h1;rw [h4] at hl;simp at hl;refine ⟨i,h2,by omega,?_⟩;have:(seg w i j)[0]?=some n:=by rw [h4];rfl
  unfold seg at this;rw [List.getElem?_drop,List.getElem?_take] at this;rw [if_pos (by omega)] at this;simpa using this
 ·rintro ⟨k,h2,rfl,h4⟩
  have hk:=(List.getElem?_eq_some_iff.1 h4).1;refine ⟨hk,k,h2,by omega,?_⟩;apply List.ext_getElem?;intro m;unfold seg;rw [List.getElem?_drop,List.getElem?_take];cases m with
  |zero=>rw [if_pos (by omega)];simpa using h4
  |succ m=>rw [if_neg (by omega)];rfl
structure Rounds (p:Row→Prop) (w:Row) (S B O X:Nat→Prop):Prop where
 base:∀i,B i→O i
 all:∀i,O i→B i∨stepP (Many p) w S i
 next:∀i,X i→stepP (Many p) w S i
 first:∀i,stepP p w S i→O i∨X i
 more:∀i,stepP p w O i→O i∨X i
theorem rounds_start {p:Row→Prop}{w:Row}{S B:Nat→Prop}(hB:∀i,B i→S i):Rounds p w S B B (stepP p w S):=
 ⟨fun _ h=>h,fun _ h=>.inl h,fun i ⟨h1,k,h2,h3,h4⟩=>⟨h1,k,h2,h3,.one h4⟩,fun _ h=>.inr h,fun i h=>.inr (stepP_mono hB i h)⟩
theorem rounds_step {p:Row→Prop}{w:Row}{S B O X:Nat→Prop}(h:Rounds p w S B O X):Rounds p w S B (fun i=>O i∨X i) (stepP p w X):=by
 refine ⟨fun i hi=>.inl (h.base i hi),fun i hi=>?_,fun i hi=>?_,fun i hi=>.inl (h.first i hi),fun i hi=>?_⟩
 ·rcases hi with hi|hi
  ·exact h.all i hi
  ·exact .inr (h.next i hi)
 ·obtain ⟨h1,j,h2,h3,h4⟩:=hi;obtain ⟨a1,k,a2,a3,a4⟩:=h.next j h2;exact ⟨h1,k,a2,by omega,by rw [←seg_add w a3 h3];exact a4.snoc h4⟩
 ·rcases (stepP_union i).1 hi with h1|h1
  ·exact .inl (h.more i h1)
  ·exact .inr h1
theorem rounds_end {p:Row→Prop}{w:Row}{S B O X:Nat→Prop}(h:Rounds p w S B O X)(hx:∀i,X i→O i)(j:Nat):O j↔B j∨stepP (Many p) w S j:=by
 refine ⟨h.all j,fun hj=>?_⟩;rcases hj with hj|⟨h1,i,h2,h3,h4⟩
 ·exact h.base j hj
 ·have key:∀x,Many p x→∀i,(S i∨O i)→i≤j→seg w i j=x→O j:=by
   intro x hm;induction hm with
   |one hp=>
    intro i hi hij e;subst e;rcases hi with hi|hi
    ·rcases h.first j ⟨h1,i,hi,hij,hp⟩ with a|a
     ·exact a
     ·exact hx j a
    ·rcases h.more j ⟨h1,i,hi,hij,hp⟩ with a|a
     ·exact a
     ·exact hx j a
   |more hp _ ih=>
    intro i hi hij e;obtain ⟨m,a1,a2,rfl,rfl⟩:=seg_split w hij h1 e;refine ih m (.inr ?_) a2 rfl;rcases hi with hi|hi
    ·rcases h.first m ⟨by omega,i,hi,a1,hp⟩ with a|a
     ·exact a
     ·exact hx m a
    ·rcases h.more m ⟨by omega,i,hi,a1,hp⟩ with a|a
     ·exact a
     ·exact hx m a
  exact key _ h4 i (.inl h2) h3 rfl
set_option maxRecDepth 20000 in
theorem f19 (Gl:Granted)(e:E)(hc:e.kids.length≤1000000)(hk:∀k∈e.kids,Fun Tryz.prog Gl 103 [k.av] [] k.av []):Fun Tryz.prog Gl 103 [e.av] [] e.av []:=by
 refine fun_of (T:=T) (n:=29) (rs:=[.cell 2 105]) Tryz.func103 (by kernel_rfl) rfl rfl rfl tok mixed (by simp) fun C hC=>?_;refine hC.vc [] 60 ?_;simp [E.av,E.cells];refine go_loop (ι:={i:Nat // i≤e.kids.length}) (fun x=>⟨[(1,.ptr (.loc 1) 0),(2,.ptr (.loc 2) 0),(3,.ptr (.loc 3) 0),(4,vI x.1)],
  [(.loc 1,some (.box 63 e.cells)),(.loc 2,some (.box 105 [.pv (.val (.int .u8 0)),.pv (.val (.string ⟨#[]⟩)),.pv (.nilS 3)])),(.loc 3,some (.box 105 [.pv (.val (.int .u8 e.op)),.pv (.val (.string e.name)),.own (.can 0)])),(.can 0,some (.row 105 3 ((e.kids.take x.1).map E.pv)))]⟩)
  (fun x=>e.kids.length-x.1) ⟨0,Nat.zero_le _⟩ [(.can 0,.nil)] (by simp [E.cells]) fun x ih=>?_
 obtain ⟨i,hi⟩:=x;simp only at hi ih;have hw1:=wr64 ((i:Int)+1) (by omega);refine hC.vc [] 60 ?_;by_cases hlt:i<e.kids.length
 ·simp [hlt,E.pv_eq,E.cells];refine hC.call [] (hk e.kids[i] (by simp)) (by simp [E.av,E.cells]) ?_;refine hC.vc [] 60 ?_;simp [E.av,E.cells];refine ⟨by omega,?_⟩;have htk:(e.kids.map E.pv).take (i+1)=(e.kids.map E.pv).take i++[[.val (.int .u8 e.kids[i].op),.val (.string e.kids[i].name),.ro 3 (e.kids[i].kids.map E.pv)]]:=by
   rw [List.take_add_one,List.getElem?_map,List.getElem?_eq_getElem hlt,Option.map_some,E.pv_eq e.kids[i]];rfl
  exact go_to [(.can 0,.nm (.loc 26))] (ih ⟨i+1,hlt⟩ (by simp;omega)) (by simp [hw1,E.cells,htk])
 ·simp [hlt,E.cells];have:(e.kids.map E.pv).take i=e.kids.map E.pv:=List.take_of_length_le (by simp;omega);simp [this,E.av,E.cells]
theorem L_one {e:E}(h:e.op=110)(w:Row):e.L w=(w = [e.name]):=by rw [L_eq,if_pos h]
theorem L_seq {e:E}(h:e.op=115)(w:Row):e.L w=E.L.seqL e.kids w:=by rw [L_eq,if_neg (by omega),if_pos h]
theorem L_alt {e:E}(h:e.op=97)(w:Row):e.L w=E.L.altL e.kids w:=by rw [L_eq,if_neg (by omega),if_neg (by omega),if_pos h]
theorem L_opt {e:E}(h:e.op=63)(w:Row):e.L w=(w = []∨E.L.headL e.kids w):=by rw [L_eq,if_neg (by omega),if_neg (by omega),if_neg (by omega),if_pos h]
theorem L_rep {e:E}(h:e.op=42∨e.op=43)(w:Row):e.L w=((e.op=42∧w = [])∨Many (E.L.headL e.kids) w):=by rw [L_eq,if_neg (by omega),if_neg (by omega),if_neg (by omega),if_neg (by omega)]
theorem setQ_mono {P:Program}{k e N:Nat}{S S':Nat→Prop}(h:∀i,S i↔S' i)(o:Obj)(ho:setQ P k e N S o):setQ P k e N S' o:=by
 have:S=S':=funext fun i=>propext (h i);exact this ▸ ho
theorem setQ_congr {P:Program}{k e N:Nat}{S S':Nat→Prop}(h:∀i,S i↔S' i):setQ P k e N S=setQ P k e N S':=by
 have:S=S':=funext fun i=>propext (h i);rw [this]
abbrev rowAV (w:List ByteArray):AV:=.pv (.ro 1 (w.map fun s=>[.val (.string s)]))
abbrev Q (N:Nat)(S:Nat→Prop):Obj→Prop:=setQ Tryz.prog 3 3 N S
theorem im66:IntMap Tryz.prog 128 3 3:=⟨Tryz.underlying128,Tryz.underlying3,Tryz.underlying3,fun w=>by kernel_rfl⟩
theorem f63 (Gl:Granted)(N:Nat)(hN:N+1<maxLen)(S1 S2:Nat→Prop):Fun Tryz.prog Gl 123 [.hmap (.arg 0),.rom (Q N S2)] [some (.raw (Q N S1))] (.tup []) [some (.raw (Q N fun i=>S1 i∨S2 i))]:=by
 refine fun_of (T:=T) (n:=16) (rs:=[]) Tryz.func123 (by kernel_rfl) rfl rfl rfl tok mixed (by simp) fun C hC=>?_;refine hC.vc [] 60 ?_;simp;refine hC.setRange im66 (N:=N) (S:=S2) (by rfl) (by rfl) (by simp) ?_;refine hC.vc [] 60 ?_;simp;refine go_loop (ι:={x:(Nat→Prop) × Option Nat // ∀i,x.1 i→S2 i}) (fun x=>⟨[(0,.hmap (.arg 0)),(7,.ptr (.loc 7) 0)],[(.arg 0,some (.raw (Q N fun i=>S1 i∨x.1.1 i))),(.loc 7,some (.iter (iterS Tryz.prog 3 3 N S2 x.1.1 x.1.2)))]⟩)
  (fun x=>cardN N fun i=>S2 i∧¬x.1.1 i) ⟨(fun _=>False,none),fun _ h=>h.elim⟩ [] (by simp) fun x ih=>?_
 obtain ⟨⟨M,last⟩,hM⟩:=x;simp only at ih hM;refine hC.vc [] 60 ?_;simp;refine hC.setNext im66 (.loc 7) (N:=N) (S:=S2) (M:=M) (last:=last) (by rfl) (by simp) (fun hall=>?_) (fun j h1 h2 h3=>?_)
 ·refine hC.vc [] 60 ?_;simp;have:M=S2:=funext fun i=>propext ⟨hM i,hall i⟩;rw [this]
 ·refine hC.vc [] 60 ?_;simp;refine hC.setEntry (.loc 7) (N:=N) (S:=S2) (k:=3) (e:=3) (j:=j) (M:=fun i=>M i∨i=j) (by rfl) (by simp) ?_;refine hC.vc [] 60 ?_;simp;refine hC.setPut im66 (.arg 0) (S:=fun i=>S1 i∨M i) hN h3 (.inl (by rfl)) (by simp) ?_;refine hC.vc [] 60 ?_;simp;refine go_to [] (ih ⟨(fun i=>M i∨i=j,some j),fun i hi=>?_⟩ ?_) ?_
  ·rcases hi with hi|rfl
   ·exact hM i hi
   ·exact h1
  ·exact cardN_lt (fun i ⟨a1,a2⟩=>⟨a1,fun h=>a2 (.inl h)⟩) j h3 ⟨h1,h2⟩ (fun ⟨_,a2⟩=>a2 (.inr rfl))
  ·simp;refine setQ_mono fun i=>?_;constructor
   ·rintro ((h|h)|h)
    ·exact .inl h
    ·exact .inr (.inl h)
    ·exact .inr (.inr h)
   ·rintro (h|h|h)
    ·exact .inl (.inl h)
    ·exact .inl (.inr h)
    ·exact .inr h
theorem f62 (Gl:Granted)(N:Nat)(hN:N+1<maxLen)(S1 S2:Nat→Prop):Fun Tryz.prog Gl 122 [.rom (Q N S2),.ptr (.arg 0) 0] [some (.box 128 [.hmap (.arg 1)]),some (.raw (Q N S1))] (.tup []) [some (.box 128 [.hmap (.arg 1)]),some (.raw (Q N fun i=>S1 i∨S2 i))]:=by
 refine fun_of (T:=T) (n:=6) (rs:=[]) Tryz.func122 (by kernel_rfl) rfl rfl rfl tok mixed (by simp) fun C hC=>?_;refine hC.vc [] 60 ?_;simp;refine hC.call [.arg 1] (f63 Gl N hN S1 S2) (by simp) ?_;refine hC.vc [] 60 ?_;simp
set_option maxRecDepth 20000 in
theorem f34_name (Gl:Granted)(N:Nat)(hN:N+1<maxLen)(w:Row)(hw:w.length=N)(e:E)(hop:e.op=110)(S:Nat→Prop) :
 Fun Tryz.prog Gl 63 [e.av,rowAV w,.rom (Q N S)] [] (.rom (Q N (stepP (fun v=>v = [e.name]) w S))) []:=by
 refine fun_of (T:=T) (n:=120) (rs:=[.tmp 6]) Tryz.func63 (by kernel_rfl) rfl rfl rfl tok mixed (by simp) fun C hC=>?_;refine hC.vc [] 60 ?_;simp [E.av,E.cells,hop];refine hC.makeSet 3 3 N (by rfl) (by rfl) (by simp) ?_;refine hC.vc [] 60 ?_;simp [hop];refine hC.setRange im66 (N:=N) (S:=S) (by rfl) (by rfl) (by simp) ?_;refine hC.vc [] 60 ?_;simp;refine go_len 1 1 (w.map fun s=>[.val (.string s)]) (by simp) fun hlen=>?_;rw [List.length_map] at hlen;refine go_loop (ι:={x:(Nat→Prop) × Option Nat // ∀i,x.1 i→S i}) (fun x=>⟨[(1,rowAV w),(3,.ptr (.loc 3) 0),(7,.ptr (.loc 7) 0),(53,.ptr (.loc 53) 0)],
  [(.loc 3,some (.box 63 e.cells)),(.loc 16,some (.raw (Q N fun i=>∃k,x.1.1 k∧i=k+1∧w[k]?=some e.name))),(.loc 7,some (.box 128 [.hmap (.loc 16)])),(.loc 53,some (.iter (iterS Tryz.prog 3 3 N S x.1.1 x.1.2)))]⟩)
  (fun x=>cardN N fun i=>S i∧¬x.1.1 i) ⟨(fun _=>False,none),fun _ h=>h.elim⟩ [] (by simp [E.cells,hop]) fun x ih=>?_
 obtain ⟨⟨M,last⟩,hM⟩:=x;simp only at ih hM;refine hC.vc [] 60 ?_;simp;refine hC.setNext im66 (.loc 53) (N:=N) (S:=S) (M:=M) (last:=last) (by rfl) (by simp) (fun hall=>?_) (fun j h1 h2 h3=>?_)
 ·refine hC.vc [] 60 ?_;simp;have:M=S:=funext fun i=>propext ⟨hM i,hall i⟩;subst this;refine setQ_congr fun j=>?_;exact (stepP_name _ _ _ _).symm
 ·refine hC.vc [] 60 ?_;simp;refine hC.setEntry (.loc 53) (N:=N) (S:=S) (k:=3) (e:=3) (j:=j) (M:=fun i=>M i∨i=j) (by rfl) (by simp) ?_;refine hC.vc [] 60 ?_;have hIM:∀i,(M i∨i=j)→S i:=fun i hi=>by
   rcases hi with hi|rfl
   ·exact hM i hi
   ·exact h1
  have hlt:(cardN N fun i=>S i∧¬(M i∨i=j))<cardN N fun i=>S i∧¬M i:=cardN_lt (fun i ⟨a1,a2⟩=>⟨a1,fun h=>a2 (.inl h)⟩) j h3 ⟨h1,h2⟩ (fun ⟨_,a2⟩=>a2 (.inr rfl));by_cases hj:j<w.length
  ·by_cases hn:w[j]=e.name
   ·simp [hj,hn,E.cells];have hw1:=wr64 ((j:Int)+1) (by omega);refine hC.setPut im66 (.loc 16) (j:=j+1) (S:=fun i=>∃k,M k∧i=k+1∧w[k]?=some e.name) hN (by omega) (.inl (by rfl)) (by simp [hw1]) ?_;refine hC.vc [] 60 ?_;simp;refine go_to [] (ih ⟨(fun i=>M i∨i=j,some j),hIM⟩ hlt) ?_;simp [E.cells];refine setQ_mono fun i=>?_;constructor
    ·rintro (⟨k,a1,a2,a3⟩|rfl)
     ·exact .inl ⟨k,a1,a2,a3⟩
     ·exact .inr ⟨rfl,by rw [List.getElem?_eq_getElem hj,hn]⟩
    ·rintro (⟨k,a1,a2,a3⟩|⟨a2,a3⟩)
     ·exact .inl ⟨k,a1,a2,a3⟩
     ·exact .inr a2
   ·simp [hj,hn,E.cells];refine go_to [] (ih ⟨(fun i=>M i∨i=j,some j),hIM⟩ hlt) ?_;simp [E.cells];refine setQ_mono fun i=>?_;constructor
    ·rintro ⟨k,a1,a2,a3⟩
     exact .inl ⟨k,a1,a2,a3⟩
    ·rintro (⟨k,a1,a2,a3⟩|⟨a2,a3⟩)
     ·exact ⟨k,a1,a2,a3⟩
     ·rw [List.getElem?_eq_getElem hj] at a3;exact absurd (Option.some.inj a3) hn
  ·simp [hj,E.cells];refine go_to [] (ih ⟨(fun i=>M i∨i=j,some j),hIM⟩ hlt) ?_;simp [E.cells];refine setQ_mono fun i=>?_;constructor
   ·rintro ⟨k,a1,a2,a3⟩
    exact .inl ⟨k,a1,a2,a3⟩
   ·rintro (⟨k,a1,a2,a3⟩|⟨a2,a3⟩)
    ·exact ⟨k,a1,a2,a3⟩
    ·rw [List.getElem?_eq_none (by omega)] at a3;cases a3
set_option maxRecDepth 20000 in
theorem f34_seq (Gl:Granted)(N:Nat)(hN:N+1<maxLen)(w:Row)(hw:w.length=N)(e:E)(hop:e.op=115)(S:Nat→Prop)(hS:∀i,S i→i≤N)
 (hk:∀k∈e.kids,∀S,(∀i,S i→i≤N)→Fun Tryz.prog Gl 63 [k.av,rowAV w,.rom (Q N S)] [] (.rom (Q N (stepP k.L w S))) []) :
 Fun Tryz.prog Gl 63 [e.av,rowAV w,.rom (Q N S)] [] (.rom (Q N (stepP (E.L.seqL e.kids) w S))) []:=by
 refine fun_of (T:=T) (n:=120) (rs:=[.tmp 6]) Tryz.func63 (by kernel_rfl) rfl rfl rfl tok mixed (by simp) fun C hC=>?_;refine hC.vc [] 60 ?_;simp [E.av,E.cells,hop];refine hC.makeSet 3 3 N (by rfl) (by rfl) (by simp) ?_;refine hC.vc [] 60 ?_;simp [hop];refine go_len 78 3 (e.kids.map E.pv) (by simp) fun hlen=>?_;rw [List.length_map] at hlen;refine go_loop (ι:={x:Nat × (Nat→Prop) // x.1≤e.kids.length∧(∀i,x.2 i→i≤N)∧stepP (E.L.seqL e.kids) w S=stepP (E.L.seqL (e.kids.drop x.1)) w x.2})
  (fun x=>⟨[(1,rowAV w),(3,.ptr (.loc 3) 0),(7,.ptr (.loc 7) 0),(78,.pv (.ro 3 (e.kids.map E.pv))),(79,vI e.kids.length),(80,vI x.1.1)],
    [(.loc 3,some (.box 63 e.cells)),(.loc 7,some (.box 128 [.rom (Q N x.1.2)]))]⟩)
  (fun x=>e.kids.length-x.1.1) ⟨(0,S),by simp;exact hS⟩ [] (by simp [E.cells,hop]) fun x ih=>?_
 obtain ⟨⟨i,S'⟩,hi,hS',hn⟩:=x;simp only at ih hi hS' hn;refine hC.vc [] 60 ?_;by_cases hlt:i<e.kids.length
 ·rw [List.drop_eq_getElem_cons hlt] at hn;simp [hlt,E.pv_eq,E.cells];refine hC.call [] (hk e.kids[i] (by simp) S' hS') (by simp [E.av,E.cells]) ?_;refine hC.vc [] 60 ?_;simp;have hw1:=wr64 ((i:Int)+1) (by omega);refine go_to [] (ih ⟨(i+1,stepP e.kids[i].L w S'),hlt,fun j hj=>hw ▸ hj.1,?_⟩ (by simp;omega)) (by simp [hw1,E.cells]);rw [hn];exact stepP_cat _ _ _ _
 ·simp [hlt];rw [List.drop_eq_nil_of_le (by omega)] at hn;rw [hn];have:stepP (E.L.seqL []) w S'=S':=stepP_nil (fun i hi=>hw ▸ hS' i hi);rw [this]
set_option maxRecDepth 20000 in
theorem f34_alt (Gl:Granted)(N:Nat)(hN:N+1<maxLen)(w:Row)(hw:w.length=N)(e:E)(hop:e.op=97)(S:Nat→Prop)(hS:∀i,S i→i≤N)
 (hk:∀k∈e.kids,∀S,(∀i,S i→i≤N)→Fun Tryz.prog Gl 63 [k.av,rowAV w,.rom (Q N S)] [] (.rom (Q N (stepP k.L w S))) []) :
 Fun Tryz.prog Gl 63 [e.av,rowAV w,.rom (Q N S)] [] (.rom (Q N (stepP (E.L.altL e.kids) w S))) []:=by
 refine fun_of (T:=T) (n:=120) (rs:=[.tmp 6]) Tryz.func63 (by kernel_rfl) rfl rfl rfl tok mixed (by simp) fun C hC=>?_;refine hC.vc [] 60 ?_;simp [E.av,E.cells,hop];refine hC.makeSet 3 3 N (by rfl) (by rfl) (by simp) ?_;refine hC.vc [] 60 ?_;simp [hop];refine go_len 92 3 (e.kids.map E.pv) (by simp) fun hlen=>?_;rw [List.length_map] at hlen;refine go_loop (ι:={x:Nat × (Nat→Prop) // x.1≤e.kids.length∧∀j,stepP (E.L.altL e.kids) w S j↔x.2 j∨stepP (E.L.altL (e.kids.drop x.1)) w S j})
  (fun x=>⟨[(1,rowAV w),(2,.rom (Q N S)),(3,.ptr (.loc 3) 0),(7,.ptr (.loc 7) 0),(8,.fn (.func 122) [] [.ptr (.loc 7) 0]),(92,.pv (.ro 3 (e.kids.map E.pv))),(93,vI e.kids.length),(94,vI x.1.1)],
    [(.loc 3,some (.box 63 e.cells)),(.loc 16,some (.raw (Q N x.1.2))),(.loc 7,some (.box 128 [.hmap (.loc 16)]))]⟩)
  (fun x=>e.kids.length-x.1.1) ⟨(0,fun _=>False),by simp⟩ [] (by simp [E.cells,hop]) fun x ih=>?_
 obtain ⟨⟨i,O⟩,hi,hn⟩:=x;simp only at ih hi hn;refine hC.vc [] 60 ?_;by_cases hlt:i<e.kids.length
 ·rw [List.drop_eq_getElem_cons hlt] at hn;simp [hlt,E.pv_eq,E.cells];refine hC.call [] (hk e.kids[i] (by simp) S hS) (by simp [E.av,E.cells]) ?_;refine hC.vc [] 60 ?_;simp;refine hC.call [.loc 7,.loc 16] (f62 Gl N hN O (stepP e.kids[i].L w S)) (by simp) ?_;refine hC.vc [] 60 ?_;simp;have hw1:=wr64 ((i:Int)+1) (by omega);refine go_to [] (ih ⟨(i+1,fun j=>O j∨stepP e.kids[i].L w S j),hlt,fun j=>?_⟩ (by simp;omega)) (by simp [hw1,E.cells]);rw [hn j,or_assoc];exact or_congr Iff.rfl (stepP_or _ _ _ _ j)
 ·simp [hlt];refine setQ_congr fun j=>?_;rw [hn j,List.drop_eq_nil_of_le (by omega)];exact ⟨.inl,fun h=>h.elim id fun ⟨_,_,_,_,h⟩=>h.elim⟩
set_option maxRecDepth 20000 in
theorem f34_opt (Gl:Granted)(N:Nat)(hN:N+1<maxLen)(w:Row)(hw:w.length=N)(e:E)(hop:e.op=63)(k:E)(hkk:e.kids = [k])(S:Nat→Prop)(hS:∀i,S i→i≤N)
 (hk:∀k∈e.kids,∀S,(∀i,S i→i≤N)→Fun Tryz.prog Gl 63 [k.av,rowAV w,.rom (Q N S)] [] (.rom (Q N (stepP k.L w S))) []) :
 Fun Tryz.prog Gl 63 [e.av,rowAV w,.rom (Q N S)] [] (.rom (Q N (fun j=>S j∨stepP k.L w S j))) []:=by
 refine fun_of (T:=T) (n:=120) (rs:=[.tmp 6]) Tryz.func63 (by kernel_rfl) rfl rfl rfl tok mixed (by simp) fun C hC=>?_;refine hC.vc [] 60 ?_;simp [E.av,E.cells,hop,hkk];refine hC.makeSet 3 3 N (by rfl) (by rfl) (by simp) ?_;refine hC.vc [] 60 ?_;simp [hop];refine hC.call [.loc 7,.loc 16] (f62 Gl N hN (fun _=>False) S) (by simp) ?_;refine hC.vc [] 60 ?_;simp [E.pv_eq k];refine hC.call [] (hk k (by simp [hkk]) S hS) (by simp [E.av,E.cells]) ?_;refine hC.vc [] 60 ?_;simp;refine hC.call [.loc 7,.loc 16] (f62 Gl N hN (fun i=>False∨S i) (stepP k.L w S)) (by simp) ?_;refine hC.vc [] 60 ?_;simp
set_option maxRecDepth 20000 in
theorem f34_rep (Gl:Granted)(N:Nat)(hN:N+1<maxLen)(w:Row)(hw:w.length=N)(e:E)(hop:e.op=42∨e.op=43)(k:E)(hkk:e.kids = [k])(S:Nat→Prop)(hS:∀i,S i→i≤N)
 (hk:∀k∈e.kids,∀S,(∀i,S i→i≤N)→Fun Tryz.prog Gl 63 [k.av,rowAV w,.rom (Q N S)] [] (.rom (Q N (stepP k.L w S))) []) :
 Fun Tryz.prog Gl 63 [e.av,rowAV w,.rom (Q N S)] [] (.rom (Q N (fun j=>(e.op=42∧S j)∨stepP (Many k.L) w S j))) []:=by
 refine fun_of (T:=T) (n:=120) (rs:=[.tmp 6]) Tryz.func63 (by kernel_rfl) rfl rfl rfl tok mixed (by simp) fun C hC=>?_;have hB:∀i,(e.op=42∧S i)→S i:=fun i h=>h.2;rcases hop with hop|hop;refine hC.vc [] 60 ?_;simp [E.av,E.cells,hop,hkk];refine hC.makeSet 3 3 N (by rfl) (by rfl) (by simp) ?_;refine hC.vc [] 60 ?_;simp [hop];refine hC.call [.loc 7,.loc 16] (f62 Gl N hN (fun _=>False) S) (by simp) ?_;refine hC.vc [] 60 ?_;simp [E.pv_eq k];refine hC.call [] (hk k (by simp [hkk]) S hS) (by simp [E.av,E.cells]) ?_;refine hC.vc [] 60 ?_;simp
 rotate_left
 refine hC.vc [] 60 ?_;simp [E.av,E.cells,hop,hkk];refine hC.makeSet 3 3 N (by rfl) (by rfl) (by simp) ?_;refine hC.vc [] 60 ?_;simp [hop,E.pv_eq k];refine hC.call [] (hk k (by simp [hkk]) S hS) (by simp [E.av,E.cells]) ?_;refine hC.vc [] 60 ?_;simp
 all_goals
  refine go_loop (ι:={x:(Nat→Prop) × (Nat→Prop) // Rounds k.L w S (fun i=>e.op=42∧S i) x.1 x.2∧(∀i,x.2 i→i≤N)})
   (fun x=>⟨[(1,rowAV w),(3,.ptr (.loc 3) 0),(7,.ptr (.loc 7) 0),(8,.fn (.func 122) [] [.ptr (.loc 7) 0]),(14,.rom (Q N x.1.2))],
     [(.loc 3,some (.box 63 e.cells)),(.loc 16,some (.raw (Q N x.1.1))),(.loc 7,some (.box 128 [.hmap (.loc 16)]))]⟩)
   (fun x=>N+1-cardN N x.1.1) ⟨(fun i=>e.op=42∧S i,stepP k.L w S),rounds_start hB,fun i hi=>hw ▸ hi.1⟩ [] (by
     simp [E.cells,hop,hkk,E.pv_eq k]<;>exact setQ_mono fun i=>by simp [hop]) fun x ih=>?_
  obtain ⟨⟨O,X⟩,hR,hX⟩:=x;simp only at ih hR hX;refine hC.vc [] 60 ?_;simp;refine hC.setLen im66 (.loc 16) (N:=N) (S:=O) (by rfl) (by simp) ?_;refine hC.vc [] 60 ?_;simp;refine hC.call [.loc 7,.loc 16] (f62 Gl N hN O X) (by simp) ?_;refine hC.vc [] 60 ?_;simp;refine hC.setLen im66 (.loc 16) (N:=N) (S:=fun i=>O i∨X i) (by rfl) (by simp) ?_;refine hC.vc [] 60 ?_;by_cases hc:cardN N (fun i=>O i∨X i)=cardN N O
  ·simp [hc];refine setQ_congr fun j=>?_;have hx:∀i,X i→O i:=fun i hi=>cardN_eq (fun i h=>.inl h) hc i (hX i hi) (.inr hi);have hend:=rounds_end hR hx j;have hj:(O j∨X j)↔O j:=⟨fun h=>h.elim id (hx j),.inl⟩;rw [hj];exact hend
  ·have hc':¬((cardN N (fun i=>O i∨X i):Nat):Int)=(cardN N O:Nat):=fun h=>hc (by omega);simp [hc',E.cells,hkk,E.pv_eq k];refine hC.call [] (hk k (by simp [hkk]) X hX) (by simp [E.av,E.cells]) ?_;refine hC.vc [] 60 ?_;simp;have h1:cardN N O≤cardN N (fun i=>O i∨X i):=cardN_mono fun i h=>.inl h;have h2:=cardN_le N (fun i=>O i∨X i);exact go_to [] (ih ⟨(fun i=>O i∨X i,stepP k.L w X),rounds_step hR,fun i hi=>hw ▸ hi.1⟩ (by simp;omega)) (by simp [E.cells,hkk,E.pv_eq k])
end Go.Proofs.D
