/-
  WHAT IS A NAME.
-/
import Derived.Test.YtkjfaanenmhlbaaGreatDoorZ0
import Derived.Test.YtkjfaanenmhlbaaGreatDoorD16
import Derived.Test.YtkjfaanenmhlbaaGreatDoorDJ
set_option linter.unusedVariables false
set_option linter.unusedSimpArgs false
namespace Go.Proofs.D
open Go Go.Abs
theorem dropWhile_nil {α:Type}(p:α→Bool):∀l:List α,l.dropWhile p = []↔∀x∈l,p x=true
 |[]=>by simp
 |x::l=>by
  cases h:p x
  ·simp [List.dropWhile,h]
  ·simp [List.dropWhile,h,dropWhile_nil p l]
theorem trimS_nil (l cs:List UInt8):Lib.trimS l cs = []↔∀b∈l,cs.contains b=true:=by
 unfold Lib.trimS Lib.trimLeftS Lib.trimRightS;rw [dropWhile_nil];constructor
 ·intro h b hb;have e:=List.takeWhile_append_dropWhile (p:=(cs.contains ·)) (l:=l.reverse);have hb':b∈l.reverse:=by simpa using hb
  rw [←e] at hb';rcases List.mem_append.1 hb' with h1|h1
  ·have:∀m:List UInt8,b∈m.takeWhile (cs.contains ·)→cs.contains b=true:=by
    intro m;induction m with
    |nil=>simp
    |cons y m ih=>
     intro hm;rw [List.takeWhile_cons] at hm;cases hy:cs.contains y
     ·rw [hy] at hm;simp at hm
     ·rw [hy] at hm;rcases List.mem_cons.1 hm with rfl|hm
      ·exact hy
      ·exact ih hm
   exact this _ h1
  ·exact h b (by simpa using h1)
 ·intro h b hb;have:b∈l:=by
   have:=(List.dropWhile_sublist (cs.contains ·) (l:=l.reverse)).subset (by simpa using hb);simpa using this
  exact h b this
theorem low_contains (b:UInt8):low.data.toList.contains b=(decide (97≤b.toNat)&&decide (b.toNat≤122)):=by
 have:(List.range 256).all (fun n=>low.data.toList.contains (UInt8.ofNat n) == (decide (97≤(UInt8.ofNat n).toNat)&&decide ((UInt8.ofNat n).toNat≤122)))=true:=by decide +kernel
 have h:=List.all_eq_true.1 this b.toNat (by simp;exact b.toNat_lt);simpa using h
theorem empty_iff (s:ByteArray):s=⟨#[]⟩↔s.data.toList = []:=by
 obtain ⟨⟨l⟩⟩:=s;simp
theorem f58 (Gl:Granted)(s:ByteArray)(hs:s.size≤9223372036854775807):Fun Tryz.prog Gl 111 [vS s] [] (vB (isName s)) []:=by
 refine fun_of (T:=T) (n:=21) (rs:=[.tmp 2]) Tryz.func111 (by kernel_rfl) rfl rfl rfl tok mixed (by simp) fun C hC=>?_;refine hC.vc [] 60 ?_;simp;refine hC.call [] (f86 Gl s hs) (by simp [low]) ?_;have h0:(⟨(Lib.trimS s.data.toList low.data.toList).toArray⟩:ByteArray)=⟨#[]⟩↔s.data.toList.all (fun c=>decide (97≤c.toNat)&&decide (c.toNat≤122))=true:=by
  rw [empty_iff,List.toList_toArray,trimS_nil,List.all_eq_true];exact forall_congr' fun b=>imp_congr Iff.rfl (by rw [low_contains])
 have hsz:s=⟨#[]⟩↔¬1≤s.size:=by
  rw [empty_iff];show _↔¬1≤s.data.size;rw [←Array.length_toList];cases s.data.toList<;>simp
 generalize (⟨(Lib.trimS s.data.toList low.data.toList).toArray⟩:ByteArray)=t at h0 ⊢;have hname:isName s=(decide (t=⟨#[]⟩)&&!decide (s=⟨#[]⟩)&&decide ((s.size:Int)≤8)&&!decide (s=⟨#[116,101,120,116]⟩)):=by
  rw [Bool.eq_iff_iff];simp only [isName,Bool.and_eq_true,Bool.not_eq_true',decide_eq_true_eq,decide_eq_false_iff_not,h0,hsz];constructor
  ·rintro ⟨⟨⟨h1,h2⟩,h3⟩,h4⟩
   exact ⟨⟨⟨h3,fun h=>h h1⟩,by omega⟩,h4⟩
  ·rintro ⟨⟨⟨h3,h1⟩,h2⟩,h4⟩
   exact ⟨⟨⟨by omega,by omega⟩,h3⟩,h4⟩
 have e4:(⟨#[116,101,120,116]⟩:ByteArray).size=4:=rfl;have e0:(⟨#[]⟩:ByteArray).size=0:=rfl;refine hC.vc [] 60 ?_;by_cases a:t=⟨#[]⟩
 ·by_cases b:s=⟨#[]⟩
  ·have hr:isName s=false:=(by rw [hname];simp [b]);subst b;simp [a,hr,e0]
  ·by_cases c:(s.size:Int)≤8
   ·by_cases d:s=⟨#[116,101,120,116]⟩
    ·have hr:isName s=false:=(by rw [hname];simp [d]);subst d;simp [a,hr,e4]
    ·simp [a,b,c,d,hname]
   ·simp [a,b,c,hname]
 ·simp [a,hname]
theorem any_attach (f:E→Bool)(l:List E):(l.attach.any fun k=>f k.1)=l.any f:=by
 have:=List.any_map (l:=l.attach) (f:=Subtype.val) (p:=f);rw [List.attach_map_subtype_val] at this;exact this.symm
theorem E.ok_eq (e:E):e.ok=if e.op=110 then decide (e.kids.length=0)&&(isName e.name || decide (e.name=⟨#[116,101,120,116]⟩))
 else (decide (e.name=⟨#[]⟩)&&(if e.op=115 then !decide ((e.kids.length:Int)=1) else if e.op=97 then decide (1<(e.kids.length:Int)) else decide (e.op=42∨e.op=43∨e.op=63)&&decide ((e.kids.length:Int)=1)&&!(e.kids.any E.suffix)))
  && !(e.kids.any fun k=>decide (k.op=e.op) || !k.ok):=by
 obtain ⟨op,name,kids⟩:=e;rw [E.ok,any_attach fun k=>decide (k.op=op) || !k.ok];rfl
set_option maxRecDepth 20000 in
set_option maxHeartbeats 1000000 in
theorem f33 (Gl:Granted)(e:E)(hs:e.small):Fun Tryz.prog Gl 121 [e.av] [] (vB e.ok) []:=by
 have hcl:∀x∈e.kids,Fun Tryz.prog Gl 176 [x.av,.ptr (.arg 0) 0] [some (.box 63 e.cells)] (vB (decide (x.op=e.op) || !x.ok)) [some (.box 63 e.cells)]:=fun x hx=>f60 Gl x e (f33 Gl x (E.small_kids hs x hx));refine fun_of (T:=T) (n:=72) (rs:=[.tmp 2]) Tryz.func121 (by kernel_rfl) rfl rfl rfl tok mixed (by simp) fun C hC=>?_;by_cases a:e.op=110
 ·by_cases hk:e.kids = []
  ·refine hC.vc [] 200 ?_;simp [E.av,E.cells,a,hk];refine hC.call [] (f58 Gl e.name (E.small_name hs)) (by simp) ?_;refine hC.vc [] 200 ?_;cases hn:isName e.name<;>simp [E.ok_eq e,a,hk,hn]
  ·refine hC.vc [] 200 ?_;simp [E.av,E.cells,a,hk,E.ok_eq e]
 ·by_cases b:e.op=115
  ·skip
   by_cases hn:e.name=⟨#[]⟩
   ·by_cases hl:(e.kids.length:Int)=1
    ·skip
     refine hC.vc [] 200 ?_;simp [E.av,E.cells,b,hn,hl,E.ok_eq e]
    ·skip
     refine hC.vc [] 200 ?_;simp [E.av,E.cells,b,hn,hl];refine hC.call [.loc 1] (f61 Gl e.kids e _ hcl) (by simp [E.cells,b,hn,hl]) ?_;refine hC.vc [] 200 ?_;simp [E.ok_eq e,b,hn,hl]
   ·skip
    refine hC.vc [] 200 ?_;simp [E.av,E.cells,b,hn,E.ok_eq e]
  ·by_cases c:e.op=97
   ·skip
    by_cases hn:e.name=⟨#[]⟩
    ·by_cases hl:1<(e.kids.length:Int)
     ·skip
      refine hC.vc [] 200 ?_;simp [E.av,E.cells,c,hn,hl];refine hC.call [.loc 1] (f61 Gl e.kids e _ hcl) (by simp [E.cells,c,hn,hl]) ?_;refine hC.vc [] 200 ?_;simp [E.ok_eq e,c,hn,hl]
     ·skip
      refine hC.vc [] 200 ?_;simp [E.av,E.cells,c,hn,hl,E.ok_eq e]
    ·skip
     refine hC.vc [] 200 ?_;simp [E.av,E.cells,c,hn,E.ok_eq e]
   ·by_cases hs:e.op=42∨e.op=43∨e.op=63
    ·by_cases hn:e.name=⟨#[]⟩
     ·by_cases hl:(e.kids.length:Int)=1
      ·obtain ⟨k,hk⟩:∃k,e.kids = [k]:=List.length_eq_one_iff.1 (by omega);rw [hk] at hcl;rcases hs with d|d|d
       ·refine hC.vc [] 200 ?_;simp [E.av,E.cells,d,hn,hk,E.pv_eq k];refine hC.call [] (f59 Gl k) (by simp [E.av,E.cells]) ?_;refine hC.vc [] 200 ?_;cases hsx:k.suffix
        ·simp [E.pv_eq k];refine hC.call [.loc 1] (f61 Gl [k] e _ hcl) (by simp [E.cells,d,hn,hk,E.pv_eq k]) ?_;refine hC.vc [] 200 ?_;simp [E.ok_eq e,d,hn,hk,hsx]
        ·simp [E.ok_eq e,d,hn,hk,hsx]
       ·refine hC.vc [] 200 ?_;simp [E.av,E.cells,d,hn,hk,E.pv_eq k];refine hC.call [] (f59 Gl k) (by simp [E.av,E.cells]) ?_;refine hC.vc [] 200 ?_;cases hsx:k.suffix
        ·simp [E.pv_eq k];refine hC.call [.loc 1] (f61 Gl [k] e _ hcl) (by simp [E.cells,d,hn,hk,E.pv_eq k]) ?_;refine hC.vc [] 200 ?_;simp [E.ok_eq e,d,hn,hk,hsx]
        ·simp [E.ok_eq e,d,hn,hk,hsx]
       ·refine hC.vc [] 200 ?_;simp [E.av,E.cells,d,hn,hk,E.pv_eq k];refine hC.call [] (f59 Gl k) (by simp [E.av,E.cells]) ?_;refine hC.vc [] 200 ?_;cases hsx:k.suffix
        ·simp [E.pv_eq k];refine hC.call [.loc 1] (f61 Gl [k] e _ hcl) (by simp [E.cells,d,hn,hk,E.pv_eq k]) ?_;refine hC.vc [] 200 ?_;simp [E.ok_eq e,d,hn,hk,hsx]
        ·simp [E.ok_eq e,d,hn,hk,hsx]
      ·rcases hs with d|d|d <;>
        (refine hC.vc [] 200 ?_;simp [E.av,E.cells,d,hn,hl,E.ok_eq e])
     ·rcases hs with d|d|d <;>
       (refine hC.vc [] 200 ?_;simp [E.av,E.cells,d,hn,E.ok_eq e])
    ·have d1:¬e.op=42:=fun h=>hs (.inl h);have d2:¬e.op=43:=fun h=>hs (.inr (.inl h));have d3:¬e.op=63:=fun h=>hs (.inr (.inr h));refine hC.vc [] 200 ?_;simp [E.av,E.cells,a,b,c,d1,d2,d3,E.ok_eq e]
termination_by SizeOf.sizeOf e
decreasing_by exact E.kids_lt hx
def par (b:Bool)(s:ByteArray):ByteArray:=if b=true then ⟨#[40]⟩++s++⟨#[41]⟩ else s
def E.text:E→Bool→ByteArray
 |.mk op name kids,b=>
  if op=110 then name
  else if op=115 then (if kids.length=0 then ⟨#[40,41]⟩ else par b (joinB (go (!decide (op=97)) kids) ⟨#[32]⟩))
  else if op=97 then par b (joinB (go (!decide (op=97)) kids) ⟨#[124]⟩)
  else joinB (go (!decide (op=97)) kids) ⟨#[]⟩++Utf8.encode (wr .i32 op)
where go (b:Bool):List E→List ByteArray
 |[]=>[]
 |k::l=>k.text b::go b l
theorem text_go (b:Bool)(l:List E):E.text.go b l=l.map fun k=>k.text b:=by
 induction l with
 |nil=>rfl
 |cons x l ih=>simp [E.text.go,ih]
theorem text_eq (e:E)(b:Bool):e.text b=(if e.op=110 then e.name
 else if e.op=115 then (if e.kids.length=0 then ⟨#[40,41]⟩ else par b (joinB (e.kids.map fun k=>k.text (!decide (e.op=97))) ⟨#[32]⟩))
 else if e.op=97 then par b (joinB (e.kids.map fun k=>k.text (!decide (e.op=97))) ⟨#[124]⟩)
 else joinB (e.kids.map fun k=>k.text (!decide (e.op=97))) ⟨#[]⟩++Utf8.encode (wr .i32 e.op)):=by
 obtain ⟨o,n,k⟩:=e;simp only [E.text,text_go];rfl
def E.cnt:E→Nat
 |.mk _ _ kids=>1+go kids
where go:List E→Nat
 |[]=>0
 |k::l=>k.cnt+go l
theorem cnt_eq (e:E):e.cnt=1+(e.kids.map E.cnt).sum:=by
 obtain ⟨o,n,k⟩:=e;have:∀l,E.cnt.go l=(l.map E.cnt).sum:=fun l=>by induction l<;>simp [E.cnt.go, *]
 simp only [E.cnt,this];rfl
theorem cnt_kid {e k:E}(h:k∈e.kids):k.cnt<e.cnt:=by
 rw [cnt_eq e];have:∀l:List E,k∈l→k.cnt≤(l.map E.cnt).sum:=by
  intro l;induction l with
  |nil=>intro h;cases h
  |cons x l ih=>
   intro h;rcases List.mem_cons.1 h with rfl|h
   ·simp
   ·have:=ih h;simp;omega
 have:=this _ h;omega
theorem join_len (xs:List (List UInt8))(sep:List UInt8):(Lib.join xs sep).length≤(xs.map fun x=>x.length+sep.length).sum:=by
 cases xs with
 |nil=>simp [Lib.join_nil]
 |cons x r=>
  rw [Lib.join_cons];have:(Lib.joinTail sep r).length=(r.map fun x=>x.length+sep.length).sum:=by
   induction r with
   |nil=>simp [Lib.joinTail]
   |cons y r ih=>simp [Lib.joinTail] at ih ⊢;try omega
  simp only [List.length_append,this,List.map_cons,List.sum_cons];omega
theorem sum_le {α:Type}(l:List α)(f g:α→Nat)(h:∀x∈l,f x≤g x):(l.map f).sum≤(l.map g).sum:=by
 induction l with
 |nil=>simp
 |cons x l ih=>
  have h1:=h x (by simp);have h2:=ih fun y hy=>h y (by simp [hy]);simp;omega
theorem sum_mul (l:List E):(l.map fun k=>16*k.cnt).sum=16*(l.map E.cnt).sum:=by
 induction l with
 |nil=>simp
 |cons x l ih=>simp [ih];omega
theorem par_size (b:Bool)(s:ByteArray):(par b s).size≤s.size+2:=by
 unfold par;split
 ·simp [ByteArray.size_append];have e1:(⟨#[40]⟩:ByteArray).size=1:=rfl;have e2:(⟨#[41]⟩:ByteArray).size=1:=rfl;omega
 ·omega
theorem isName_size {s:ByteArray}(h:isName s=true):s.size≤8:=by
 simp [isName] at h;exact h.1.1.2
theorem ok_name {e:E}(h:e.ok=true):e.name.size≤8:=by
 rw [E.ok_eq] at h;by_cases h1:e.op=110
 ·simp [h1] at h;rcases h.2 with h|h
  ·exact isName_size h
  ·rw [h];decide
 ·simp [h1] at h;rw [h.1.1];decide
theorem join_size (l:List ByteArray)(sep:ByteArray):(joinB l sep).size≤(l.map fun x=>x.size+sep.size).sum:=by
 have:=join_len (l.map (·.data.toList)) sep.data.toList;simp only [List.map_map] at this;have e1:(joinB l sep).size=(Lib.join (l.map (·.data.toList)) sep.data.toList).length:=by simp [joinB,ByteArray.size]
 rw [e1];refine Nat.le_trans this (Nat.le_of_eq ?_);congr 1
theorem enc42:Utf8.encode (wr .i32 42)=⟨#[42]⟩:=by kernel_rfl
theorem enc43:Utf8.encode (wr .i32 43)=⟨#[43]⟩:=by kernel_rfl
theorem enc63:Utf8.encode (wr .i32 63)=⟨#[63]⟩:=by kernel_rfl
theorem E.ok_opsS {e:E}(h:e.ok=true)(h1:¬e.op=110)(h2:¬e.op=115)(h3:¬e.op=97):e.op=42∨e.op=43∨e.op=63:=by
 rw [E.ok_eq,if_neg h1] at h;simp [h2,h3] at h;exact h.1.2.1.1
theorem e40:(⟨#[40]⟩:ByteArray).size=1:=rfl
theorem e41:(⟨#[41]⟩:ByteArray).size=1:=rfl
theorem kids_le (e:E):e.kids.length≤e.cnt:=by
 have:∀l:List E,l.length≤(l.map E.cnt).sum:=fun l=>by
  induction l with
  |nil=>simp
  |cons x l ih=>have:1≤x.cnt:=(by rw [cnt_eq];omega);simp;omega
 have:=this e.kids;have:=cnt_eq e;omega
def E.szOk (e:E):Prop:=∀b,(e.text b).size+8≤16*e.cnt
theorem join_bound' (e:E)(hk:∀k∈e.kids,k.szOk)(sep:ByteArray)(hs:sep.size≤1):(joinB (e.kids.map fun k=>k.text (!decide (e.op=97))) sep).size≤16*(e.cnt-1):=by
 refine Nat.le_trans (join_size _ _) ?_;rw [List.map_map,cnt_eq e,Nat.add_sub_cancel_left,←sum_mul];exact sum_le _ _ _ fun k hk'=>by have:=hk k hk' (!decide (e.op=97));simp;omega
theorem text_size (e:E)(b:Bool)(h:e.ok=true):(e.text b).size+8≤16*e.cnt:=by
 have hn:=ok_name h;have hc:1≤e.cnt:=by rw [cnt_eq];omega
 by_cases h1:e.op=110
 ·rw [text_eq,if_pos h1];omega
 ·have hk:∀k∈e.kids,∀b,(k.text b).size+8≤16*k.cnt:=fun k hk b=>text_size k b (by
   rw [E.ok_eq,if_neg h1] at h;simp at h;exact (h.2 k hk).2)
  have hj:∀sep:ByteArray,sep.size≤1→(joinB (e.kids.map fun k=>k.text (!decide (e.op=97))) sep).size≤16*(e.cnt-1):=fun sep hs=>by
   refine Nat.le_trans (join_size _ _) ?_;rw [List.map_map,cnt_eq e,Nat.add_sub_cancel_left,←sum_mul];exact sum_le _ _ _ fun k hk'=>by have:=hk k hk' (!decide (e.op=97));simp;omega
  have hc1:16*(e.cnt-1)+16=16*e.cnt:=by omega
  rw [text_eq,if_neg h1];split
  ·split
   ·have:(⟨#[40,41]⟩:ByteArray).size=2:=rfl;omega
   ·have:=hj ⟨#[32]⟩ (by decide);have:=par_size b (joinB (e.kids.map fun k=>k.text (!decide (e.op=97))) ⟨#[32]⟩);omega
  ·split
   ·have:=hj ⟨#[124]⟩ (by decide);have:=par_size b (joinB (e.kids.map fun k=>k.text (!decide (e.op=97))) ⟨#[124]⟩);omega
   ·rename_i h2 h3;rw [E.ok_eq,if_neg h1] at h;simp [h2,h3] at h;have:=hj ⟨#[]⟩ (by decide);have he:(Utf8.encode (wr .i32 e.op)).size≤4:=by
     rcases h.1.2.1.1 with h|h|h<;>rw [h]
     ·rw [enc42];decide
     ·rw [enc43];decide
     ·rw [enc63];decide
    rw [ByteArray.size_append];omega
termination_by SizeOf.sizeOf e
decreasing_by exact E.kids_lt hk
theorem join_bound (e:E)(h:e.ok=true)(h1:¬e.op=110)(sep:ByteArray)(hs:sep.size≤1):(joinB (e.kids.map fun k=>k.text (!decide (e.op=97))) sep).size≤16*(e.cnt-1):=
 join_bound' e (fun k hk b=>text_size k b (by
  rw [E.ok_eq,if_neg h1] at h;simp at h;exact (h.2 k hk).2)) sep hs
set_option maxRecDepth 20000 in
theorem f31 (Gl:Granted)(e:E)(b:Bool)(hok:e.ok=true)(hc:e.cnt≤1000000):Fun Tryz.prog Gl 134 [e.av,vB b] [] (vS (e.text b)) []:=by
 have hk:∀k∈e.kids,∀b,Fun Tryz.prog Gl 134 [k.av,vB b] [] (vS (k.text b)) []:=fun k hk b=>f31 Gl k b (by
  rw [E.ok_eq] at hok;by_cases h1:e.op=110
  ·simp [h1] at hok;rw [hok.1] at hk;cases hk
  ·rw [if_neg h1] at hok;simp at hok;exact (hok.2 k hk).2) (by have:=cnt_kid hk;omega)
 refine fun_of (T:=T) (n:=55) (rs:=[.tmp 4]) Tryz.func134 (by kernel_rfl) rfl rfl rfl tok mixed (by simp) fun C hC=>?_;refine hC.vc [] 9 ?_;simp [E.av,E.cells];obtain ⟨ts,hts⟩:∃ts:List ByteArray,(e.kids.map fun k=>k.text (!decide (e.op=97)))=ts:=⟨_,rfl⟩;refine go_cut (ι:=Unit) (fun _=>⟨[(1,vB b),(2,.ptr (.loc 2) 0),(5,.pv (.ro 1 (ts.map fun s=>[.val (.string s)])))],[(.loc 2,some (.box 63 e.cells))]⟩) (fun _=>?_) (fun tail=>?_)
 ·skip
  have hlen:ts.length≤140737488355328:=by
   rw [←hts,List.length_map];have:=kids_le e;omega
  have hj:¬e.op=110→∀sep:ByteArray,sep.size≤1→(joinB ts sep).size≤140737488355328:=fun h1 sep hs=>by
   have:=join_bound e hok h1 sep hs;rw [hts] at this;omega
  refine hC.vc [] 60 ?_;have ht:=text_eq e b;rw [hts] at ht;by_cases h1:e.op=110
  ·rw [if_pos h1] at ht;simp [E.cells,h1,ht]
  ·by_cases h2:e.op=115
   ·by_cases h0:e.kids = []
    ·simp [h0,h2] at ht;simp [E.cells,h2,h0,ht]
    ·rw [if_neg h1,if_pos h2,if_neg (by simpa using h0)] at ht;simp [E.cells,h2,h0];refine hC.call [] (f39 Gl ts ⟨#[32]⟩ hlen (hj h1 _ (by decide))) (by simp) ?_;refine hC.vc [] 60 ?_;have:=hj h1 ⟨#[32]⟩ (by decide);cases b<;>simp [ht,par,e40,e41]
     omega
   ·rw [if_neg h1,if_neg h2] at ht;by_cases h3:e.op=97
    ·rw [if_pos h3] at ht;simp [E.cells,h3];refine hC.call [] (f39 Gl ts ⟨#[124]⟩ hlen (hj h1 _ (by decide))) (by simp) ?_;refine hC.vc [] 60 ?_;have:=hj h1 ⟨#[124]⟩ (by decide);cases b<;>simp [ht,par,e40,e41]
     omega
    ·rw [if_neg h3] at ht;simp [E.cells,h1,h2,h3];refine hC.call [] (f39 Gl ts ⟨#[]⟩ hlen (hj h1 _ (by decide))) (by simp) ?_;refine hC.vc [] 60 ?_;have:=hj h1 ⟨#[]⟩ (by decide);have he:(Utf8.encode (wr .i32 e.op)).size≤4:=by
      rcases E.ok_opsS hok h1 h2 h3 with h|h|h<;>rw [h]
      ·rw [enc42];decide
      ·rw [enc43];decide
      ·rw [enc63];decide
     simp [ht];omega
 ·refine hC.vc [] 20 ?_;simp;refine go_len 10 3 (e.kids.map E.pv) (by simp) fun hl=>?_;rw [List.length_map] at hl;refine go_loop (ι:={i:Nat // i≤e.kids.length}) (fun x=>⟨[(1,vB b),(2,.ptr (.loc 2) 0),(5,.own (.can 0)),(10,.pv (.ro 3 (e.kids.map E.pv))),(11,vI e.kids.length),(12,vI x.1)],
   [(.loc 2,some (.box 63 e.cells)),(.can 0,some (.row 9 1 ((ts.take x.1).map fun s=>[.val (.string s)])))]⟩) (fun x=>e.kids.length-x.1) ⟨0,Nat.zero_le _⟩ [(.can 0,.nil)] (by simp [E.cells]) fun x ih=>?_
  obtain ⟨i,hi⟩:=x;simp only at hi ih;have htl:ts.length=e.kids.length:=by rw [←hts,List.length_map]
  have hkl:=kids_le e;by_cases hlt:i<e.kids.length
  ·have hti:ts[i]?=some (e.kids[i].text (!decide (e.op=97))):=(by rw [←hts,List.getElem?_map,List.getElem?_eq_getElem hlt];rfl);have htk:ts.take (i+1)=ts.take i++[e.kids[i].text (!decide (e.op=97))]:=(by rw [List.take_add_one,hti];rfl);have hw1:=wr64 ((i:Int)+1) (by omega);refine hC.vc [] 60 ?_;by_cases h97:e.op=97
   ·simp [hlt,E.pv_eq,E.cells,h97];refine hC.call [] (hk e.kids[i] (by simp) false) (by simp [E.av,E.cells]) ?_;refine hC.vc [] 60 ?_;simp [h97] at htk;simp;refine ⟨by omega,?_⟩;exact go_to [(.can 0,.nm (.loc 23))] (ih ⟨i+1,hlt⟩ (by simp;omega)) (by simp [hw1,E.cells,htk,h97])
   ·simp [hlt,E.pv_eq,E.cells,h97];refine hC.call [] (hk e.kids[i] (by simp) true) (by simp [E.av,E.cells]) ?_;refine hC.vc [] 60 ?_;simp [h97] at htk;simp;refine ⟨by omega,?_⟩;exact go_to [(.can 0,.nm (.loc 23))] (ih ⟨i+1,hlt⟩ (by simp;omega)) (by simp [hw1,E.cells,htk])
  ·refine hC.vc [] 7 ?_;simp [hlt];have:(ts.map fun s=>[PV.val (.string s)]).take i=ts.map fun s=>[PV.val (.string s)]:=List.take_of_length_le (by simp;omega);exact go_to [] (tail ()) (by simp [this,E.cells])
termination_by SizeOf.sizeOf e
decreasing_by exact E.kids_lt hk
def E.right (e:E):Bool:=decide (e.many≤24)&&e.ok
theorem f18 (Gl:Granted)(e:E)(hs:e.small):Fun Tryz.prog Gl 62 [e.av] [] (vB e.right) []:=by
 refine fun_of (T:=T) (n:=10) (rs:=[.tmp 2]) Tryz.func62 (by kernel_rfl) rfl rfl rfl tok mixed (by simp) fun C hC=>?_;refine hC.vc [] 60 ?_;simp [E.av,E.cells];refine hC.call [] (f32 Gl e) (by simp [E.av,E.cells]) ?_;refine hC.vc [] 60 ?_;by_cases h:e.many≤24
 ·simp [h];refine hC.call [] (f33 Gl e hs) (by simp [E.av,E.cells]) ?_;refine hC.vc [] 60 ?_;simp [E.right,h]
 ·simp [E.right,h]
structure St where
 left:ByteArray
 bad:Bool
 many:Int
abbrev St.b (s:St):Blk:=.box 273 [vS s.left,vB s.bad,vI s.many]
def St.cut (s:St)(sign:ByteArray):St:={ s with left:=cutPre s.left sign }
def rounds (read:St→E × St)(sign:ByteArray):Nat→List E→St→List E × St
 |0,l,s=>(l,s)
 |n+1,l,s=>if s.bad=true then (l,s) else if hasPre s.left sign=true then rounds read sign n (l++[(read (s.cut sign)).1]) (read (s.cut sign)).2 else (l,s.cut sign)
def several (read:St→E × St)(op:Int)(sign:ByteArray)(s:St):E × St:=
 let r:=rounds read sign (s.left.size+1) [(read s).1] (read s).2
 (match r.1 with
   |[e]=>e
   |l=>.mk op ⟨#[]⟩ l,r.2)
theorem cutPre_size (s p:ByteArray)(h:hasPre s p=true):(cutPre s p).size=s.size-p.size:=by
 simp [cutPre,h,ByteArray.size_extract]
theorem f53 (Gl:Granted)(read:St→E × St)(op:Int)(sign:ByteArray)(g:Nat)(I:St→Prop)(hr:∀s,I s→Fun Tryz.prog Gl g [.ptr (.arg 0) 0] [some s.b] (read s).1.av [some (read s).2.b])
 (hle:∀s,I s→(read s).2.left.size≤s.left.size) (hI:∀s,I s→(read s).2.bad=false→I (read s).2) (hcut:∀s,I s→hasPre s.left sign=true→I (s.cut sign)) (hsg:1≤sign.size) (s:St) (hs0:I s) (hsz:s.left.size≤1000000000) :
 Fun Tryz.prog Gl 241 [.ptr (.arg 0) 0,.pv (.val (.int .u8 op)),vS sign,.fn (.func g) [.ptr (.arg 0) 0] []] [some s.b] (several read op sign s).1.av [some (several read op sign s).2.b]:=by
 refine fun_of (T:=T) (n:=37) (rs:=[.cell 8 63]) Tryz.func241 (by kernel_rfl) rfl rfl rfl tok mixed (by simp) fun C hC=>?_;refine hC.vc [12] 60 ?_;simp;refine hC.call [.arg 0] (hr s hs0) (by simp [E.av,E.cells]) ?_;refine hC.vc [12] 60 ?_;simp [E.av,E.cells];obtain ⟨R,hR⟩:∃R,rounds read sign (s.left.size+1) [(read s).1] (read s).2=R:=⟨_,rfl⟩;have hsev:several read op sign s=(match R.1 with
  |[e]=>e
  |l=>.mk op ⟨#[]⟩ l,R.2):=by simp only [several,hR]
 refine go_loop (ι:={x:Nat × List E × St // (x.2.2.bad=false→I x.2.2)∧x.2.2.left.size<x.1∧x.2.1.length+x.2.2.left.size≤s.left.size+1∧rounds read sign x.1 x.2.1 x.2.2=R})
  (fun x=>⟨[(0,.ptr (.arg 0) 0),(1,.pv (.val (.int .u8 op))),(2,vS sign),(3,.fn (.func g) [.ptr (.arg 0) 0] []),(8,.ptr (.loc 8) 0),(9,.own (.can 0))],
    [(.arg 0,some x.1.2.2.b),(.loc 8,some (.box 63 [.pv (.val (.int .u8 0)),.pv (.val (.string ⟨#[]⟩)),.pv (.nilS 3)])),(.can 0,some (.row 63 3 (x.1.2.1.map E.pv)))]⟩)
  (fun x=>x.1.1) ⟨(s.left.size+1,[(read s).1],(read s).2),by have:=hle s hs0;simp [hR];exact ⟨hI s hs0,by omega,by omega⟩⟩ [(.can 0,.nm (.loc 12))] (by simp [E.pv_eq]) fun x ih=>?_
 obtain ⟨⟨n,l,r⟩,h0,h1,h2,h3⟩:=x;simp only at h0 h1 h2 h3 ih;obtain ⟨n,rfl⟩:∃k,n=k+1:=⟨n-1,by omega⟩;simp only [rounds] at h3;refine hC.vc [] 100 ?_;have hleaf:∀(l:List E) (q:St),R=(l,q)→(∃e,l = [e]∧several read op sign s=(e,q))∨(¬(l.length:Int)=1∧several read op sign s=(.mk op ⟨#[]⟩ l,q)):=by
  intro l q hq;rw [hsev,hq];rcases l with _|⟨x,_|⟨y,l⟩⟩
  ·exact .inr ⟨by simp,rfl⟩
  ·exact .inl ⟨x,rfl,rfl⟩
  ·exact .inr ⟨by simp;omega,rfl⟩
 by_cases hb:r.bad=true
 ·rw [if_pos hb] at h3;rcases hleaf l r h3.symm with ⟨e,rfl,hs⟩|⟨hl,hs⟩
  ·simp [hb,E.pv_eq,hs,E.av,E.cells]
  ·simp [hb,hl,hs,E.av,E.cells,E.op,E.name,E.kids]
 ·rw [if_neg hb] at h3;simp [hb];refine hC.call [.arg 0] (f81 Gl r.left sign r.bad r.many) (by simp [hb,rdB]) ?_;refine hC.vc [] 100 ?_;cases hp:hasPre r.left sign with
  |false=>
   rw [if_neg (by simp [hp])] at h3;rcases hleaf l _ h3.symm with ⟨e,rfl,hs⟩|⟨hl,hs⟩
   ·simp [rdB,E.pv_eq,hs,E.av,E.cells,St.cut]
   ·simp [rdB,hl,hs,E.av,E.cells,E.op,E.name,E.kids,St.cut]
  |true=>
   rw [if_pos hp] at h3;simp [rdB];have hIr:=hcut r (h0 (by simpa using hb)) hp;refine hC.call [.arg 0] (hr (r.cut sign) hIr) (by simp [E.av,E.cells,St.cut]) ?_;refine hC.vc [] 100 ?_;have hcs:=cutPre_size r.left sign hp;have hp1:=hasPre_le hp;have hl2:=hle (r.cut sign) hIr;simp [St.cut] at hl2;simp [E.av,E.cells];refine ⟨by omega,?_⟩;exact go_to [(.can 0,.nm (.loc 27))] (ih ⟨(n,l++[(read (r.cut sign)).1],(read (r.cut sign)).2),hI _ hIr,by simp [St.cut];omega,by simp [St.cut];omega,h3⟩ (by simp)) (by simp [E.pv_eq])
def lowS:ByteArray:=⟨#[97,98,99,100,101,102,103,104,105,106,107,108,109,110,111,112,113,114,115,116,117,118,119,120,121,122]⟩
def E.none:E:=.mk 0 ⟨#[]⟩ []
def sfx (e:E):List Int→St→E × St
 |[],s=>(e,s)
 |o::l,s=>if hasPre s.left (Utf8.encode (wr .i32 o))=true then (.mk o ⟨#[]⟩ [e],s.cut (Utf8.encode (wr .i32 o))) else sfx e l (s.cut (Utf8.encode (wr .i32 o)))
def baseF (tl:ByteArray→ByteArray)(alt:St→E × St)(s:St):E × St:=
 if hasPre s.left ⟨#[40,41]⟩=true then (.mk 115 ⟨#[]⟩ [],s.cut ⟨#[40,41]⟩)
 else
  let s2:=s.cut ⟨#[40,41]⟩
  if hasPre s2.left ⟨#[40]⟩=true then
   let r:=alt (s2.cut ⟨#[40]⟩)
   (r.1,{ left:=cutPre r.2.left ⟨#[41]⟩,bad:=!hasPre r.2.left ⟨#[41]⟩ || r.2.bad,many:=r.2.many })
  else
   let s3:=s2.cut ⟨#[40]⟩
   (.mk 110 (s3.left.extract 0 (s3.left.size-(tl s3.left).size)) [],{ s3 with left:=tl s3.left })
def itemF (tl:ByteArray→ByteArray)(alt:St→E × St)(s:St):E × St:=
 let s1:St:={ s with many:=wr .i64 (s.many+1) }
 if 48<s1.many then (E.none,{ s1 with bad:=true })
 else sfx (baseF tl alt s1).1 [42,43,63] (baseF tl alt s1).2
set_option maxRecDepth 20000 in
theorem f82 (Gl:Granted)(tl:ByteArray→ByteArray)(h99:∀s,Fun Tryz.prog Gl 295 [vS s,vS lowS] [] (vS (tl s)) [])(htl:∀s,(tl s).size≤s.size)(alt:St→E × St)(s:St)(hs9:s.left.size≤1000000000)
 (ha:∀r:St,wr .i64 (s.many+1)=r.many→r.bad=s.bad→r.left.size≤s.left.size→¬48<r.many→Fun Tryz.prog Gl 193 [.ptr (.arg 0) 0] [some r.b] (alt r).1.av [some (alt r).2.b]) :
 Fun Tryz.prog Gl 276 [.ptr (.arg 0) 0] [some s.b] (itemF tl alt s).1.av [some (itemF tl alt s).2.b]:=by
 refine fun_of (T:=T) (n:=84) (rs:=[.cell 2 63]) Tryz.func276 (by kernel_rfl) rfl rfl rfl tok mixed (by simp) fun C hC=>?_;by_cases h48:48<wr .i64 (s.many+1)
 ·refine hC.vc [] 100 ?_;simp [h48,itemF,E.none,E.av,E.cells,E.op,E.name,E.kids]
 ·refine hC.vc [] 30 ?_;simp [h48];obtain ⟨e,r,hB⟩:∃e r,baseF tl alt { s with many:=wr .i64 (s.many+1) }=(e,r):=⟨_,_,rfl⟩;have hit:itemF tl alt s=sfx e [42,43,63] r:=by simp only [itemF,if_neg h48,hB]
  refine go_cut (ι:=Unit) (fun _=>⟨[(0,.ptr (.arg 0) 0),(2,.ptr (.loc 2) 0),(3,.ptr (.loc 3) 0)],[(.arg 0,some r.b),(.loc 2,some (.box 63 [.pv (.val (.int .u8 0)),.pv (.val (.string ⟨#[]⟩)),.pv (.nilS 3)])),(.loc 3,some (.box 63 e.cells))]⟩) (fun _=>?_) (fun tail=>?_)
  ·refine hC.vc [] 20 ?_;simp [E.cells];refine go_first ?_;refine hC.vc [] 40 ?_;simp [E.cells,wr64];refine hC.call [.arg 0] (f81 Gl r.left (Utf8.encode (wr .i32 42)) r.bad r.many) (by simp [rdB,E.cells,St.cut]) ?_;refine hC.vc [] 60 ?_;cases p0:hasPre r.left (Utf8.encode (wr .i32 42)) with
   |true=>
    simp [rdB,E.cells,E.av,hit,sfx,St.cut,E.op,E.name,E.kids,E.pv_eq,p0]
   |false=>
    simp [rdB,E.cells,St.cut,wr64];refine go_again ?_;refine hC.vc [] 40 ?_;simp [E.cells,wr64];refine hC.call [.arg 0] (f81 Gl (r.cut (Utf8.encode (wr .i32 42))).left (Utf8.encode (wr .i32 43)) (r.cut (Utf8.encode (wr .i32 42))).bad (r.cut (Utf8.encode (wr .i32 42))).many) (by simp [rdB,E.cells,St.cut]) ?_;refine hC.vc [] 60 ?_;cases p1:hasPre (r.cut (Utf8.encode (wr .i32 42))).left (Utf8.encode (wr .i32 43)) with
    |true=>
     simp [St.cut] at p0 p1;simp [rdB,E.cells,E.av,hit,sfx,St.cut,E.op,E.name,E.kids,E.pv_eq,p0,p1]
    |false=>
     simp [rdB,E.cells,St.cut,wr64];refine go_again ?_;refine hC.vc [] 40 ?_;simp [E.cells,wr64];refine hC.call [.arg 0] (f81 Gl ((r.cut (Utf8.encode (wr .i32 42))).cut (Utf8.encode (wr .i32 43))).left (Utf8.encode (wr .i32 63)) ((r.cut (Utf8.encode (wr .i32 42))).cut (Utf8.encode (wr .i32 43))).bad ((r.cut (Utf8.encode (wr .i32 42))).cut (Utf8.encode (wr .i32 43))).many) (by simp [rdB,E.cells,St.cut]) ?_;refine hC.vc [] 60 ?_;cases p2:hasPre ((r.cut (Utf8.encode (wr .i32 42))).cut (Utf8.encode (wr .i32 43))).left (Utf8.encode (wr .i32 63)) with
     |true=>
      simp [St.cut] at p0 p1 p2;simp [rdB,E.cells,E.av,hit,sfx,St.cut,E.op,E.name,E.kids,E.pv_eq,p0,p1,p2]
     |false=>
      simp [St.cut] at p0 p1 p2;simp [rdB,E.cells,St.cut,wr64];refine go_again ?_;refine hC.vc [] 60 ?_;simp [rdB,E.cells,E.av,hit,sfx,St.cut,E.op,E.name,E.kids,E.pv_eq,p0,p1,p2]
  ·refine hC.vc [] 20 ?_;simp;refine hC.call [.arg 0] (f81 Gl s.left ⟨#[40,41]⟩ s.bad (wr .i64 (s.many+1))) (by simp [rdB]) ?_;cases hp:hasPre s.left ⟨#[40,41]⟩ with
   |true=>
    simp [baseF,hp] at hB;obtain ⟨rfl,rfl⟩:=hB;refine hC.vc [] 8 ?_;simp [rdB];exact go_to [] (tail ()) (by simp [E.cells,St.cut,E.op,E.name,E.kids])
   |false=>
    refine hC.vc [] 20 ?_;simp [rdB];refine hC.call [.arg 0] (f81 Gl (cutPre s.left ⟨#[40,41]⟩) ⟨#[40]⟩ s.bad (wr .i64 (s.many+1))) (by simp [rdB]) ?_;have hsz:(cutPre (cutPre s.left ⟨#[40,41]⟩) ⟨#[40]⟩).size≤s.left.size:=by
     simp [cutPre,hp];split
     ·simp [ByteArray.size_extract]
     ·exact Nat.le_refl _
    cases hp2:hasPre (cutPre s.left ⟨#[40,41]⟩) ⟨#[40]⟩ with
    |true=>
     simp [baseF,hp,hp2,St.cut] at hB;refine hC.vc [] 20 ?_;simp [rdB];refine hC.call [.arg 0] (ha ⟨cutPre (cutPre s.left ⟨#[40,41]⟩) ⟨#[40]⟩,s.bad,wr .i64 (s.many+1)⟩ rfl rfl hsz h48) (by simp [E.av,E.cells]) ?_;generalize hal:alt ⟨cutPre (cutPre s.left ⟨#[40,41]⟩) ⟨#[40]⟩,s.bad,wr .i64 (s.many+1)⟩=al at hB ⊢;obtain ⟨rfl,rfl⟩:=hB;refine hC.vc [] 20 ?_;simp [E.av,E.cells];refine hC.call [.arg 0] (f81 Gl al.2.left ⟨#[41]⟩ al.2.bad al.2.many) (by simp [rdB]) ?_;cases hp3:hasPre al.2.left ⟨#[41]⟩ with
     |true=>
      refine hC.vc [] 12 ?_;simp [rdB];exact go_to [] (tail ()) (by simp [E.cells,hp3])
     |false=>
      refine hC.vc [] 12 ?_;simp [rdB];exact go_to [] (tail ()) (by simp [E.cells,hp3])
    |false=>
     simp [baseF,hp,hp2,St.cut] at hB;obtain ⟨rfl,rfl⟩:=hB;refine hC.vc [] 20 ?_;simp [rdB];refine hC.call [] (h99 (cutPre (cutPre s.left ⟨#[40,41]⟩) ⟨#[40]⟩)) (by simp [lowS]) ?_;have hle:=htl (cutPre (cutPre s.left ⟨#[40,41]⟩) ⟨#[40]⟩);have hw:=wr64 ((cutPre (cutPre s.left ⟨#[40,41]⟩) ⟨#[40]⟩).size-(tl (cutPre (cutPre s.left ⟨#[40,41]⟩) ⟨#[40]⟩)).size:Int) (by omega);refine hC.vc [] 28 ?_;simp [hw];refine ⟨by omega,?_⟩;exact go_to [] (tail ()) (by simp [E.cells,E.op,E.name,E.kids])
theorem E.ok_kids {e:E}(h:e.ok=true)(hop:¬e.op=110):∀k∈e.kids,k.ok=true∧k.op≠e.op:=by
 rw [E.ok_eq,if_neg hop] at h;simp at h;intro k hk;have:=h.2 k hk;exact ⟨this.2,this.1⟩
theorem E.ok_ops {e:E}(h:e.ok=true):(e.op=110∧e.kids = [])∨(e.op=115∧e.name=⟨#[]⟩∧e.kids.length≠1)∨(e.op=97∧e.name=⟨#[]⟩∧1<e.kids.length)∨((e.op=42∨e.op=43∨e.op=63)∧e.name=⟨#[]⟩∧∃k,e.kids = [k]∧k.suffix=false):=by
 rw [E.ok_eq] at h;by_cases h1:e.op=110
 ·simp [h1] at h;exact .inl ⟨h1,h.1⟩
 ·by_cases h2:e.op=115
  ·simp [h2] at h;exact .inr (.inl ⟨h2,h.1.1,fun hl=>h.1.2 (by omega)⟩)
  ·by_cases h3:e.op=97
   ·simp [h3] at h;exact .inr (.inr (.inl ⟨h3,h.1.1,by omega⟩))
   ·simp [h1,h2,h3] at h;obtain ⟨⟨a1,⟨a2,a3⟩,a4⟩,_⟩:=h;refine .inr (.inr (.inr ⟨a2,a1,?_⟩))
    match hk:e.kids,a3,a4 with
    |[k],_,a4=>exact ⟨k,rfl,a4 k (by simp)⟩
    |[],a3,_=>simp at a3
    |_::_::_,a3,_=>simp at a3;omega
end Go.Proofs.D
namespace Go.Proofs.D
open Go Go.Abs
theorem f54 (Gl:Granted)(read:St→E × St)(I:St→Prop)(hr:∀s,I s→Fun Tryz.prog Gl 276 [.ptr (.arg 0) 0] [some s.b] (read s).1.av [some (read s).2.b])(hle:∀s,I s→(read s).2.left.size≤s.left.size)
 (hI:∀s,I s→(read s).2.bad=false→I (read s).2) (hcut:∀s sign,I s→hasPre s.left sign=true→I (s.cut sign)) (s:St) (hs0:I s) (hsz:s.left.size≤1000000000) :
 Fun Tryz.prog Gl 242 [.ptr (.arg 0) 0] [some s.b] (several read 115 ⟨#[32]⟩ s).1.av [some (several read 115 ⟨#[32]⟩ s).2.b]:=by
 refine fun_of (T:=T) (n:=7) (rs:=[.cell 2 63]) Tryz.func242 (by kernel_rfl) rfl rfl rfl tok mixed (by simp) fun C hC=>?_;refine hC.vc [] 60 ?_;simp;refine hC.call [.arg 0] (f53 Gl read 115 ⟨#[32]⟩ 276 I hr hle hI (fun q=>hcut q _) (by decide) s hs0 hsz) (by simp [E.av,E.cells]) ?_;refine hC.vc [] 60 ?_;simp [E.av,E.cells]
theorem f28 (Gl:Granted)(read:St→E × St)(I:St→Prop)(hr:∀s,I s→Fun Tryz.prog Gl 242 [.ptr (.arg 0) 0] [some s.b] (read s).1.av [some (read s).2.b])(hle:∀s,I s→(read s).2.left.size≤s.left.size)
 (hI:∀s,I s→(read s).2.bad=false→I (read s).2) (hcut:∀s sign,I s→hasPre s.left sign=true→I (s.cut sign)) (s:St) (hs0:I s) (hsz:s.left.size≤1000000000) :
 Fun Tryz.prog Gl 193 [.ptr (.arg 0) 0] [some s.b] (several read 97 ⟨#[124]⟩ s).1.av [some (several read 97 ⟨#[124]⟩ s).2.b]:=by
 refine fun_of (T:=T) (n:=7) (rs:=[.cell 2 63]) Tryz.func193 (by kernel_rfl) rfl rfl rfl tok mixed (by simp) fun C hC=>?_;refine hC.vc [] 60 ?_;simp;refine hC.call [.arg 0] (f53 Gl read 97 ⟨#[124]⟩ 242 I hr hle hI (fun q=>hcut q _) (by decide) s hs0 hsz) (by simp [E.av,E.cells]) ?_;refine hC.vc [] 60 ?_;simp [E.av,E.cells]
theorem many_cnt (e:E)(h:e.cnt≤1000000000):e.many=e.cnt:=by
 have key:∀(l:List E) (n:Nat),(∀k∈l,k.many=k.cnt)→n+(l.map E.cnt).sum≤1000000000→l.foldl (fun n x=>wr .i64 (n+x.many)) (n:Int)=((n+(l.map E.cnt).sum:Nat):Int):=by
  intro l;induction l with
  |nil=>intro n _ _;simp
  |cons x l ih=>
   intro n hk hn;simp at hn;simp only [List.foldl_cons,List.map_cons,List.sum_cons];rw [hk x (by simp),wr64 _ (by omega)];have:=ih (n+x.cnt) (fun k hk'=>hk k (by simp [hk'])) (by omega);rw [Nat.add_assoc] at this;simpa using this
 rw [E.many_eq];have hc:=cnt_eq e;have:=key e.kids 1 (fun k hk=>many_cnt k (by have:=cnt_kid hk;omega)) (by omega);rw [hc];exact this
termination_by SizeOf.sizeOf e
decreasing_by exact E.kids_lt hk
abbrev Rest:=List E
def E.nul:E→Bool
 |.mk op _ kids=>
  if op=110 then false
  else if op=97 then anyN kids
  else if op=115 then allN kids
  else if op=63 then true
  else if op=42 then true
  else anyN kids
where
 anyN:List E→Bool
 |[]=>false
 |k::l=>k.nul || anyN l
 allN:List E→Bool
 |[]=>true
 |k::l=>k.nul&&allN l
theorem nul_eq (e:E):e.nul=if e.op=110 then false else if e.op=97 then E.nul.anyN e.kids else if e.op=115 then E.nul.allN e.kids else if e.op=63 then true else if e.op=42 then true else E.nul.anyN e.kids:=by
 obtain ⟨o,n,k⟩:=e;rw [E.nul];rfl
def restL (r:Rest):Row→Prop:=E.L.seqL r
theorem restL_nil (w:Row):restL [] w↔w = []:=Iff.rfl
theorem restL_cons (k:E)(r:Rest)(w:Row):restL (k::r) w↔∃u v,w=u++v∧k.L u∧restL r v:=Iff.rfl
theorem restL_append (r s:Rest)(w:Row):restL (r++s) w↔∃u v,w=u++v∧restL r u∧restL s v:=by
 induction r generalizing w with
 |nil=>
  simp only [List.nil_append,restL_nil];exact ⟨fun h=>⟨[],w,rfl,rfl,h⟩,fun ⟨u,v,h1,h2,h3⟩=>by subst h2;simpa [h1] using h3⟩
 |cons k r ih=>
  simp only [List.cons_append,restL_cons,ih];constructor
  ·rintro ⟨u,v,rfl,h1,u',v',rfl,h2,h3⟩
   exact ⟨u++u',v',by simp,⟨u,u',rfl,h1,h2⟩,h3⟩
  ·rintro ⟨u,v,rfl,⟨u',v',rfl,h1,h2⟩,h3⟩
   exact ⟨u',v'++v,by simp,h1,v',v,rfl,h2,h3⟩
theorem restL_one (e:E)(w:Row):restL [e] w↔e.L w:=by
 simp only [restL_cons,restL_nil];exact ⟨fun ⟨u,v,h1,h2,h3⟩=>by subst h3;simpa [h1] using h2,fun h=>⟨w,[],by simp,h,rfl⟩⟩
theorem many_nil (p:Row→Prop):Many p []↔p []:=⟨fun h=>h.nil rfl,.one⟩
theorem ok_one {e:E}(h:e.ok=true)(h1:e.op=42∨e.op=43∨e.op=63):∃k,e.kids = [k]:=by
 rcases E.ok_ops h with ⟨g,_⟩|⟨g,_⟩|⟨g,_⟩|⟨_,_,x,g,_⟩
 ·omega
 ·omega
 ·omega
 ·exact ⟨x,g⟩
theorem ok_kid {e k:E}(h:e.ok=true)(hk:k∈e.kids):k.ok=true:=by
 by_cases h1:e.op=110
 ·rcases E.ok_ops h with ⟨_,g⟩|⟨g,_⟩|⟨g,_⟩|⟨g,_⟩
  ·rw [g] at hk;cases hk
  ·omega
  ·omega
  ·omega
 ·exact (E.ok_kids h h1 k hk).1
theorem ok_cases {e:E}(h:e.ok=true):e.op=110∨e.op=97∨e.op=115∨e.op=63∨e.op=42∨e.op=43:=by
 rcases E.ok_ops h with ⟨g,_⟩|⟨g,_⟩|⟨g,_⟩|⟨g,_⟩<;>omega
theorem nul_iff (e:E)(hok:e.ok=true):e.nul=true↔e.L []:=by
 have hA:∀l:List E,(∀k∈l,(k.nul=true↔k.L []))→(E.nul.anyN l=true↔E.L.altL l []):=by
  intro l;induction l with
  |nil=>intro _;simp [E.nul.anyN,E.L.altL]
  |cons k l ih=>
   intro h;simp only [E.nul.anyN,E.L.altL,Bool.or_eq_true,h k (by simp),ih fun x hx=>h x (by simp [hx])]
 have hS:∀l:List E,(∀k∈l,(k.nul=true↔k.L []))→(E.nul.allN l=true↔E.L.seqL l []):=by
  intro l;induction l with
  |nil=>intro _;simp [E.nul.allN,E.L.seqL]
  |cons k l ih=>
   intro h;simp only [E.nul.allN,E.L.seqL,Bool.and_eq_true,h k (by simp),ih fun x hx=>h x (by simp [hx])];constructor
   ·exact fun ⟨a,b⟩=>⟨[],[],rfl,a,b⟩
   ·rintro ⟨u,v,h1,a,b⟩
    obtain ⟨rfl,rfl⟩:=List.append_eq_nil_iff.1 h1.symm;exact ⟨a,b⟩
 have hk:∀k∈e.kids,(k.nul=true↔k.L []):=fun k hk=>nul_iff k (ok_kid hok hk);rw [nul_eq];rcases ok_cases hok with h|h|h|h|h|h
 ·rw [L_one h,h];simp
 ·rw [L_alt h,h];simp [hA _ hk]
 ·rw [L_seq h,h];simp [hS _ hk]
 ·rw [L_opt h,h];simp
 ·rw [L_rep (.inl h),h];simp
 ·obtain ⟨k,hkk⟩:=ok_one hok (by omega);rw [L_rep (.inr h),h,hkk];simp only [E.L.headL,many_nil,E.nul.anyN];rw [hkk] at hk;simp [hk k (by simp)]
termination_by SizeOf.sizeOf e
decreasing_by exact E.kids_lt hk
def E.beh (a:ByteArray):E→List Rest
 |.mk op name kids=>
  if op=110 then (if name=a then [[]] else [])
  else if op=97 then altB kids
  else if op=115 then seqB kids
  else if op=63 then headB kids
  else (headB kids).map (·++[.mk 42 ⟨#[]⟩ kids])
where
 altB:List E→List Rest
 |[]=>[]
 |k::l=>k.beh a++altB l
 seqB:List E→List Rest
 |[]=>[]
 |k::l=>(k.beh a).map (·++l)++(if k.nul=true then seqB l else [])
 headB:List E→List Rest
 |[]=>[]
 |k::_=>k.beh a
theorem beh_eq (a:ByteArray)(e:E):e.beh a=if e.op=110 then (if e.name=a then [[]] else []) else if e.op=97 then E.beh.altB a e.kids else if e.op=115 then E.beh.seqB a e.kids else if e.op=63 then E.beh.headB a e.kids
 else (E.beh.headB a e.kids).map (·++[.mk 42 ⟨#[]⟩ e.kids]):=by
 obtain ⟨o,n,k⟩:=e;rw [E.beh];rfl
def stepR (a:ByteArray)(r:Rest):List Rest:=E.beh.seqB a r
def nulR (r:Rest):Bool:=E.nul.allN r
theorem many_cons {p:Row→Prop}{a:ByteArray}{w:Row}:Many p (a::w)↔∃u v,w=u++v∧p (a::u)∧(v = []∨Many p v):=by
 constructor
 ·intro h;have key:∀x,Many p x→∀w,x=a::w→∃u v,w=u++v∧p (a::u)∧(v = []∨Many p v):=by
   intro x hx;induction hx with
   |one h=>intro w e;exact ⟨w,[],by simp,e ▸ h,.inl rfl⟩
   | @more u v h' hm ih=>
     intro w e;cases u with
     |nil=>exact ih w e
     |cons c u=>
      rw [List.cons_append,List.cons.injEq] at e;obtain ⟨rfl,rfl⟩:=e;exact ⟨u,v,rfl,h',.inr hm⟩
  exact key _ h w rfl
 ·rintro ⟨u,v,rfl,h1,rfl|h2⟩
  ·rw [List.append_nil];exact .one h1
  ·exact .more h1 h2
theorem seqB_L (a:ByteArray):∀(l:List E),(∀k∈l,k.ok=true∧∀w,(k.L (a::w)↔∃r∈k.beh a,restL r w))→∀w,restL l (a::w)↔∃r∈E.beh.seqB a l,restL r w
 |[],_,w=>by simp [restL_nil,E.beh.seqB]
 |k::l,h,w=>by
  obtain ⟨hk,hL⟩:=h k (by simp);have ih:=seqB_L a l (fun x hx=>h x (by simp [hx]));simp only [restL_cons,E.beh.seqB,List.mem_append,List.mem_map];constructor
  ·rintro ⟨u,v,h1,h2,h3⟩
   cases u with
   |nil=>
    rw [List.nil_append] at h1;subst h1;obtain ⟨r,hr,hw⟩:=(ih w).1 h3;exact ⟨r,.inr (by rw [if_pos ((nul_iff k hk).2 h2)];exact hr),hw⟩
   |cons c u=>
    rw [List.cons_append,List.cons.injEq] at h1;obtain ⟨rfl,rfl⟩:=h1;obtain ⟨r,hr,hw⟩:=(hL u).1 h2;exact ⟨r++l,.inl ⟨r,hr,rfl⟩,(restL_append r l _).2 ⟨u,v,rfl,hw,h3⟩⟩
  ·rintro ⟨r,⟨s,hs,rfl⟩|hr,hw⟩
   ·obtain ⟨u,v,rfl,h1,h2⟩:=(restL_append s l _).1 hw;exact ⟨a::u,v,rfl,(hL u).2 ⟨s,hs,h1⟩,h2⟩
   ·split at hr
    ·rename_i hn;exact ⟨[],a::w,rfl,(nul_iff k hk).1 hn,(ih w).2 ⟨r,hr,hw⟩⟩
    ·cases hr
theorem beh_L (a:ByteArray)(e:E)(hok:e.ok=true)(w:Row):e.L (a::w)↔∃r∈e.beh a,restL r w:=by
 have hk:∀k∈e.kids,k.ok=true∧∀w,(k.L (a::w)↔∃r∈k.beh a,restL r w):=fun k hk=>⟨ok_kid hok hk,beh_L a k (ok_kid hok hk)⟩;have hA:∀l:List E,(∀k∈l,∀w,(k.L (a::w)↔∃r∈k.beh a,restL r w))→(E.L.altL l (a::w)↔∃r∈E.beh.altB a l,restL r w):=by
  intro l;induction l with
  |nil=>intro _;simp [E.L.altL,E.beh.altB]
  |cons k l ih=>
   intro h;simp only [E.L.altL,E.beh.altB,List.mem_append,h k (by simp) w,ih fun x hx=>h x (by simp [hx])];constructor
   ·rintro (⟨r,h1,h2⟩|⟨r,h1,h2⟩)
    ·exact ⟨r,.inl h1,h2⟩
    ·exact ⟨r,.inr h1,h2⟩
   ·rintro ⟨r,h1|h1,h2⟩
    ·exact .inl ⟨r,h1,h2⟩
    ·exact .inr ⟨r,h1,h2⟩
 rw [beh_eq];rcases ok_cases hok with h|h|h|h|h|h
 ·rw [L_one h,h,if_pos rfl];split
  ·rename_i hn;simp [restL_nil,hn]
  ·rename_i hn;have hn':¬a=e.name:=fun h=>hn h.symm;simp [hn']
 ·rw [L_alt h,h];simpa using hA _ fun k hk'=>(hk k hk').2
 ·rw [L_seq h,h];simpa [restL] using seqB_L a _ hk w
 ·obtain ⟨k,hkk⟩:=ok_one hok (by omega);rw [hkk] at hk;rw [L_opt h,h,hkk];simp only [E.L.headL,E.beh.headB];simpa using (hk k (by simp)).2 w
 all_goals
  obtain ⟨k,hkk⟩:=ok_one hok (by omega);rw [hkk] at hk;rw [L_rep (by omega),h,hkk];simp only [E.L.headL,E.beh.headB];simp only [reduceCtorEq,and_false,false_or,many_cons];simp only [show ¬((42:Int)=110) from by decide,show ¬((42:Int)=97) from by decide,show ¬((42:Int)=115) from by decide,show ¬((42:Int)=63) from by decide,show ¬((43:Int)=110) from by decide,show ¬((43:Int)=97) from by decide,show ¬((43:Int)=115) from by decide,show ¬((43:Int)=63) from by decide,if_false,List.mem_map];constructor
  ·rintro ⟨u,v,rfl,h1,h2⟩
   obtain ⟨r,hr,hw⟩:=((hk k (by simp)).2 u).1 h1;refine ⟨_,⟨r,hr,rfl⟩,(restL_append r _ _).2 ⟨u,v,rfl,hw,(restL_one _ _).2 ?_⟩⟩;rw [L_rep (.inl rfl)];simpa [E.op,E.kids,E.L.headL] using h2
  ·rintro ⟨_,⟨r,hr,rfl⟩,hw⟩
   obtain ⟨u,v,rfl,h1,h2⟩:=(restL_append r _ _).1 hw;refine ⟨u,v,rfl,((hk k (by simp)).2 u).2 ⟨r,hr,h1⟩,?_⟩;rw [restL_one,L_rep (.inl rfl)] at h2;simpa [E.op,E.kids,E.L.headL] using h2
termination_by SizeOf.sizeOf e
decreasing_by all_goals exact E.kids_lt hk
theorem stepR_L (a:ByteArray)(r:Rest)(h:∀k∈r,k.ok=true)(w:Row):restL r (a::w)↔∃s∈stepR a r,restL s w:=seqB_L a r (fun k hk=>⟨h k hk,beh_L a k (h k hk)⟩) w
theorem nulR_iff (r:Rest)(h:∀k∈r,k.ok=true):nulR r=true↔restL r []:=by
 unfold nulR restL;induction r with
 |nil=>simp [E.nul.allN,E.L.seqL]
 |cons k l ih=>
  simp only [E.nul.allN,E.L.seqL,Bool.and_eq_true,nul_iff k (h k (by simp)),ih fun x hx=>h x (by simp [hx])];constructor
  ·exact fun ⟨a,b⟩=>⟨[],[],rfl,a,b⟩
  ·rintro ⟨u,v,h1,a,b⟩
   obtain ⟨rfl,rfl⟩:=List.append_eq_nil_iff.1 h1.symm;exact ⟨a,b⟩
structure Post (s t:St):Prop where
 size:t.left.size≤s.left.size
 many:s.many≤t.many
 good:t.bad=false→t.many≤48
theorem Post.trans {a b c:St}(h:Post a b)(k:Post b c):Post a c:=⟨Nat.le_trans k.size h.size,Int.le_trans h.many k.many,k.good⟩
theorem cutPre_le (s p:ByteArray):(cutPre s p).size≤s.size:=by
 unfold cutPre;split
 ·simp [ByteArray.size_extract]
 ·exact Nat.le_refl _
theorem Post.cut {a b:St}(h:Post a b)(sign:ByteArray):Post a (b.cut sign):=⟨Nat.le_trans (cutPre_le _ _) h.size,h.many,h.good⟩
structure Ready (k:Nat) (s:St):Prop where
 bad:s.bad=false
 many:0≤s.many
 few:s.many≤48
 fuel:49≤s.many+k
 size:s.left.size≤1000000000
theorem Ready.post {k:Nat}{s t:St}(h:Ready k s)(p:Post s t)(hb:t.bad=false):Ready k t:=⟨hb,by have:=p.many;have:=h.many;omega,p.good hb,by have:=p.many;have:=h.fuel;omega,Nat.le_trans p.size h.size⟩
theorem Ready.refl {k:Nat}{s:St}(h:Ready k s):Post s s:=⟨Nat.le_refl _,Int.le_refl _,fun _=>h.few⟩
theorem Ready.cut {k:Nat}{s:St}(h:Ready k s)(sign:ByteArray):Ready k (s.cut sign):=h.post (h.refl.cut sign) h.bad
theorem rounds_post {read:St→E × St}{k:Nat}(hp:∀s,Ready k s→Post s (read s).2)(sign:ByteArray):∀(n:Nat) (l:List E) (s0 s:St),Ready k s0→Post s0 s→Post s0 (rounds read sign n l s).2
 |0,l,s0,s,h0,h=>h
 |n+1,l,s0,s,h0,h=>by
  simp only [rounds];split
  ·exact h
  ·rename_i hb;have hr:=(h0.post h (by simpa using hb)).cut sign;split
   ·exact rounds_post hp sign n _ s0 _ h0 ((h.cut sign).trans (hp _ hr))
   ·exact h.cut sign
theorem several_post {read:St→E × St}{k:Nat}(hp:∀s,Ready k s→Post s (read s).2)(op:Int)(sign:ByteArray)(s:St)(h:Ready k s):Post s (several read op sign s).2:=by
 unfold several;exact rounds_post hp sign _ _ s _ h (hp s h)
theorem sfx_post (e:E):∀(l:List Int) (s0 s:St),Post s0 s→Post s0 (sfx e l s).2
 |[],s0,s,h=>h
 |o::l,s0,s,h=>by
  simp only [sfx];split
  ·exact h.cut _
  ·exact sfx_post e l s0 _ (h.cut _)
theorem baseF_post {tl:ByteArray→ByteArray}(htl:∀s,(tl s).size≤s.size){alt:St→E × St}{k:Nat}(ha:∀s,Ready k s→Post s (alt s).2)(s:St)(h:Ready k s):Post s (baseF tl alt s).2:=by
 unfold baseF;split
 ·exact h.refl.cut _
 ·dsimp only;split
  ·have hr:=(h.cut ⟨#[40,41]⟩).cut ⟨#[40]⟩;have hp:=ha _ hr;have h1:=(h.refl.cut ⟨#[40,41]⟩).cut ⟨#[40]⟩;have h2:=h1.trans hp;refine ⟨Nat.le_trans (cutPre_le _ _) h2.size,h2.many,fun hb=>h2.good ?_⟩;simp at hb;exact hb.2
  ·have h1:=(h.refl.cut ⟨#[40,41]⟩).cut ⟨#[40]⟩;exact ⟨Nat.le_trans (htl _) h1.size,h1.many,h1.good⟩
def itemN (tl:ByteArray→ByteArray):Nat→St→E × St
 |0,s=>(E.none,s)
 |k+1,s=>itemF tl (several (several (itemN tl k) 115 ⟨#[32]⟩) 97 ⟨#[124]⟩) s
theorem itemN_post {tl:ByteArray→ByteArray}(htl:∀s,(tl s).size≤s.size):∀(k:Nat) (s:St),Ready k s→Post s (itemN tl k s).2
 |0,s,h=>by have:=h.fuel;have:=h.few;omega
 |k+1,s,h=>by
  simp only [itemN,itemF];have hw:=wr64 (s.many+1) (by have:=h.many;have:=h.few;omega);split
  ·exact ⟨Nat.le_refl _,by simp only [hw];omega,fun hb=>by cases hb⟩
  ·rename_i h48;rw [hw] at h48 ⊢;have hr:Ready k { s with many:=s.many+1 }:=⟨h.bad,by have:=h.many;simp;omega,by simp;omega,by have:=h.fuel;simp;omega,h.size⟩;have hb:=baseF_post htl (fun q hq=>several_post (fun q hq=>several_post (itemN_post htl k) 115 ⟨#[32]⟩ q hq) 97 ⟨#[124]⟩ q hq) _ hr;have h0:Post s { s with many:=s.many+1 }:=⟨Nat.le_refl _,by simp;omega,fun _=>by simp;omega⟩;exact sfx_post _ _ s _ (h0.trans hb)
theorem readers (Gl:Granted)(tl:ByteArray→ByteArray)(h99:∀s,Fun Tryz.prog Gl 295 [vS s,vS lowS] [] (vS (tl s)) [])(htl:∀s,(tl s).size≤s.size):∀(k:Nat) (s:St),Ready k s→
 Fun Tryz.prog Gl 276 [.ptr (.arg 0) 0] [some s.b] (itemN tl k s).1.av [some (itemN tl k s).2.b]
 |0,s,h=>by have:=h.fuel;have:=h.few;omega
 |k+1,s,h=>by
  have hw:=wr64 (s.many+1) (by have:=h.many;have:=h.few;omega);have hseq:∀q,Ready k q→Fun Tryz.prog Gl 242 [.ptr (.arg 0) 0] [some q.b] (several (itemN tl k) 115 ⟨#[32]⟩ q).1.av [some (several (itemN tl k) 115 ⟨#[32]⟩ q).2.b]:=fun q hq=>
   f54 Gl (itemN tl k) (Ready k) (readers Gl tl h99 htl k) (fun q hq=>(itemN_post htl k q hq).size) (fun q hq hb=>hq.post (itemN_post htl k q hq) hb) (fun q sign hq _=>hq.cut sign) q hq hq.size
  have hp:∀q,Ready k q→Post q (several (itemN tl k) 115 ⟨#[32]⟩ q).2:=fun q hq=>several_post (itemN_post htl k) 115 ⟨#[32]⟩ q hq;exact f82 Gl tl h99 htl (several (several (itemN tl k) 115 ⟨#[32]⟩) 97 ⟨#[124]⟩) s h.size fun r hm hb hsz h48=>by
   have hr:Ready k r:=⟨by rw [hb];exact h.bad,by rw [←hm,hw];have:=h.many;omega,by omega,by rw [←hm,hw];have:=h.fuel;simp at this;omega,Nat.le_trans hsz h.size⟩;exact f28 Gl _ (Ready k) hseq (fun q hq=>(hp q hq).size) (fun q hq hb=>hq.post (hp q hq) hb) (fun q sign hq _=>hq.cut sign) r hr hr.size
def altN (tl:ByteArray→ByteArray)(s:St):E × St:=several (several (itemN tl 49) 115 ⟨#[32]⟩) 97 ⟨#[124]⟩ s
theorem f28_start (Gl:Granted)(tl:ByteArray→ByteArray)(h99:∀s,Fun Tryz.prog Gl 295 [vS s,vS lowS] [] (vS (tl s)) [])(htl:∀s,(tl s).size≤s.size)(s:St)(h:Ready 49 s) :
 Fun Tryz.prog Gl 193 [.ptr (.arg 0) 0] [some s.b] (altN tl s).1.av [some (altN tl s).2.b]:=by
 have hseq:∀q,Ready 49 q→Fun Tryz.prog Gl 242 [.ptr (.arg 0) 0] [some q.b] (several (itemN tl 49) 115 ⟨#[32]⟩ q).1.av [some (several (itemN tl 49) 115 ⟨#[32]⟩ q).2.b]:=fun q hq=>
  f54 Gl (itemN tl 49) (Ready 49) (readers Gl tl h99 htl 49) (fun q hq=>(itemN_post htl 49 q hq).size) (fun q hq hb=>hq.post (itemN_post htl 49 q hq) hb) (fun q sign hq _=>hq.cut sign) q hq hq.size
 have hp:∀q,Ready 49 q→Post q (several (itemN tl 49) 115 ⟨#[32]⟩ q).2:=fun q hq=>several_post (itemN_post htl 49) 115 ⟨#[32]⟩ q hq;exact f28 Gl _ (Ready 49) hseq (fun q hq=>(hp q hq).size) (fun q hq hb=>hq.post (hp q hq) hb) (fun q sign hq _=>hq.cut sign) s h h.size
def again (kids:List E):E:=.mk 42 ⟨#[]⟩ kids
def E.pdy (y:ByteArray):E→List Rest
 |.mk op name kids=>
  if op=110 then (if name=y then [[]] else [])
  else if op=97 then altP kids
  else if op=115 then seqP kids
  else if op=63 then headP kids
  else (headP kids).map (·++[.mk 42 ⟨#[]⟩ kids])
where
 altP:List E→List Rest
 |[]=>[]
 |k::l=>k.pdy y++altP l
 seqP:List E→List Rest
 |[]=>[]
 |k::l=>(k.pdy y).map (·++l)++seqP l
 headP:List E→List Rest
 |[]=>[]
 |k::_=>k.pdy y
theorem pdy_eq (y:ByteArray)(e:E):e.pdy y=if e.op=110 then (if e.name=y then [[]] else []) else if e.op=97 then E.pdy.altP y e.kids else if e.op=115 then E.pdy.seqP y e.kids else if e.op=63 then E.pdy.headP y e.kids
 else (E.pdy.headP y e.kids).map (·++[again e.kids]):=by
 obtain ⟨o,n,k⟩:=e;rw [E.pdy];rfl
def E.leaves:E→Nat
 |.mk op _ kids=>if op=110 then 1 else go kids
where go:List E→Nat
 |[]=>0
 |k::l=>k.leaves+go l
theorem leaves_eq (e:E):e.leaves=if e.op=110 then 1 else E.leaves.go e.kids:=by
 obtain ⟨o,n,k⟩:=e;rw [E.leaves];rfl
theorem leaves_le (e:E):e.leaves≤e.cnt∧(e.op=110∨e.leaves+1≤e.cnt):=by
 have hk:∀l:List E,(∀k∈l,k.leaves≤k.cnt)→E.leaves.go l≤(l.map E.cnt).sum:=by
  intro l;induction l with
  |nil=>intro _;simp [E.leaves.go]
  |cons x l ih=>
   intro h;have h1:=h x (by simp);have h2:=ih fun y hy=>h y (by simp [hy]);simp [E.leaves.go];omega
 have:=hk e.kids fun k hk=>(leaves_le k).1;rw [leaves_eq,cnt_eq];split<;>omega
termination_by SizeOf.sizeOf e
decreasing_by exact E.kids_lt hk
theorem stepR_append (a:ByteArray)(r s:Rest):stepR a (r++s)=(stepR a r).map (·++s)++(if nulR r=true then stepR a s else []):=by
 unfold stepR nulR;induction r with
 |nil=>simp [E.beh.seqB,E.nul.allN]
 |cons k r ih=>
  simp only [List.cons_append,E.beh.seqB,E.nul.allN,ih];by_cases hk:k.nul=true
  ·simp [hk]
  ·simp [hk]
theorem stepR_one (a:ByteArray)(e:E):stepR a [e]=e.beh a:=by
 unfold stepR;simp [E.beh.seqB]
theorem beh_again (a:ByteArray)(kids:List E):(again kids).beh a=(E.beh.headB a kids).map (·++[again kids]):=by
 rw [beh_eq];rfl
section
variable (y:ByteArray)
theorem seqB_sub (l:List E)(h:∀k∈l,∀r∈k.beh y,r∈k.pdy y):∀r∈E.beh.seqB y l,r∈E.pdy.seqP y l:=by
 induction l with
 |nil=>intro r hr;cases hr
 |cons k l ih=>
  intro r hr;simp only [E.beh.seqB,List.mem_append,List.mem_map] at hr;simp only [E.pdy.seqP,List.mem_append,List.mem_map];rcases hr with ⟨s,hs,rfl⟩|hr
  ·exact .inl ⟨s,h k (by simp) s hs,rfl⟩
  ·split at hr
   ·exact .inr (ih (fun x hx=>h x (by simp [hx])) r hr)
   ·cases hr
theorem beh_sub (e:E):∀r∈e.beh y,r∈e.pdy y:=by
 have hk:∀k∈e.kids,∀r∈k.beh y,r∈k.pdy y:=fun k hk=>beh_sub k;have hA:∀l:List E,(∀k∈l,∀r∈k.beh y,r∈k.pdy y)→∀r∈E.beh.altB y l,r∈E.pdy.altP y l:=by
  intro l;induction l with
  |nil=>intro _ r hr;cases hr
  |cons k l ih=>
   intro h r hr;simp only [E.beh.altB,List.mem_append] at hr;simp only [E.pdy.altP,List.mem_append];rcases hr with hr|hr
   ·exact .inl (h k (by simp) r hr)
   ·exact .inr (ih (fun x hx=>h x (by simp [hx])) r hr)
 have hH:∀l:List E,(∀k∈l,∀r∈k.beh y,r∈k.pdy y)→∀r∈E.beh.headB y l,r∈E.pdy.headP y l:=by
  intro l h r hr;cases l with
  |nil=>cases hr
  |cons k l=>exact h k (by simp) r hr
 intro r hr;rw [beh_eq] at hr;rw [pdy_eq];by_cases h1:e.op=110
 ·rw [if_pos h1] at hr ⊢;exact hr
 ·rw [if_neg h1] at hr ⊢;by_cases h2:e.op=97
  ·rw [if_pos h2] at hr ⊢;exact hA _ hk r hr
  ·rw [if_neg h2] at hr ⊢;by_cases h3:e.op=115
   ·rw [if_pos h3] at hr ⊢;exact seqB_sub y _ hk r hr
   ·rw [if_neg h3] at hr ⊢;by_cases h4:e.op=63
    ·rw [if_pos h4] at hr ⊢;exact hH _ hk r hr
    ·rw [if_neg h4] at hr ⊢;obtain ⟨s,hs,rfl⟩:=List.mem_map.1 hr;exact List.mem_map.2 ⟨s,hH _ hk s hs,rfl⟩
termination_by SizeOf.sizeOf e
decreasing_by exact E.kids_lt hk
theorem pdy_closed (z:ByteArray)(e:E):∀r∈e.pdy z,∀s∈stepR y r,s∈e.pdy y:=by
 have hk:∀k∈e.kids,∀r∈k.pdy z,∀s∈stepR y r,s∈k.pdy y:=fun k hk=>pdy_closed z k;have hA:∀l:List E,(∀k∈l,∀r∈k.pdy z,∀s∈stepR y r,s∈k.pdy y)→∀r∈E.pdy.altP z l,∀s∈stepR y r,s∈E.pdy.altP y l:=by
  intro l;induction l with
  |nil=>intro _ r hr;cases hr
  |cons k l ih=>
   intro h r hr s hs;simp only [E.pdy.altP,List.mem_append] at hr ⊢;rcases hr with hr|hr
   ·exact .inl (h k (by simp) r hr s hs)
   ·exact .inr (ih (fun x hx=>h x (by simp [hx])) r hr s hs)
 have hS:∀l:List E,(∀k∈l,∀r∈k.pdy z,∀s∈stepR y r,s∈k.pdy y)→∀r∈E.pdy.seqP z l,∀s∈stepR y r,s∈E.pdy.seqP y l:=by
  intro l;induction l with
  |nil=>intro _ r hr;cases hr
  |cons k l ih=>
   intro h r hr s hs;simp only [E.pdy.seqP,List.mem_append,List.mem_map] at hr ⊢;rcases hr with ⟨t,ht,rfl⟩|hr
   ·rw [stepR_append,List.mem_append,List.mem_map] at hs;rcases hs with ⟨q,hq,rfl⟩|hs
    ·exact .inl ⟨q,h k (by simp) t ht q hq,rfl⟩
    ·split at hs
     ·exact .inr (seqB_sub y l (fun x hx=>beh_sub y x) s hs)
     ·cases hs
   ·exact .inr (ih (fun x hx=>h x (by simp [hx])) r hr s hs)
 have hH:∀l:List E,(∀k∈l,∀r∈k.pdy z,∀s∈stepR y r,s∈k.pdy y)→∀r∈E.pdy.headP z l,∀s∈stepR y r,s∈E.pdy.headP y l:=by
  intro l h r hr s hs;cases l with
  |nil=>cases hr
  |cons k l=>exact h k (by simp) r hr s hs
 intro r hr s hs;rw [pdy_eq] at hr ⊢;by_cases h1:e.op=110
 ·rw [if_pos h1] at hr ⊢;split at hr
  ·simp at hr;subst hr;cases hs
  ·cases hr
 ·rw [if_neg h1] at hr ⊢;by_cases h2:e.op=97
  ·rw [if_pos h2] at hr ⊢;exact hA _ hk r hr s hs
  ·rw [if_neg h2] at hr ⊢;by_cases h3:e.op=115
   ·rw [if_pos h3] at hr ⊢;exact hS _ hk r hr s hs
   ·rw [if_neg h3] at hr ⊢;by_cases h4:e.op=63
    ·rw [if_pos h4] at hr ⊢;exact hH _ hk r hr s hs
    ·rw [if_neg h4] at hr ⊢;obtain ⟨t,ht,rfl⟩:=List.mem_map.1 hr;rw [stepR_append,List.mem_append,List.mem_map] at hs;rcases hs with ⟨q,hq,rfl⟩|hs
     ·exact List.mem_map.2 ⟨q,hH _ hk t ht q hq,rfl⟩
     ·split at hs
      ·rw [stepR_one,beh_again] at hs;obtain ⟨q,hq,rfl⟩:=List.mem_map.1 hs;refine List.mem_map.2 ⟨q,?_,rfl⟩;revert hq;generalize e.kids=l;intro hq;cases l with
       |nil=>cases hq
       |cons k l=>exact beh_sub y k q hq
      ·cases hs
termination_by SizeOf.sizeOf e
decreasing_by exact E.kids_lt hk
end
theorem again_ok {e:E}(h:e.ok=true)(h1:e.op=42∨e.op=43):(again e.kids).ok=true∧(again e.kids).cnt=e.cnt:=by
 constructor
 ·rcases E.ok_ops h with ⟨g,_⟩|⟨g,_⟩|⟨g,_⟩|⟨_,_,x,g,gs⟩
  ·omega
  ·omega
  ·omega
  ·have hx:=E.ok_kids h (by omega) x (by rw [g];simp);have hx42:¬x.op=42:=by
    intro e;simp [E.suffix,e] at gs
   rw [g,again,E.ok_eq];have e1:(E.mk 42 ⟨#[]⟩ [x]).op=42:=rfl;have e2:(E.mk 42 ⟨#[]⟩ [x]).name=⟨#[]⟩:=rfl;have e3:(E.mk 42 ⟨#[]⟩ [x]).kids = [x]:=rfl;simp [e1,e2,e3,gs,hx.1,hx42]
 ·rw [cnt_eq,cnt_eq e];rfl
theorem pdy_ok (y:ByteArray)(e:E)(hok:e.ok=true):∀r∈e.pdy y,r.length≤e.cnt∧∀k∈r,k.ok=true∧k.cnt≤e.cnt:=by
 have hk:∀k∈e.kids,∀r∈k.pdy y,r.length≤k.cnt∧∀x∈r,x.ok=true∧x.cnt≤k.cnt:=fun k hk=>pdy_ok y k (ok_kid hok hk);have hsum:∀l:List E,l.length≤(l.map E.cnt).sum:=fun l=>by
  induction l with
  |nil=>simp
  |cons x l ih=>have:1≤x.cnt:=(by rw [cnt_eq];omega);simp;omega
 have hmem:∀(l:List E) (x:E),x∈l→x.cnt≤(l.map E.cnt).sum:=fun l x=>by
  induction l with
  |nil=>intro h;cases h
  |cons z l ih=>
   intro h;rcases List.mem_cons.1 h with rfl|h
   ·simp
   ·have:=ih h;simp;omega
 have hA:∀l:List E,(∀k∈l,k.ok=true∧∀r∈k.pdy y,r.length≤k.cnt∧∀x∈r,x.ok=true∧x.cnt≤k.cnt)→∀r∈E.pdy.altP y l,r.length≤(l.map E.cnt).sum∧∀x∈r,x.ok=true∧x.cnt≤(l.map E.cnt).sum:=by
  intro l;induction l with
  |nil=>intro _ r hr;cases hr
  |cons k l ih=>
   intro h r hr;simp only [E.pdy.altP,List.mem_append] at hr;simp only [List.map_cons,List.sum_cons];rcases hr with hr|hr
   ·obtain ⟨h1,h2⟩:=(h k (by simp)).2 r hr;exact ⟨by omega,fun x hx=>⟨(h2 x hx).1,by have:=(h2 x hx).2;omega⟩⟩
   ·obtain ⟨h1,h2⟩:=ih (fun x hx=>h x (by simp [hx])) r hr;exact ⟨by omega,fun x hx=>⟨(h2 x hx).1,by have:=(h2 x hx).2;omega⟩⟩
 have hS:∀l:List E,(∀k∈l,k.ok=true∧∀r∈k.pdy y,r.length≤k.cnt∧∀x∈r,x.ok=true∧x.cnt≤k.cnt)→∀r∈E.pdy.seqP y l,r.length≤(l.map E.cnt).sum∧∀x∈r,x.ok=true∧x.cnt≤(l.map E.cnt).sum:=by
  intro l;induction l with
  |nil=>intro _ r hr;cases hr
  |cons k l ih=>
   intro h r hr;simp only [E.pdy.seqP,List.mem_append,List.mem_map] at hr;simp only [List.map_cons,List.sum_cons];rcases hr with ⟨s,hs,rfl⟩|hr
   ·obtain ⟨h1,h2⟩:=(h k (by simp)).2 s hs;have h3:=hsum l;refine ⟨by rw [List.length_append];omega,fun x hx=>?_⟩;rcases List.mem_append.1 hx with hx|hx
    ·exact ⟨(h2 x hx).1,by have:=(h2 x hx).2;omega⟩
    ·exact ⟨(h x (by simp [hx])).1,by have:=hmem l x hx;omega⟩
   ·obtain ⟨h1,h2⟩:=ih (fun x hx=>h x (by simp [hx])) r hr;exact ⟨by omega,fun x hx=>⟨(h2 x hx).1,by have:=(h2 x hx).2;omega⟩⟩
 have hH:∀l:List E,(∀k∈l,k.ok=true∧∀r∈k.pdy y,r.length≤k.cnt∧∀x∈r,x.ok=true∧x.cnt≤k.cnt)→∀r∈E.pdy.headP y l,r.length≤(l.map E.cnt).sum∧∀x∈r,x.ok=true∧x.cnt≤(l.map E.cnt).sum:=by
  intro l h r hr;cases l with
  |nil=>cases hr
  |cons k l=>
   obtain ⟨h1,h2⟩:=(h k (by simp)).2 r hr;simp only [List.map_cons,List.sum_cons];exact ⟨by omega,fun x hx=>⟨(h2 x hx).1,by have:=(h2 x hx).2;omega⟩⟩
 have hkk:∀k∈e.kids,k.ok=true∧∀r∈k.pdy y,r.length≤k.cnt∧∀x∈r,x.ok=true∧x.cnt≤k.cnt:=fun k h=>⟨ok_kid hok h,hk k h⟩;have hce:=cnt_eq e;intro r hr;rw [pdy_eq] at hr;by_cases h1:e.op=110
 ·rw [if_pos h1] at hr;split at hr
  ·simp at hr;subst hr;exact ⟨by simp,fun k hk=>by cases hk⟩
  ·cases hr
 ·rw [if_neg h1] at hr;have fin:(r.length≤(e.kids.map E.cnt).sum∧∀x∈r,x.ok=true∧x.cnt≤(e.kids.map E.cnt).sum)→r.length≤e.cnt∧∀k∈r,k.ok=true∧k.cnt≤e.cnt:=
   fun ⟨a,b⟩=>⟨by omega,fun x hx=>⟨(b x hx).1,by have:=(b x hx).2;omega⟩⟩
  by_cases h2:e.op=97
  ·rw [if_pos h2] at hr;exact fin (hA _ hkk r hr)
  ·rw [if_neg h2] at hr;by_cases h3:e.op=115
   ·rw [if_pos h3] at hr;exact fin (hS _ hkk r hr)
   ·rw [if_neg h3] at hr;by_cases h4:e.op=63
    ·rw [if_pos h4] at hr;exact fin (hH _ hkk r hr)
    ·rw [if_neg h4] at hr;obtain ⟨s,hs,rfl⟩:=List.mem_map.1 hr;obtain ⟨a,b⟩:=hH _ hkk s hs;have hag:=again_ok hok (by rcases ok_cases hok with h|h|h|h|h|h<;>omega);refine ⟨by rw [List.length_append];simp;omega,fun x hx=>?_⟩;rcases List.mem_append.1 hx with hx|hx
     ·exact ⟨(b x hx).1,by have:=(b x hx).2;omega⟩
     ·simp at hx;subst hx;exact ⟨hag.1,by omega⟩
termination_by SizeOf.sizeOf e
decreasing_by exact E.kids_lt hk
theorem L_some (e:E)(hok:e.ok=true):∃w,e.L w:=by
 have hk:∀k∈e.kids,∃w,k.L w:=fun k hk=>L_some k (ok_kid hok hk);have hS:∀l:List E,(∀k∈l,∃w,k.L w)→∃w,E.L.seqL l w:=by
  intro l;induction l with
  |nil=>intro _;exact ⟨[],rfl⟩
  |cons k l ih=>
   intro h;obtain ⟨u,hu⟩:=h k (by simp);obtain ⟨v,hv⟩:=ih fun x hx=>h x (by simp [hx]);exact ⟨u++v,u,v,rfl,hu,hv⟩
 rcases ok_cases hok with h|h|h|h|h|h
 ·exact ⟨[e.name],by rw [L_one h]⟩
 ·rcases E.ok_ops hok with ⟨g,_⟩|⟨g,_⟩|⟨_,_,g⟩|⟨g,_⟩
  ·omega
  ·omega
  ·cases hl:e.kids with
   |nil=>rw [hl] at g;simp at g
   |cons k l=>
    obtain ⟨w,hw⟩:=hk k (by rw [hl];simp);exact ⟨w,by rw [L_alt h,hl];exact .inl hw⟩
  ·omega
 ·obtain ⟨w,hw⟩:=hS _ hk;exact ⟨w,by rw [L_seq h];exact hw⟩
 ·exact ⟨[],by rw [L_opt h];exact .inl rfl⟩
 ·exact ⟨[],by rw [L_rep (.inl h)];exact .inl ⟨h,rfl⟩⟩
 ·obtain ⟨k,hkk⟩:=ok_one hok (by omega);obtain ⟨w,hw⟩:=hk k (by rw [hkk];simp);exact ⟨w,by rw [L_rep (.inr h),hkk];exact .inr (.one hw)⟩
termination_by SizeOf.sizeOf e
decreasing_by exact E.kids_lt hk
theorem restL_some (r:Rest)(h:∀k∈r,k.ok=true):∃w,restL r w:=by
 induction r with
 |nil=>exact ⟨[],rfl⟩
 |cons k r ih=>
  obtain ⟨u,hu⟩:=L_some k (h k (by simp));obtain ⟨v,hv⟩:=ih fun x hx=>h x (by simp [hx]);exact ⟨u++v,u,v,rfl,hu,hv⟩
theorem ok_small (e:E)(hok:e.ok=true):e.small:=by
 have hk:∀k∈e.kids,k.small:=fun k hk=>ok_small k (ok_kid hok hk);have hn:=ok_name hok;obtain ⟨o,n,k⟩:=e;exact E.small_mk (by simp only [E.name] at hn;omega) hk
termination_by SizeOf.sizeOf e
decreasing_by exact E.kids_lt hk
structure Made (s:St) (e:E) (t:St):Prop where
 cnt:(e.cnt:Int)+1≤4*(t.many-s.many)
 top:t.many≤49
 small:e.small
structure MadeL (s:St) (l:List E) (t:St):Prop where
 cnt:(((l.map fun e=>e.cnt+1).sum:Nat):Int)≤4*(t.many-s.many)
 top:t.many≤49
 small:∀e∈l,e.small
 one:1≤l.length
theorem none_cnt:E.none.cnt=1:=rfl
theorem rounds_made {read:St→E × St}{k:Nat}(hp:∀s,Ready k s→Post s (read s).2)(hm:∀s,Ready k s→Made s (read s).1 (read s).2)(sign:ByteArray):∀(n:Nat) (l:List E) (s0 s:St),Ready k s0→Post s0 s→MadeL s0 l s→
 MadeL s0 (rounds read sign n l s).1 (rounds read sign n l s).2
 |0,l,s0,s,h0,h,hl=>hl
 |n+1,l,s0,s,h0,h,hl=>by
  simp only [rounds];split
  ·exact hl
  ·rename_i hb;have hr:=(h0.post h (by simpa using hb)).cut sign;split
   ·have q:=hm _ hr;refine rounds_made hp hm sign n _ s0 _ h0 ((h.cut sign).trans (hp _ hr)) ⟨?_,q.top,?_,by simp⟩
    ·have:=q.cnt;have:=hl.cnt;simp [St.cut] at *;omega
    ·intro e he;rcases List.mem_append.1 he with h|h
     ·exact hl.small e h
     ·simp at h;subst h;exact q.small
   ·exact ⟨hl.cnt,hl.top,hl.small,hl.one⟩
theorem sum_succ (l:List E):(l.map fun e=>e.cnt+1).sum=(l.map E.cnt).sum+l.length:=by
 induction l with
 |nil=>rfl
 |cons x l ih=>simp [ih];omega
theorem several_made {read:St→E × St}{k:Nat}(hp:∀s,Ready k s→Post s (read s).2)(hm:∀s,Ready k s→Made s (read s).1 (read s).2)(op:Int)(sign:ByteArray)(s:St)(h:Ready k s):Made s (several read op sign s).1 (several read op sign s).2:=by
 unfold several;have q:=hm s h;have hr:=rounds_made hp hm sign (s.left.size+1) [(read s).1] s (read s).2 h (hp s h) ⟨by have:=q.cnt;simpa using this,q.top,by simpa using q.small,by simp⟩;generalize rounds read sign (s.left.size+1) [(read s).1] (read s).2=R at hr;obtain ⟨l,t⟩:=R;dsimp only at hr ⊢;have hc:=hr.cnt;have ho:=hr.one
 match l,hr,hc,ho with
 |[],hr,_,ho=>simp at ho
 |[e],hr,hc,_=>exact ⟨by simpa using hc,hr.top,hr.small e (by simp)⟩
 |x::y::l,hr,hc,_=>
  refine ⟨?_,hr.top,E.small_mk (by decide) hr.small⟩;rw [sum_succ] at hc;rw [cnt_eq];show ((1+((x::y::l).map E.cnt).sum:Nat):Int)+1≤_;simp at hc ⊢;omega
theorem sfx_made (e:E)(s0:St)(hs:e.small):∀(l:List Int) (s:St),(e.cnt:Int)+2≤4*(s.many-s0.many)→s.many≤49→Made s0 (sfx e l s).1 (sfx e l s).2
 |[],s,h,ht=>⟨by simp only [sfx];omega,ht,hs⟩
 |o::l,s,h,ht=>by
  simp only [sfx];split
  ·refine ⟨?_,ht,E.small_mk (by decide) (by simpa using hs)⟩;rw [cnt_eq];simp [E.kids,St.cut];omega
  ·exact sfx_made e s0 hs l _ h ht
theorem itemN_made {tl:ByteArray→ByteArray}(htl:∀s,(tl s).size≤s.size):∀(k:Nat) (s:St),Ready k s→Made s (itemN tl k s).1 (itemN tl k s).2
 |0,s,h=>by have:=h.fuel;have:=h.few;omega
 |k+1,s,h=>by
  simp only [itemN,itemF];have hw:=wr64 (s.many+1) (by have:=h.many;have:=h.few;omega);have hf:=h.few;split
  ·exact ⟨by simp only [hw,none_cnt];omega,by simp only [hw];omega,E.small_mk (by decide) (by simp)⟩
  ·rename_i h48;rw [hw] at h48 ⊢;have hr:Ready k { s with many:=s.many+1 }:=⟨h.bad,by have:=h.many;simp;omega,by simp;omega,by have:=h.fuel;simp;omega,h.size⟩;have hseq:∀q,Ready k q→Post q (several (itemN tl k) 115 ⟨#[32]⟩ q).2:=fun q hq=>several_post (itemN_post htl k) 115 ⟨#[32]⟩ q hq;have hseqm:∀q,Ready k q→Made q (several (itemN tl k) 115 ⟨#[32]⟩ q).1 (several (itemN tl k) 115 ⟨#[32]⟩ q).2:=fun q hq=>several_made (itemN_post htl k) (itemN_made htl k) 115 ⟨#[32]⟩ q hq;have halt:=fun q hq=>several_made hseq hseqm 97 ⟨#[124]⟩ q hq;have key:(baseF tl (several (several (itemN tl k) 115 ⟨#[32]⟩) 97 ⟨#[124]⟩) { s with many:=s.many+1 }).1.small∧((baseF tl (several (several (itemN tl k) 115 ⟨#[32]⟩) 97 ⟨#[124]⟩) { s with many:=s.many+1 }).1.cnt:Int)+2≤4*((baseF tl (several (several (itemN tl k) 115 ⟨#[32]⟩) 97 ⟨#[124]⟩) { s with many:=s.many+1 }).2.many-s.many)∧(baseF tl (several (several (itemN tl k) 115 ⟨#[32]⟩) 97 ⟨#[124]⟩) { s with many:=s.many+1 }).2.many≤49:=by
    unfold baseF;split
    ·refine ⟨E.small_mk (by decide) (by simp),?_,?_⟩
     ·rw [cnt_eq];simp [E.kids,St.cut];omega
     ·simp [St.cut];omega
    ·dsimp only;split
     ·have hr2:=(hr.cut ⟨#[40,41]⟩).cut ⟨#[40]⟩;have hq:=halt _ hr2;have hc:=hq.cnt;simp [St.cut] at hc;refine ⟨hq.small,?_,hq.top⟩;simp [St.cut];omega
     ·refine ⟨E.small_mk ?_ (by simp),?_,?_⟩
      ·have:=((hr.cut ⟨#[40,41]⟩).cut ⟨#[40]⟩).size;simp [ByteArray.size_extract] at this ⊢;omega
      ·rw [cnt_eq];simp [E.kids,St.cut];omega
      ·simp [St.cut];omega
   exact sfx_made _ s key.1 _ _ key.2.1 key.2.2
theorem altN_made {tl:ByteArray→ByteArray}(htl:∀s,(tl s).size≤s.size)(s:St)(h:Ready 49 s):Made s (altN tl s).1 (altN tl s).2:=
 several_made (fun q hq=>several_post (itemN_post htl 49) 115 ⟨#[32]⟩ q hq) (fun q hq=>several_made (itemN_post htl 49) (itemN_made htl 49) 115 ⟨#[32]⟩ q hq) 97 ⟨#[124]⟩ s h
def E.print (e:E):ByteArray × Int:=if e.right=true then (e.text false,0) else (⟨#[]⟩,2)
theorem f17 (Gl:Granted)(e:E)(hs:e.small)(hc:e.cnt≤1000000):Fun Tryz.prog Gl 76 [e.av] [] (.tup [vS e.print.1,vI e.print.2]) []:=by
 refine fun_of (T:=T) (n:=9) (rs:=[.tmp 2,.tmp 3]) Tryz.func76 (by kernel_rfl) rfl rfl rfl tok mixed (by simp) fun C hC=>?_;refine hC.vc [] 60 ?_;simp [E.av,E.cells];refine hC.call [] (f18 Gl e hs) (by simp [E.av,E.cells]) ?_;refine hC.vc [] 60 ?_;cases hr:e.right with
 |false=>simp [E.print,hr]
 |true=>
  have hok:e.ok=true:=by simp [E.right] at hr;exact hr.2
  simp;refine hC.call [] (f31 Gl e false hok hc) (by simp [E.av,E.cells]) ?_;refine hC.vc [] 60 ?_;simp [E.print,hr]
def tl (s:ByteArray):ByteArray:=⟨(Lib.trimLeftS s.data.toList low.data.toList).toArray⟩
theorem tl_size (s:ByteArray):(tl s).size≤s.size:=by
 have:(s.data.toList.dropWhile (low.data.toList.contains ·)).length≤s.data.toList.length:=(List.dropWhile_sublist _).length_le;have e1:(tl s).size=(s.data.toList.dropWhile (low.data.toList.contains ·)).length:=List.size_toArray;have e2:s.size=s.data.toList.length:=Array.length_toList.symm;omega
def read (s:ByteArray):E × St:=altN tl ⟨s,false,0⟩
def parse (s:ByteArray):E × Int:=if (read s).2.bad=false∧(read s).2.left=⟨#[]⟩∧(read s).1.right=true∧(read s).1.text false=s then ((read s).1,0) else (E.none,2)
set_option maxRecDepth 20000 in
theorem f13 (Gl:Granted)(s:ByteArray)(hs:s.size≤1000000000):Fun Tryz.prog Gl 131 [vS s] [] (.tup [(parse s).1.av,vI (parse s).2]) []:=by
 have h0:Ready 49 ⟨s,false,0⟩:=⟨rfl,by simp,by simp,by simp,hs⟩;have hm:=altN_made tl_size _ h0;have hcnt:(read s).1.cnt≤1000000:=by
  have a:((altN tl ⟨s,false,0⟩).1.cnt:Int)+1≤4*((altN tl ⟨s,false,0⟩).2.many-0):=hm.cnt;have b:=hm.top;show (altN tl ⟨s,false,0⟩).1.cnt≤1000000;omega
 have hsm:(read s).1.small:=hm.small;have hp:parse s=if (read s).2.bad=false∧(read s).2.left=⟨#[]⟩∧(read s).1.right=true∧(read s).1.text false=s then ((read s).1,0) else (E.none,2):=rfl
 generalize parse s=pr at hp ⊢;subst hp;refine fun_of (T:=T) (n:=40) (rs:=[.cell 2 63,.tmp 3]) Tryz.func131 (by kernel_rfl) rfl rfl rfl tok mixed (by simp) fun C hC=>?_;refine hC.vc [] 60 ?_;simp;refine hC.call [.loc 10] (f28_start Gl tl (f99 Gl) tl_size ⟨s,false,0⟩ h0) (by simp [E.av,E.cells]) ?_;have hrd:altN tl ⟨s,false,0⟩=read s:=rfl;rw [hrd];generalize read s=R at hcnt hsm hC ⊢;obtain ⟨e,r⟩:=R;dsimp only at hcnt hsm hC ⊢;refine hC.vc [] 60 ?_;simp [E.av,E.cells];refine hC.call [] (f17 Gl e hsm hcnt) (by simp [E.av,E.cells]) ?_;refine hC.vc [] 60 ?_;cases hb:r.bad with
 |true=>simp [E.none,E.op,E.name,E.kids,E.av,E.cells]
 |false=>
  by_cases hl:r.left=⟨#[]⟩
  ·cases hr:e.right with
   |false=>simp [hl,E.print,hr,E.none,E.op,E.name,E.kids,E.av,E.cells]
   |true=>
    by_cases ht:e.text false=s
    ·simp [hl,E.print,hr,ht,E.av,E.cells]
    ·simp [hl,E.print,hr,ht,E.none,E.op,E.name,E.kids,E.av,E.cells]
  ·simp [hl,E.none,E.op,E.name,E.kids,E.av,E.cells]
section
variable {κ:Type} [DecidableEq κ]
def ixK (k:κ):List κ→Nat
 |[]=>0
 |x::l=>if x=k then 0 else ixK k l+1
theorem ixK_mem {k:κ}:∀ {l:List κ},k∈l→l[ixK k l]?=some k
 |[],h=>by cases h
 |x::l,h=>by
  simp only [ixK];split
  ·rename_i e;simp [e]
  ·rename_i e;rcases List.mem_cons.1 h with h|h
   ·exact absurd h.symm e
   ·simpa using ixK_mem h
theorem ixK_lt {k:κ}{l:List κ}(h:k∈l):ixK k l<l.length:=(List.getElem?_eq_some_iff.1 (ixK_mem h)).1
theorem ixK_not {k:κ}:∀ {l:List κ},k∉l→ixK k l=l.length
 |[],_=>rfl
 |x::l,h=>by
  simp only [List.mem_cons,not_or] at h;simp only [ixK,if_neg (fun e=>h.1 (Eq.symm e)),ixK_not h.2,List.length_cons]
end
theorem nodup_sub_len {α:Type}:∀(l m:List α),l.Nodup→(∀x∈l,x∈m)→l.length≤m.length
 |[],m,_,_=>by simp
 |x::l,m,h,hs=>by
  obtain ⟨h1,h2⟩:=List.nodup_cons.1 h;obtain ⟨a,b,rfl⟩:=List.append_of_mem (hs x (by simp));have:=nodup_sub_len l (a++b) h2 fun y hy=>by
   have hm:=hs y (by simp [hy]);have hne:y≠x:=fun e=>h1 (e ▸ hy);simp at hm ⊢;rcases hm with h|h|h
   ·exact .inl h
   ·exact absurd h hne
   ·exact .inr h
  simp at this ⊢;omega
theorem nodup_map {α β:Type}(f:α→β):∀(l:List α),l.Nodup→(∀x∈l,∀y∈l,f x=f y→x=y)→(l.map f).Nodup
 |[],_,_=>by simp
 |x::l,h,hf=>by
  obtain ⟨h1,h2⟩:=List.nodup_cons.1 h;rw [List.map_cons,List.nodup_cons];refine ⟨fun hm=>?_,nodup_map f l h2 fun a ha b hb=>hf a (by simp [ha]) b (by simp [hb])⟩;obtain ⟨y,hy,e⟩:=List.mem_map.1 hm;exact h1 (hf y (by simp [hy]) x (by simp) e ▸ hy)
def rowOrd:Int→List Int→Option Int
 |m,[]=>some m
 |m,t::l=>if t≤m+1∧-1≤t then rowOrd (max m t) l else none
def tabOrd:Nat→Int→List (List Int)→Option Int
 |_,m,[]=>some m
 |i,m,r::l=>if (i:Int)≤m then (rowOrd m r).bind fun m'=>tabOrd (i+1) m' l else none
theorem tabOrd_snoc (r:List Int):∀(l:List (List Int)) (i:Nat) (m:Int),tabOrd i m (l++[r])=(tabOrd i m l).bind fun m'=>if ((i+l.length:Nat):Int)≤m' then rowOrd m' r else none
 |[],i,m=>by simp only [List.nil_append,tabOrd,List.length_nil,Nat.add_zero,Option.bind_some];cases rowOrd m r<;>rfl
 |x::l,i,m=>by
  simp only [List.cons_append,tabOrd];split
  ·cases rowOrd m x with
   |none=>rfl
   |some m'=>
    simp only [Option.bind_some];rw [tabOrd_snoc r l (i+1) m'];have:i+1+l.length=i+(x::l).length:=(by simp;omega);rw [this]
  ·rfl
section
variable {σ κ:Type} (key:σ→κ)
def Says (all:List σ)(o:Option σ)(t:Int):Prop:=match o with
 |none=>t = -1
 |some s=>∃n:Nat,t=n∧(all.map key)[n]?=some (key s)
theorem Says.app {all m:List σ}{o:Option σ}{t:Int}(h:Says key all o t):Says key (all++m) o t:=by
 cases o with
 |none=>exact h
 |some s=>
  obtain ⟨n,e,hn⟩:=h;have hl:=(List.getElem?_eq_some_iff.1 hn).1;exact ⟨n,e,by rw [List.map_append,List.getElem?_append_left hl];exact hn⟩
section
variable (f:σ→List (Option σ)) (s0:σ)
structure Met (i:Nat) (all:List σ) (rows:List (List Int)):Prop where
 first:all[0]?=some s0
 nodup:(all.map key).Nodup
 many:(rows.length=i∧i≤all.length)∨(rows.length=all.length∧all.length≤i)
 row:∀(k:Nat) (s:σ) (r:List Int),all[k]?=some s→rows[k]?=some r→r.length=(f s).length∧∀(j:Nat) (o:Option σ) (t:Int),(f s)[j]?=some o→r[j]?=some t→Says key all o t
 ord:tabOrd 0 0 rows=some ((all.length:Int)-1)
 from':∀s∈all,s=s0∨∃p∈all,some s∈f p
theorem met_pos {i:Nat}{all:List σ}{rows:List (List Int)}(h:Met key f s0 i all rows):0<all.length:=(List.getElem?_eq_some_iff.1 h.first).1
end
variable [DecidableEq κ]
def rowK:List σ→List (Option σ)→List σ × List Int
 |all,[]=>(all,[])
 |all,none::l=>((rowK all l).1,-1::(rowK all l).2)
 |all,some s::l=>if key s∈all.map key then ((rowK all l).1,(ixK (key s) (all.map key):Int)::(rowK all l).2) else ((rowK (all++[s]) l).1,(all.length:Int)::(rowK (all++[s]) l).2)
theorem rowK_spec:∀(l:List (Option σ)) (all:List σ),(all.map key).Nodup→∃m,(rowK key all l).1=all++m∧((rowK key all l).1.map key).Nodup∧(∀s∈m,some s∈l)∧(rowK key all l).2.length=l.length∧
 (∀(j:Nat) (o:Option σ) (t:Int),l[j]?=some o→(rowK key all l).2[j]?=some t→Says key (rowK key all l).1 o t)∧rowOrd (all.length-1) (rowK key all l).2=some (((rowK key all l).1.length:Int)-1)
 |[],all,h=>⟨[],by simp [rowK],by simpa [rowK] using h,by simp,rfl,fun j o t h=>by simp at h,by simp [rowK,rowOrd]⟩
 |none::l,all,h=>by
  obtain ⟨m,h1,h2,h3,h4,h5,h6⟩:=rowK_spec l all h;refine ⟨m,h1,h2,fun s hs=>by simp [h3 s hs],by simp [rowK,h4],fun j o t hj ht=>?_,?_⟩
  ·cases j with
   |zero=>simp [rowK] at hj ht;subst hj ht;exact rfl
   |succ j=>simp [rowK] at hj ht;exact h5 j o t hj ht
  ·simp only [rowK,rowOrd];rw [if_pos ⟨by omega,by omega⟩,show max ((all.length:Int)-1) (-1)=all.length-1 by omega];exact h6
 |some s::l,all,h=>by
  by_cases hm:key s∈all.map key
  ·obtain ⟨m,h1,h2,h3,h4,h5,h6⟩:=rowK_spec l all h;have hix:=ixK_mem hm;have hil:ixK (key s) (all.map key)<all.length:=(by have:=ixK_lt hm;simpa using this);have e:rowK key all (some s::l)=((rowK key all l).1,(ixK (key s) (all.map key):Int)::(rowK key all l).2):=(by simp only [rowK,if_pos hm]);rw [e];refine ⟨m,h1,h2,fun s hs=>by simp [h3 s hs],by simp [h4],fun j o t hj ht=>?_,?_⟩
   ·cases j with
    |zero=>
     simp at hj ht;subst hj ht;rw [h1];exact Says.app key ⟨_,rfl,hix⟩
    |succ j=>simp at hj ht;exact h5 j o t hj ht
   ·simp only [rowOrd];rw [if_pos ⟨by omega,by omega⟩,show max ((all.length:Int)-1) (ixK (key s) (all.map key))=all.length-1 by omega];exact h6
  ·have hnd:((all++[s]).map key).Nodup:=by
    rw [List.map_append,List.map_cons,List.map_nil];refine List.nodup_append.2 ⟨h,by simp,fun a ha b hb=>?_⟩;simp at hb;subst hb;exact fun e=>hm (e ▸ ha)
   obtain ⟨m,h1,h2,h3,h4,h5,h6⟩:=rowK_spec l (all++[s]) hnd;have e:rowK key all (some s::l)=((rowK key (all++[s]) l).1,(all.length:Int)::(rowK key (all++[s]) l).2):=(by simp only [rowK,if_neg hm]);rw [e];refine ⟨s::m,by rw [h1];simp,h2,fun x hx=>?_,by simp [h4],fun j o t hj ht=>?_,?_⟩
   ·rcases List.mem_cons.1 hx with rfl|hx
    ·simp
    ·simp [h3 x hx]
   ·cases j with
    |zero=>
     simp at hj ht;subst hj ht;rw [h1];exact Says.app key ⟨_,rfl,by simp⟩
    |succ j=>simp at hj ht;exact h5 j o t hj ht
   ·simp only [rowOrd];rw [if_pos ⟨by omega,by omega⟩,show max ((all.length:Int)-1) all.length=((all++[s]).length:Int)-1 by simp;omega];exact h6
variable (f:σ→List (Option σ)) (s0:σ)
def met:Nat→List σ × List (List Int)
 |0=>([s0],[])
 |i+1=>match (met i).1[i]? with
  |none=>met i
  |some s=>((rowK key (met i).1 (f s)).1,(met i).2++[(rowK key (met i).1 (f s)).2])
theorem met_step {i:Nat}{all:List σ}{rows:List (List Int)}(h:Met key f s0 i all rows){s:σ}(hs:all[i]?=some s):Met key f s0 (i+1) (rowK key all (f s)).1 (rows++[(rowK key all (f s)).2]):=by
 have h0:=met_pos key f s0 h;have hil:=(List.getElem?_eq_some_iff.1 hs).1;have hri:rows.length=i:=by rcases h.many with h|h<;>omega
 obtain ⟨m,h1,h2,h3,h4,h5,h6⟩:=rowK_spec key (f s) all h.nodup;have hsm:s∈all:=List.mem_of_getElem? hs;refine { first:=?_,nodup:=h2,many:=.inl ⟨by simp [hri],?_⟩,row:=fun k x r hk hr=>?_,ord:=?_,from':=fun x hx=>?_ }
 ·rw [h1,List.getElem?_append_left h0];exact h.first
 ·rw [h1,List.length_append];omega
 ·by_cases hki:k<i
  ·have hka:k<all.length:=(by omega);rw [h1,List.getElem?_append_left hka] at hk;rw [List.getElem?_append_left (by omega)] at hr;obtain ⟨a,b⟩:=h.row k x r hk hr;refine ⟨a,fun j o t hj ht=>?_⟩;rw [h1];exact Says.app key (b j o t hj ht)
  ·have hk2:k=i:=by
    have:=(List.getElem?_eq_some_iff.1 hr).1;simp at this;omega
   subst hk2;rw [h1,List.getElem?_append_left hil,hs] at hk;rw [List.getElem?_append_right (by omega),hri] at hr;simp at hk hr;subst hk hr;exact ⟨h4,h5⟩
 ·rw [tabOrd_snoc,h.ord];simp only [Option.bind_some];rw [if_pos (by omega)];exact h6
 ·rw [h1] at hx;rcases List.mem_append.1 hx with hx|hx
  ·rcases h.from' x hx with e|⟨p,hp,hpx⟩
   ·exact .inl e
   ·exact .inr ⟨p,by rw [h1];simp [hp],hpx⟩
  ·exact .inr ⟨s,by rw [h1];simp [hsm],h3 x hx⟩
theorem met_is (i:Nat):Met key f s0 i (met key f s0 i).1 (met key f s0 i).2:=by
 induction i with
 |zero=>exact ⟨rfl,by simp [met],.inl ⟨rfl,by simp [met]⟩,fun k s r _ h=>by simp [met] at h,by simp [met,tabOrd],fun s hs=>.inl (by simpa [met] using hs)⟩
 |succ i ih=>
  simp only [met];cases hs:(met key f s0 i).1[i]? with
  |none=>
   have:=List.getElem?_eq_none_iff.1 hs;simp only;exact { ih with many:=.inr ⟨by rcases ih.many with h|h<;>omega,by omega⟩ }
  |some s=>exact met_step key f s0 ih hs
theorem met_end (i:Nat)(h:(met key f s0 i).1.length≤i)(k:Nat):met key f s0 (i+k)=met key f s0 i:=by
 induction k with
 |zero=>rfl
 |succ k ih=>
  show met key f s0 (i+k+1)=_;simp only [met];rw [ih,List.getElem?_eq_none (by omega)]
theorem met_all (P:σ→Prop)(h0:P s0)(hf:∀s,P s→∀t,some t∈f s→P t)(i:Nat):∀s∈(met key f s0 i).1,P s:=by
 induction i with
 |zero=>simp [met,h0]
 |succ i ih=>
  simp only [met];cases hs:(met key f s0 i).1[i]? with
  |none=>exact ih
  |some s=>
   have hi:=met_is key f s0 i;obtain ⟨m,h1,_,h3,_⟩:=rowK_spec key (f s) _ hi.nodup;simp only;rw [h1];intro x hx;rcases List.mem_append.1 hx with hx|hx
   ·exact ih x hx
   ·exact hf s (ih s (List.mem_of_getElem? hs)) x (h3 x hx)
end
structure Au where
 names:List ByteArray
 next:List (List Int)
 final:List Bool
def Au.stp (d:Au)(s:Int)(a:ByteArray):Int:=if s<0 then -1 else ((d.next[s.toNat]?).getD []).getD (ixK a d.names) (-1)
def Au.run (d:Au)(s:Int)(w:Row):Int:=w.foldl d.stp s
def Au.acc (d:Au)(s:Int):Bool:=decide (0≤s)&&d.final.getD s.toNat false
theorem run_nil (d:Au)(s:Int):d.run s []=s:=rfl
theorem run_cons (d:Au)(s:Int)(a:ByteArray)(w:Row):d.run s (a::w)=d.run (d.stp s a) w:=rfl
theorem run_append (d:Au)(s:Int)(u v:Row):d.run s (u++v)=d.run (d.run s u) v:=by simp [Au.run]
theorem stp_neg (d:Au){s:Int}(h:s<0)(a:ByteArray):d.stp s a = -1:=by simp [Au.stp,h]
theorem stp_not (d:Au)(s:Int){a:ByteArray}(h:a∉d.names)(hr:∀r∈d.next,r.length=d.names.length):d.stp s a = -1:=by
 unfold Au.stp;split
 ·rfl
 ·rw [ixK_not h];cases hn:d.next[s.toNat]? with
  |none=>simp
  |some r=>simp [hr r (List.mem_of_getElem? hn)]
structure Sem0 (d:Au) (L:Nat→Row→Prop):Prop where
 pos:0<d.next.length
 len:d.final.length=d.next.length
 row:∀r∈d.next,r.length=d.names.length
 fin:∀i,i<d.next.length→(d.final.getD i false=true↔L i [])
 step:∀i,i<d.next.length→∀a∈d.names,(d.stp i a = -1∧∀w,¬L i (a::w))∨∃m:Nat,d.stp i a=m∧m<d.next.length∧∀w,L i (a::w)↔L m w
 only:∀i,i<d.next.length→∀a w,L i (a::w)→a∈d.names
structure Sem (d:Au) (L:Nat→Row→Prop):Prop extends Sem0 d L where
 live:∀i,i<d.next.length→∃w,L i w
def LI (L:Nat→Row→Prop)(s:Int)(w:Row):Prop:=0≤s∧L s.toNat w
def Au.st (d:Au)(s:Int):Prop:=s = -1∨(0≤s∧s.toNat<d.next.length)
section
variable {d:Au} {L:Nat→Row→Prop} (h:Sem0 d L)
include h
theorem sem_step {s:Int}(hs:d.st s)(a:ByteArray):d.st (d.stp s a)∧∀w,LI L s (a::w)↔LI L (d.stp s a) w:=by
 rcases hs with rfl|⟨h0,hs⟩
 ·rw [stp_neg d (by decide)];exact ⟨.inl rfl,fun w=>Iff.rfl.trans ⟨fun h=>absurd h.1 (by decide),fun h=>absurd h.1 (by decide)⟩⟩
 ·have e:((s.toNat:Nat):Int)=s:=Int.toNat_of_nonneg h0;by_cases ha:a∈d.names
  ·rcases h.step s.toNat hs a ha with ⟨h1,h2⟩|⟨m,h1,h2,h3⟩
   ·rw [e] at h1;rw [h1];exact ⟨.inl rfl,fun w=>⟨fun q=>absurd q.2 (h2 w),fun q=>absurd q.1 (by decide)⟩⟩
   ·rw [e] at h1;rw [h1];refine ⟨.inr ⟨by omega,by simpa using h2⟩,fun w=>?_⟩;unfold LI;rw [h3 w];simp [h0]
  ·rw [stp_not d s ha h.row];exact ⟨.inl rfl,fun w=>⟨fun q=>absurd (h.only _ hs a w q.2) ha,fun q=>absurd q.1 (by decide)⟩⟩
theorem sem_run:∀(w:Row) {s:Int},d.st s→d.st (d.run s w)∧∀v,LI L s (w++v)↔LI L (d.run s w) v
 |[],s,hs=>⟨hs,fun v=>Iff.rfl⟩
 |a::w,s,hs=>by
  obtain ⟨h1,h2⟩:=sem_step h hs a;obtain ⟨h3,h4⟩:=sem_run w h1;exact ⟨h3,fun v=>(h2 (w++v)).trans (h4 v)⟩
theorem sem_acc {s:Int}(hs:d.st s):d.acc s=true↔LI L s []:=by
 unfold Au.acc LI;rcases hs with rfl|⟨h0,hs⟩
 ·simp
 ·have:=h.fin _ hs;simp only [Bool.and_eq_true,decide_eq_true_eq,this]
theorem st0:d.st 0:=.inr ⟨Int.le_refl _,h.pos⟩
theorem sem_has (w:Row):d.acc (d.run 0 w)=true↔L 0 w:=by
 obtain ⟨h1,h2⟩:=sem_run h w (st0 h);rw [sem_acc h h1,←h2 [],List.append_nil];exact ⟨fun q=>q.2,fun q=>⟨Int.le_refl _,q⟩⟩
end
theorem sem_dead {d:Au}{L:Nat→Row→Prop}(h:Sem d L){s:Int}(hs:d.st s)(hd:∀w,¬LI L s w):s = -1:=by
 rcases hs with rfl|⟨h0,hs⟩
 ·rfl
 ·obtain ⟨w,hw⟩:=h.live _ hs;exact absurd ⟨h0,hw⟩ (hd w)
structure Least (d:Au) (L:Nat→Row→Prop):Prop where
 sem:Sem d L
 apart:∀i j,i<d.next.length→j<d.next.length→(∀w,L i w↔L j w)→i=j
 ord:tabOrd 0 0 d.next=some ((d.next.length:Int)-1)
theorem least_eq {d:Au}{L:Nat→Row→Prop}(h:Least d L){s t:Int}(hs:d.st s)(ht:d.st t)(he:∀w,LI L s w↔LI L t w):s=t:=by
 by_cases h0:0≤s
 ·by_cases h1:0≤t
  ·have hs':s.toNat<d.next.length:=by rcases hs with rfl|hs;exact absurd h0 (by decide);exact hs.2
   have ht':t.toNat<d.next.length:=by rcases ht with rfl|ht;exact absurd h1 (by decide);exact ht.2
   have:=h.apart _ _ hs' ht' fun w=>⟨fun q=>((he w).1 ⟨h0,q⟩).2,fun q=>((he w).2 ⟨h1,q⟩).2⟩;omega
  ·have:=sem_dead h.sem hs fun w q=>h1 ((he w).1 q).1;omega
 ·have:=sem_dead h.sem ht fun w q=>h0 ((he w).2 q).1;rcases hs with rfl|hs
  ·omega
  ·omega
theorem getRow {d:Au}{L:Nat→Row→Prop}(h:Sem0 d L){i j:Nat}{r:List Int}{a:ByteArray}(hn:d.names.Nodup)(hr:d.next[i]?=some r)(ha:d.names[j]?=some a):r[j]?=some (d.stp i a):=by
 have hl:=h.row r (List.mem_of_getElem? hr);have hj:=(List.getElem?_eq_some_iff.1 ha).1;have hix:ixK a d.names=j:=by
  have h1:=ixK_mem (List.mem_of_getElem? ha);obtain ⟨p1,p2⟩:=List.getElem?_eq_some_iff.1 h1;obtain ⟨q1,q2⟩:=List.getElem?_eq_some_iff.1 ha;rcases Nat.lt_trichotomy (ixK a d.names) j with g|g|g
  ·exact absurd (p2.trans q2.symm) (List.pairwise_iff_getElem.1 hn _ _ p1 q1 g)
  ·exact g
  ·exact absurd (q2.trans p2.symm) (List.pairwise_iff_getElem.1 hn _ _ q1 p1 g)
 unfold Au.stp;rw [if_neg (by omega),Int.toNat_natCast,hr,hix,Option.getD_some];have:j<r.length:=by omega
 rw [List.getElem?_eq_getElem this];simp [List.getD,this]
theorem row_one {P:Int→Int→Prop}(hP:∀s t t',P s t→P s t'→t=t')(hP':∀s s' t,P s t→P s' t→s=s'):∀(r r':List Int) (m n n':Int),0≤m→P (-1) (-1)→(∀s,0≤s→s≤m→P s s)→r.length=r'.length→(∀(j:Nat) (s t:Int),r[j]?=some s→r'[j]?=some t→P s t)→
 rowOrd m r=some n→rowOrd m r'=some n'→r=r'∧n=n'∧m≤n∧∀s,0≤s→s≤n→P s s
 |[],[],m,n,n',h0,hd,hm,_,_,h1,h2=>by
  simp only [rowOrd,Option.some.injEq] at h1 h2;subst h1 h2;exact ⟨rfl,rfl,Int.le_refl _,hm⟩
 |[],_::_,m,n,n',h0,hd,hm,hl,_,h1,h2=>by simp at hl
 |_::_,[],m,n,n',h0,hd,hm,hl,_,h1,h2=>by simp at hl
 |s::r,t::r',m,n,n',h0,hd,hm,hl,hj,h1,h2=>by
  simp only [rowOrd] at h1 h2;split at h1
  ·rename_i g1;split at h2
   ·rename_i g2;have hst:=hj 0 s t rfl rfl;have est:s=t:=by
     by_cases hs:s≤m
     ·by_cases hs0:0≤s
      ·exact hP s s t (hm s hs0 hs) hst
      ·have:s = -1:=(by omega);subst this;exact hP (-1) (-1) t hd hst
     ·by_cases ht:t≤m
      ·by_cases ht0:0≤t
       ·exact (hP' t s t (hm t ht0 ht) hst).symm
       ·have:t = -1:=(by omega);subst this;exact (hP' (-1) s (-1) hd hst).symm
      ·omega
    subst est;obtain ⟨a,b,c,e⟩:=row_one hP hP' r r' (max m s) n n' (by omega) hd (fun x x0 hx=>by
     by_cases hxm:x≤m
     ·exact hm x x0 hxm
     ·have:x=s:=(by omega);rw [this];exact hst) (by simpa using hl) (fun j s t a b=>hj (j+1) s t (by simpa using a) (by simpa using b)) h1 h2
    exact ⟨by rw [a],b,by omega,e⟩
   ·cases h2
  ·cases h1
theorem least_one {d d':Au}{L L':Nat→Row→Prop}(h:Least d L)(h':Least d' L')(hn:d.names.Nodup)(hnn:d.names=d'.names)(h0:∀w,L 0 w↔L' 0 w):d.next=d'.next∧d.final=d'.final:=by
 let P:Int→Int→Prop:=fun s t=>d.st s∧d'.st t∧∀w,LI L s w↔LI L' t w
 have hP:∀s t t',P s t→P s t'→t=t':=fun s t t' a b=>least_eq h' a.2.1 b.2.1 fun w=>(a.2.2 w).symm.trans (b.2.2 w);have hP':∀s s' t,P s t→P s' t→s=s':=fun s s' t a b=>least_eq h a.1 b.1 fun w=>(a.2.2 w).trans (b.2.2 w).symm;have hd:P (-1) (-1):=⟨.inl rfl,.inl rfl,fun w=>⟨fun q=>absurd q.1 (by decide),fun q=>absurd q.1 (by decide)⟩⟩;have tab:∀(k i:Nat) (m n n':Int),k=d.next.length-i→0≤m→(∀s,0≤s→s≤m→P s s)→tabOrd i m (d.next.drop i)=some n→tabOrd i m (d'.next.drop i)=some n'→d.next.length=n+1→d'.next.length=n'+1→
  d.next.drop i=d'.next.drop i∧∀s,0≤s→s≤n→P s s:=by
  intro k;induction k with
  |zero=>
   intro i m n n' hk hm0 hm h1 h2 e1 e2;rw [List.drop_eq_nil_of_le (by omega)] at h1;simp only [tabOrd,Option.some.injEq] at h1;subst h1;cases hd':d'.next.drop i with
   |nil=>exact ⟨by rw [List.drop_eq_nil_of_le (by omega)],hm⟩
   |cons r l=>
    exfalso;rw [hd'] at h2;simp only [tabOrd] at h2;split at h2
    ·rename_i g;omega
    ·cases h2
  |succ k ih=>
   intro i m n n' hk hm0 hm h1 h2 e1 e2;have hi:i<d.next.length:=(by omega);rw [List.drop_eq_getElem_cons hi] at h1;simp only [tabOrd] at h1;split at h1
   ·rename_i g;have hPi:=hm i (by omega) g;have hi':i<d'.next.length:=by
     rcases hPi.2.1 with q|q
     ·omega
     ·have:=q.2;simpa using this
    rw [List.drop_eq_getElem_cons hi'] at h2;simp only [tabOrd,if_pos g] at h2;cases hr1:rowOrd m d.next[i] with
    |none=>rw [hr1] at h1;cases h1
    |some m1=>
     cases hr2:rowOrd m d'.next[i] with
     |none=>rw [hr2] at h2;cases h2
     |some m2=>
      rw [hr1] at h1;rw [hr2] at h2;simp only [Option.bind_some] at h1 h2;have g1:d.next[i]?=some d.next[i]:=(by simp);have g2:d'.next[i]?=some d'.next[i]:=(by simp);have l1:=h.sem.row d.next[i] (List.getElem_mem _);have l2:=h'.sem.row d'.next[i] (List.getElem_mem _);obtain ⟨a,b,c,e⟩:=row_one hP hP' d.next[i] d'.next[i] m m1 m2 hm0 hd hm (by rw [l1,l2,hnn]) (fun j s t hs ht=>by
       have hj:=(List.getElem?_eq_some_iff.1 hs).1;have hj1:j<d.names.length:=(by omega);have ha:d.names[j]?=some d.names[j]:=(by simp);have ha':d'.names[j]?=some d.names[j]:=(by rw [←hnn];exact ha);have q1:=getRow h.sem.toSem0 hn g1 ha;have q2:=getRow h'.sem.toSem0 (hnn ▸ hn) g2 ha';rw [hs] at q1;rw [ht] at q2;cases q1;cases q2;obtain ⟨x1,x2⟩:=sem_step h.sem.toSem0 hPi.1 d.names[j];obtain ⟨y1,y2⟩:=sem_step h'.sem.toSem0 hPi.2.1 d.names[j];exact ⟨x1,y1,fun w=>(x2 w).symm.trans ((hPi.2.2 _).trans (y2 w))⟩) hr1 hr2
      subst b;obtain ⟨x,y⟩:=ih (i+1) m1 n n' (by omega) (by omega) e h1 h2 e1 e2;refine ⟨?_,y⟩;rw [List.drop_eq_getElem_cons hi,List.drop_eq_getElem_cons hi',a,x]
   ·cases h1
 have p1:=h.sem.pos;have p2:=h'.sem.pos;obtain ⟨a,b⟩:=tab _ 0 0 _ _ rfl (Int.le_refl _) (fun s s0 s1=>by
  have:s=0:=by omega
  subst this;refine ⟨st0 h.sem.toSem0,st0 h'.sem.toSem0,fun w=>?_⟩;unfold LI;simp [h0 w]) h.ord h'.ord (by omega) (by omega)
 simp only [List.drop_zero] at a;refine ⟨a,?_⟩;apply List.ext_getElem?;intro i;have f1:=h.sem.len;have f2:=h'.sem.len;by_cases hi:i<d.next.length
 ·have hi':i<d'.next.length:=by rw [←a];exact hi
  have hp:=b i (by omega) (by omega);have e:d.final.getD i false=d'.final.getD i false:=by
   rw [Bool.eq_iff_iff,h.sem.fin i hi,h'.sem.fin i hi'];have:=hp.2.2 [];unfold LI at this;simpa using this
  have l1:i<d.final.length:=by omega
  have l2:i<d'.final.length:=by omega
  rw [List.getElem?_eq_getElem l1,List.getElem?_eq_getElem l2];simpa [List.getD,l1,l2] using e
 ·have:d'.next.length=d.next.length:=by rw [a]
  rw [List.getElem?_eq_none (by omega),List.getElem?_eq_none (by omega)]
abbrev B (l:List UInt8):ByteArray:=⟨l.toArray⟩
theorem B_data (s:ByteArray):B s.data.toList=s:=by obtain ⟨a⟩:=s;simp [B]
theorem B_size (l:List UInt8):(B l).size=l.length:=List.size_toArray
theorem B_list (l:List UInt8):(B l).data.toList=l:=by simp [B]
theorem ext_list {s t:ByteArray}(h:s.data.toList=t.data.toList):s=t:=by rw [←B_data s,←B_data t,h]
theorem app_list (s t:ByteArray):(s++t).data.toList=s.data.toList++t.data.toList:=by simp [ByteArray.data_append]
theorem extract_list (s:ByteArray)(i j:Nat):(s.extract i j).data.toList=(s.data.toList.take j).drop i:=by
 rw [ByteArray.data_extract];simp [Array.toList_extract,List.drop_take]
theorem hp_iff (l p:List UInt8):hasPre (B l) (B p)=true↔∃r,l=p++r:=by
 simp only [hasPre,Bool.and_eq_true,decide_eq_true_eq,B_size];constructor
 ·rintro ⟨h1,h2⟩
  have h3:=congrArg (fun s:ByteArray=>s.data.toList) h2;simp only [extract_list,B_list,List.drop_zero] at h3;exact ⟨l.drop p.length,by rw [←h3,List.length_take,Nat.min_eq_left h1];exact (List.take_append_drop _ _).symm⟩
 ·rintro ⟨r,rfl⟩
  refine ⟨by simp,ext_list ?_⟩;rw [extract_list,B_list,B_list];simp
theorem hp_yes (p r:List UInt8):hasPre (B (p++r)) (B p)=true:=(hp_iff _ _).2 ⟨r,rfl⟩
theorem hp_one (l:List UInt8)(c:UInt8):hasPre (B l) (B [c])=true↔l.head?=some c:=by
 rw [hp_iff];cases l with
 |nil=>simp
 |cons x l=>simp [eq_comm]
theorem hp_one_no {l:List UInt8}{c:UInt8}(h:l.head?≠some c):hasPre (B l) (B [c])=false:=by
 cases hh:hasPre (B l) (B [c]) with
 |false=>rfl
 |true=>exact absurd ((hp_one l c).1 hh) h
theorem cp_yes (p r:List UInt8):cutPre (B (p++r)) (B p)=B r:=by
 unfold cutPre;rw [if_pos (hp_yes p r)];refine ext_list ?_;rw [extract_list,B_list,B_list,B_size,B_size,List.take_length];simp
theorem cp_no {s p:ByteArray}(h:hasPre s p=false):cutPre s p=s:=by simp [cutPre,h]
def isLow (c:UInt8):Bool:=decide (97≤c.toNat)&&decide (c.toNat≤122)
theorem tl_B (l:List UInt8):tl (B l)=B (l.dropWhile isLow):=by
 unfold tl Lib.trimLeftS;rw [B_list];have:(fun b=>low.data.toList.contains b)=isLow:=by funext b;exact low_contains b
 rw [this]
def Reads (read:St→E × St)(txt:List UInt8)(e:E)(w:Nat)(C:List UInt8→Prop):Prop:=
 ∀(r:List UInt8) (m:Int),C r→0≤m→m+w≤48→∃m':Int,m≤m'∧m'≤m+w∧read ⟨B (txt++r),false,m⟩=(e,⟨B r,false,m'⟩)
def tailT (sign:UInt8)(txt:E→List UInt8)(xs:List E):List UInt8:=(xs.map fun y=>sign::txt y).flatten
theorem tailT_len (sign:UInt8)(txt:E→List UInt8):∀xs:List E,xs.length≤(tailT sign txt xs).length
 |[]=>by simp
 |y::ys=>by have:=tailT_len sign txt ys;simp [tailT] at this ⊢;omega
theorem rounds_reads {read:St→E × St}{sign:UInt8}{C:List UInt8→Prop}(hC:∀r,C (sign::r))(txt:E→List UInt8)(w:E→Nat):∀(xs:List E),(∀y∈xs,Reads read (txt y) y (w y) C)→∀(n:Nat) (acc:List E) (r:List UInt8) (m:Int),
 xs.length<n→C r→r.head?≠some sign→0≤m→m+(xs.map w).sum≤48→∃m':Int,m≤m'∧m'≤m+(xs.map w).sum∧rounds read (B [sign]) n acc ⟨B (tailT sign txt xs++r),false,m⟩=(acc++xs,⟨B r,false,m'⟩)
 |[],_,n,acc,r,m,hn,hr,hh,h0,hm=>by
  obtain ⟨n,rfl⟩:∃k,n=k+1:=⟨n-1,by simp at hn;omega⟩;refine ⟨m,Int.le_refl _,by simp,?_⟩;have:=hp_one_no hh;simp [rounds,tailT,this,St.cut,cp_no this]
 |y::ys,hr',n,acc,r,m,hn,hr,hh,h0,hm=>by
  obtain ⟨n,rfl⟩:∃k,n=k+1:=⟨n-1,by simp at hn;omega⟩;have e1:tailT sign txt (y::ys)++r = [sign]++(txt y++(tailT sign txt ys++r)):=by simp [tailT]
  have hC':C (tailT sign txt ys++r):=by
   cases ys with
   |nil=>simpa [tailT] using hr
   |cons z zs=>simp only [tailT,List.map_cons,List.flatten_cons,List.cons_append];exact hC _
  simp only [List.map_cons,List.sum_cons] at hm ⊢;obtain ⟨m1,a1,a2,a3⟩:=hr' y (by simp) (tailT sign txt ys++r) m hC' h0 (by omega);obtain ⟨m2,b1,b2,b3⟩:=rounds_reads hC txt w ys (fun z hz=>hr' z (by simp [hz])) n (acc++[y]) r m1 (by simp at hn;omega) hr hh (by omega) (by omega);refine ⟨m2,by omega,by omega,?_⟩;have hc:(⟨B (tailT sign txt (y::ys)++r),false,m⟩:St).cut (B [sign])=⟨B (txt y++(tailT sign txt ys++r)),false,m⟩:=by
   simp only [St.cut,e1,cp_yes]
  have hp:hasPre (⟨B (tailT sign txt (y::ys)++r),false,m⟩:St).left (B [sign])=true:=by
   show hasPre (B (tailT sign txt (y::ys)++r)) (B [sign])=true;rw [e1];exact hp_yes _ _
  simp only [rounds,hp,hc,a3];simpa using b3
theorem several_reads {read:St→E × St}{sign:UInt8}{C:List UInt8→Prop}(hC:∀r,C (sign::r))(txt:E→List UInt8)(w:E→Nat)(op:Int)(x:E)(xs:List E)(h:∀y∈x::xs,Reads read (txt y) y (w y) C) :
 Reads (several read op (B [sign])) (txt x++tailT sign txt xs) (match x::xs with | [e]=>e|l=>.mk op ⟨#[]⟩ l) (((x::xs).map w).sum) (fun r=>C r∧r.head?≠some sign):=by
 intro r m ⟨hr,hh⟩ h0 hm;simp only [List.map_cons,List.sum_cons] at hm ⊢;have hC':C (tailT sign txt xs++r):=by
  cases xs with
  |nil=>simpa [tailT] using hr
  |cons z zs=>simp only [tailT,List.map_cons,List.flatten_cons,List.cons_append];exact hC _
 obtain ⟨m1,a1,a2,a3⟩:=h x (by simp) (tailT sign txt xs++r) m hC' h0 (by omega);have hlen:xs.length<(B (txt x++tailT sign txt xs++r)).size+1:=by
  rw [B_size];have:=tailT_len sign txt xs;simp;omega
 obtain ⟨m2,b1,b2,b3⟩:=rounds_reads hC txt w xs (fun z hz=>h z (by simp [hz])) ((B (txt x++tailT sign txt xs++r)).size+1) [x] r m1 hlen hr hh (by omega) (by omega);refine ⟨m2,by omega,by omega,?_⟩;rw [List.append_assoc] at b3 ⊢;unfold several;simp only [a3,b3];cases xs<;>rfl
theorem Reads.mono {read:St→E × St}{txt:List UInt8}{e:E}{w w':Nat}{C C':List UInt8→Prop}(h:Reads read txt e w C)(hw:w≤w')(hC:∀r,C' r→C r):Reads read txt e w' C':=fun r m hr h0 hm=>by
 obtain ⟨m',a,b,c⟩:=h r m (hC r hr) h0 (by omega);exact ⟨m',a,by omega,c⟩
theorem parse_sound (s:ByteArray):(parse s=(E.none,2))∨((parse s).2=0∧(parse s).1.right=true∧(parse s).1.text false=s):=by
 unfold parse;split
 ·rename_i h;exact .inr ⟨rfl,h.2.2.1,h.2.2.2⟩
 ·exact .inl rfl
theorem none_small:E.none.small:=E.small_mk (by decide) (by simp)
theorem parse_small (s:ByteArray)(hs:s.size≤1000000000):(parse s).1.small∧(parse s).1.cnt≤1000:=by
 have h0:Ready 49 ⟨s,false,0⟩:=⟨rfl,by simp,by simp,by simp,hs⟩;have hm:=altN_made tl_size _ h0;have a:((altN tl ⟨s,false,0⟩).1.cnt:Int)+1≤4*((altN tl ⟨s,false,0⟩).2.many-0):=hm.cnt;have b:=hm.top;unfold parse;split
 ·exact ⟨hm.small,by show (altN tl ⟨s,false,0⟩).1.cnt≤1000;omega⟩
 ·exact ⟨none_small,by decide⟩
abbrev E.txl (b:Bool)(e:E):List UInt8:=(e.text b).data.toList
theorem par_list (b:Bool)(s:ByteArray):(par b s).data.toList=if b=true then 40::(s.data.toList++[41]) else s.data.toList:=by
 unfold par;split
 ·rw [app_list,app_list];rfl
 ·rfl
theorem join_list (txt:E→ByteArray)(sign:UInt8)(x:E)(xs:List E):(joinB ((x::xs).map txt) (B [sign])).data.toList=(txt x).data.toList++tailT sign (fun y=>(txt y).data.toList) xs:=by
 unfold joinB;simp only [List.map_cons,Lib.join_cons,List.toList_toArray,List.map_map];congr 1;simp only [Lib.joinTail,tailT,List.map_map];rfl
def Cend (r:List UInt8):Prop:=∀c,r.head?=some c→isLow c=false∧c≠42∧c≠43∧c≠63
theorem Cend_cons {c:UInt8}(h1:isLow c=false)(h2:c≠42)(h3:c≠43)(h4:c≠63)(r:List UInt8):Cend (c::r):=by
 intro d hd;simp at hd;subst hd;exact ⟨h1,h2,h3,h4⟩
abbrev seqR (k:Nat):St→E × St:=several (itemN tl k) 115 ⟨#[32]⟩
abbrev altR (k:Nat):St→E × St:=several (seqR k) 97 ⟨#[124]⟩
abbrev Cseq (r:List UInt8):Prop:=Cend r∧r.head?≠some 32
abbrev Calt (r:List UInt8):Prop:=Cseq r∧r.head?≠some 124
theorem kids_sum (e:E):(e.kids.map E.cnt).sum+1=e.cnt:=by rw [cnt_eq];omega
theorem seq_reads (k:Nat)(e:E)(hok:e.ok=true)(hna:e.op≠97)(hself:e.op≠115∨e.kids = []→Reads (itemN tl k) (e.txl true) e e.cnt Cend)(hkids:e.op=115→∀y∈e.kids,Reads (itemN tl k) (y.txl true) y y.cnt Cend)(w:Nat)(hw1:e.op=115∧e.kids≠[]→e.cnt-1≤w)(hw2:¬(e.op=115∧e.kids≠[])→e.cnt≤w):Reads (seqR k) (e.txl false) e w Cseq:=by
 by_cases h:e.op=115∧e.kids≠[]
 ·have hw:=hw1 h;obtain ⟨h1,h2⟩:=h;rcases E.ok_ops hok with ⟨h,_⟩|⟨_,hn,hl⟩|⟨h,_⟩|⟨h,_⟩
  ·omega
  ·match hkk:e.kids,h2,hl with
   |[_],_,hl=>simp at hl
   |x::y::l,_,_=>
    have hs:=several_reads (sign:=32) (C:=Cend) (Cend_cons (by decide) (by decide) (by decide) (by decide)) (E.txl true) E.cnt 115 x (y::l) (fun z hz=>hkids h1 z (by rw [hkk];exact hz));have htxt:e.txl false=x.txl true++tailT 32 (E.txl true) (y::l):=by
     unfold E.txl;rw [text_eq,if_neg (by omega),if_pos h1,if_neg (by rw [hkk];simp),par_list,if_neg (by simp),hkk];have:(!decide (e.op=97))=true:=(by simp [h1]);rw [this];exact join_list (fun z=>z.text true) 32 x (y::l)
    have he:e = .mk 115 ⟨#[]⟩ (x::y::l):=by
     obtain ⟨o,n,ks⟩:=e;simp only [E.op,E.name,E.kids] at h1 hn hkk;rw [h1,hn,hkk]
    rw [htxt];have hc:=kids_sum e;rw [hkk] at hc
    conv=>arg 3;rw [he]
    exact hs.mono (by omega) (fun r hr=>hr)
  ·omega
  ·omega
 ·have hw:=hw2 h;have h':e.op≠115∨e.kids = []:=by
   by_cases h1:e.op=115
   ·right;exact Classical.byContradiction fun h2=>h ⟨h1,h2⟩
   ·exact .inl h1
  have hs:=several_reads (sign:=32) (C:=Cend) (Cend_cons (by decide) (by decide) (by decide) (by decide)) (E.txl true) E.cnt 115 e [] (fun z hz=>by simp at hz;subst hz;exact hself h');have htxt:e.txl false=e.txl true++tailT 32 (E.txl true) []:=by
   simp only [tailT,List.map_nil,List.flatten_nil,List.append_nil];unfold E.txl;rw [text_eq e false,text_eq e true];by_cases h1:e.op=110
   ·simp [h1]
   ·by_cases h2:e.op=115
    ·have:e.kids = []:=by rcases h' with h|h;exact absurd h2 h;exact h
     simp [h2,this]
    ·simp [h1,h2,hna]
  rw [htxt];exact hs.mono (by simpa using hw) (fun r hr=>hr)
theorem alt_reads (k:Nat)(e:E)(hok:e.ok=true)(w:Nat)(hself:e.op≠97→Reads (seqR k) (e.txl false) e w Cseq)(hkids:e.op=97→∀y∈e.kids,Reads (seqR k) (y.txl false) y y.cnt Cseq)(hw1:e.op=97→e.cnt-1≤w):Reads (altR k) (e.txl false) e w Calt:=by
 have hC:∀r,Cseq (124::r):=fun r=>⟨Cend_cons (by decide) (by decide) (by decide) (by decide) r,by simp⟩;by_cases h1:e.op=97
 ·have hw:=hw1 h1;rcases E.ok_ops hok with ⟨h,_⟩|⟨h,_⟩|⟨_,hn,hl⟩|⟨h,_⟩
  ·omega
  ·omega
  ·match hkk:e.kids,hl with
   |x::y::l,_=>
    have hs:=several_reads (sign:=124) (C:=Cseq) hC (E.txl false) E.cnt 97 x (y::l) (fun z hz=>hkids h1 z (by rw [hkk];exact hz));have htxt:e.txl false=x.txl false++tailT 124 (E.txl false) (y::l):=by
     unfold E.txl;rw [text_eq,if_neg (by omega),if_neg (by omega),if_pos h1,par_list,if_neg (by simp),hkk];have:(!decide (e.op=97))=false:=(by simp [h1]);rw [this];exact join_list (fun z=>z.text false) 124 x (y::l)
    have he:e = .mk 97 ⟨#[]⟩ (x::y::l):=by
     obtain ⟨o,n,ks⟩:=e;simp only [E.op,E.name,E.kids] at h1 hn hkk;rw [h1,hn,hkk]
    rw [htxt];have hc:=kids_sum e;rw [hkk] at hc
    conv=>arg 3;rw [he]
    exact hs.mono (by omega) (fun r hr=>hr)
  ·omega
 ·have hs:=several_reads (sign:=124) (C:=Cseq) hC (E.txl false) (fun _=>w) 97 e [] (fun z hz=>by simp at hz;subst hz;exact hself h1);have htxt:e.txl false=e.txl false++tailT 124 (E.txl false) []:=by simp [tailT]
  rw [htxt];exact hs.mono (by simp) (fun r hr=>hr)
def relab {α:Type}[DecidableEq α](l:List α):List Int × Nat:=((rowK id [] (l.map some)).2,(rowK id [] (l.map some)).1.length)
theorem relab_spec {α:Type}[DecidableEq α](l:List α):(relab l).1.length=l.length∧(∀(i:Nat) (x:α),l[i]?=some x→∃n:Nat,(relab l).1[i]?=some (n:Int)∧n<(relab l).2)∧
 (∀(i j:Nat) (x y:α) (s t:Int),l[i]?=some x→l[j]?=some y→(relab l).1[i]?=some s→(relab l).1[j]?=some t→(s=t↔x=y))∧(∀v,v<(relab l).2→∃i:Nat,(relab l).1[i]?=some (v:Int)):=by
 obtain ⟨m,h1,h2,h3,h4,h5,_⟩:=rowK_spec (σ:=α) (κ:=α) id (l.map some) [] (by simp);rw [List.length_map] at h4;unfold relab;rw [List.nil_append] at h1;generalize rowK id [] (l.map some)=p at h1 h2 h4 h5;obtain ⟨all,r⟩:=p;simp only at h1 h2 h4 h5;subst h1;rw [List.map_id] at h2;have say:∀(i:Nat) (x:α),l[i]?=some x→∃n:Nat,r[i]?=some (n:Int)∧all[n]?=some x:=fun i x hx=>by
  have hi:=(List.getElem?_eq_some_iff.1 hx).1;have hr:r[i]?=some (r[i]'(by omega)):=by simp
  obtain ⟨n,e,hn⟩:=h5 i (some x) _ (by rw [List.getElem?_map,hx];rfl) hr;rw [List.map_id] at hn;exact ⟨n,by rw [hr,e],hn⟩
 refine ⟨h4,fun i x hx=>?_,fun i j x y s t hx hy hs ht=>?_,fun v hv=>?_⟩
 ·obtain ⟨n,a,b⟩:=say i x hx;exact ⟨n,a,(List.getElem?_eq_some_iff.1 b).1⟩
 ·obtain ⟨n,a,b⟩:=say i x hx;obtain ⟨n',a',b'⟩:=say j y hy;rw [hs] at a;rw [ht] at a';cases a;cases a';constructor
  ·intro e;have:n=n':=(by omega);subst this;rw [b] at b';exact Option.some.inj b'
  ·intro e;subst e;obtain ⟨p1,p2⟩:=List.getElem?_eq_some_iff.1 b;obtain ⟨q1,q2⟩:=List.getElem?_eq_some_iff.1 b';rcases Nat.lt_trichotomy n n' with g|g|g
   ·exact absurd (p2.trans q2.symm) (List.pairwise_iff_getElem.1 h2 _ _ p1 q1 g)
   ·omega
   ·exact absurd (q2.trans p2.symm) (List.pairwise_iff_getElem.1 h2 _ _ q1 p1 g)
 ·obtain ⟨x,hx⟩:∃x,all[v]?=some x:=⟨all[v],by simp⟩;have hxl:=h3 x (List.mem_of_getElem? hx);obtain ⟨y,hy,e⟩:=List.mem_map.1 hxl;cases e;obtain ⟨i,hi⟩:=List.getElem?_of_mem hy;obtain ⟨n,a,b⟩:=say i x hi;obtain ⟨p1,p2⟩:=List.getElem?_eq_some_iff.1 b;obtain ⟨q1,q2⟩:=List.getElem?_eq_some_iff.1 hx;have:n=v:=by
   rcases Nat.lt_trichotomy n v with g|g|g
   ·exact absurd (p2.trans q2.symm) (List.pairwise_iff_getElem.1 h2 _ _ p1 q1 g)
   ·exact g
   ·exact absurd (q2.trans p2.symm) (List.pairwise_iff_getElem.1 h2 _ _ q1 p1 g)
  exact ⟨i,by rw [a,this]⟩
def clsOf (C:List Int)(t:Int):Int:=if t<0 then -1 else C.getD t.toNat 0
def signOf (d:Au)(C:List Int)(i:Nat):List Int:=C.getD i 0::((d.next[i]?).getD []).map (clsOf C)
def signs (d:Au)(C:List Int):List (List Int):=(List.range d.next.length).map (signOf d C)
def cls0 (d:Au):List Int:=d.final.map fun b=>if b=true then 1 else 0
structure Cls (d:Au) (L:Nat→Row→Prop) (C:List Int) (many:Nat):Prop where
 len:C.length=d.next.length
 pos:∀c∈C,0≤c
 alike:∀i j,i<d.next.length→j<d.next.length→(∀w,L i w↔L j w)→C.getD i 0=C.getD j 0
 fin:∀i j,i<d.next.length→j<d.next.length→C.getD i 0=C.getD j 0→d.final.getD i false=d.final.getD j false
 all:∀v,v<many→∃i:Nat,i<d.next.length∧C.getD i 0=v
def Exact (d:Au)(L:Nat→Row→Prop)(C:List Int):Prop:=∀i j,i<d.next.length→j<d.next.length→(C.getD i 0=C.getD j 0↔∀w,L i w↔L j w)
theorem stp_st {d:Au}{L:Nat→Row→Prop}(h:Sem0 d L)(hn:d.names.Nodup){i:Nat}(hi:i<d.next.length)(a:ByteArray):d.st (d.stp i a)∧∀w,L i (a::w)↔LI L (d.stp i a) w:=by
 obtain ⟨h1,h2⟩:=sem_step h (s:=i) (.inr ⟨by omega,by simpa using hi⟩) a;refine ⟨h1,fun w=>?_⟩;rw [←h2 w];unfold LI;simp
def Even (d:Au)(L:Nat→Row→Prop):Prop:=∀i j,i<d.next.length→j<d.next.length→∀a∈d.names,(∀w,L i (a::w)↔L j (a::w))→(d.stp i a<0↔d.stp j a<0)
theorem even_live {d:Au}{L:Nat→Row→Prop}(h:Sem d L)(hn:d.names.Nodup):Even d L:=by
 intro i j hi hj a ha hL;obtain ⟨p1,p2⟩:=stp_st h.toSem0 hn hi a;obtain ⟨q1,q2⟩:=stp_st h.toSem0 hn hj a;constructor
 ·intro hlt;have:=sem_dead h q1 fun w q=>by
   have:=(p2 w).1 ((hL w).2 ((q2 w).2 q));have:=this.1;omega
  omega
 ·intro hlt;have:=sem_dead h p1 fun w q=>by
   have:=(q2 w).1 ((hL w).1 ((p2 w).2 q));have:=this.1;omega
  omega
theorem clsOf_alike {d:Au}{L:Nat→Row→Prop}(h:Sem0 d L)(hn:d.names.Nodup)(hz:Even d L){C:List Int}{many:Nat}(hC:Cls d L C many){i j:Nat}(hi:i<d.next.length)(hj:j<d.next.length){a:ByteArray}(ha:a∈d.names)(hL:∀w,L i (a::w)↔L j (a::w)):clsOf C (d.stp i a)=clsOf C (d.stp j a):=by
 have hz:=hz i j hi hj a ha hL;obtain ⟨p1,p2⟩:=stp_st h hn hi a;obtain ⟨q1,q2⟩:=stp_st h hn hj a;unfold clsOf;by_cases h0:d.stp i a<0
 ·rw [if_pos h0,if_pos (hz.1 h0)]
 ·have h1:¬d.stp j a<0:=fun q=>h0 (hz.2 q);rw [if_neg h0,if_neg h1];have hs':(d.stp i a).toNat<d.next.length:=by rcases p1 with q|q;omega;exact q.2
  have ht':(d.stp j a).toNat<d.next.length:=by rcases q1 with q|q;omega;exact q.2
  refine hC.alike _ _ hs' ht' fun w=>?_;have e1:=p2 w;have e2:=q2 w;unfold LI at e1 e2;constructor
  ·intro q;exact (e2.1 ((hL w).1 (e1.2 ⟨by omega,q⟩))).2
  ·intro q;exact (e1.1 ((hL w).2 (e2.2 ⟨by omega,q⟩))).2
theorem signs_get {d:Au}{L:Nat→Row→Prop}(h:Sem0 d L)(hn:d.names.Nodup){C:List Int}{i:Nat}(hi:i<d.next.length):(signs d C)[i]?=some (signOf d C i):=by simp [signs,hi]
section
variable {d:Au} {L:Nat→Row→Prop} (h:Sem0 d L) (hn:d.names.Nodup) (hz:Even d L)
include h
theorem cls_start:Cls d L (cls0 d) 0:=by
 have hg:∀i,i<d.next.length→(cls0 d).getD i 0=if d.final.getD i false=true then 1 else 0:=fun i hi=>by
  have:i<d.final.length:=by rw [h.len];exact hi
  simp [cls0,List.getD,this]
 refine ⟨by rw [cls0,List.length_map,h.len],fun c hc=>?_,fun i j hi hj hL=>?_,fun i j hi hj hc=>?_,fun v hv=>absurd hv (by omega)⟩
 ·obtain ⟨b,_,rfl⟩:=List.mem_map.1 hc;split<;>decide
 ·rw [hg i hi,hg j hj];have e:d.final.getD i false=d.final.getD j false:=by
   rw [Bool.eq_iff_iff,h.fin i hi,h.fin j hj];exact hL []
  rw [e]
 ·rw [hg i hi,hg j hj] at hc;generalize d.final.getD i false=x at hc ⊢;generalize d.final.getD j false=y at hc ⊢;cases x<;>cases y<;>simp at hc ⊢
include hn
theorem sign_step {C:List Int}{i j:Nat}(hi:i<d.next.length)(hj:j<d.next.length):signOf d C i=signOf d C j↔C.getD i 0=C.getD j 0∧∀a∈d.names,clsOf C (d.stp i a)=clsOf C (d.stp j a):=by
 have e1:d.next[i]?=some d.next[i]:=by simp
 have e2:d.next[j]?=some d.next[j]:=by simp
 have l1:=h.row d.next[i] (List.getElem_mem _);have l2:=h.row d.next[j] (List.getElem_mem _);unfold signOf;rw [e1,e2,Option.getD_some,Option.getD_some,List.cons.injEq];refine and_congr_right fun _=>?_;constructor
 ·intro e a ha;obtain ⟨k,hk⟩:=List.getElem?_of_mem ha;have g1:=getRow h hn e1 hk;have g2:=getRow h hn e2 hk;have:=congrArg (fun l:List Int=>l[k]?) e;simp only [List.getElem?_map,g1,g2,Option.map_some,Option.some.injEq] at this;exact this
 ·intro e;apply List.ext_getElem?;intro k;by_cases hk:k<d.names.length
  ·have hk':d.names[k]?=some d.names[k]:=(by simp);rw [List.getElem?_map,List.getElem?_map,getRow h hn e1 hk',getRow h hn e2 hk'];simp [e d.names[k] (List.getElem_mem _)]
  ·rw [List.getElem?_eq_none (by simp;omega),List.getElem?_eq_none (by simp;omega)]
include hz
theorem cls_round {C:List Int}{many:Nat}(hC:Cls d L C many):Cls d L (relab (signs d C)).1 (relab (signs d C)).2∧0<(relab (signs d C)).2∧many≤(relab (signs d C)).2∧(relab (signs d C)).2≤d.next.length∧((relab (signs d C)).2=many→Exact d L (relab (signs d C)).1∧Exact d L C)∧(∀i j,i<d.next.length→j<d.next.length→(relab (signs d C)).1.getD i 0=(relab (signs d C)).1.getD j 0→C.getD i 0=C.getD j 0):=by
 obtain ⟨r1,r2,r3,r4⟩:=relab_spec (signs d C);have hsl:(signs d C).length=d.next.length:=by simp [signs]
 rw [hsl] at r1;generalize relab (signs d C)=p at r1 r2 r3 r4;obtain ⟨C',many'⟩:=p;simp only at r1 r2 r3 r4 ⊢;have hsg:=fun i hi=>signs_get (C:=C) h hn (i:=i) hi;have hlab:∀i,i<d.next.length→∃n:Nat,C'.getD i 0=n∧n<many'∧C'[i]?=some (n:Int):=fun i hi=>by
  obtain ⟨n,a,b⟩:=r2 i _ (hsg i hi);exact ⟨n,by simp [List.getD,a],b,a⟩
 have hiff:∀i j,i<d.next.length→j<d.next.length→(C'.getD i 0=C'.getD j 0↔signOf d C i=signOf d C j):=fun i j hi hj=>by
  obtain ⟨n,a,b,c⟩:=hlab i hi;obtain ⟨n',a',b',c'⟩:=hlab j hj;rw [a,a'];exact r3 i j _ _ _ _ (hsg i hi) (hsg j hj) c c'
 have hidx:∀v,v<many'→∃i:Nat,i<d.next.length∧C'.getD i 0=v:=fun v hv=>by
  obtain ⟨i,hi⟩:=r4 v hv;have:=(List.getElem?_eq_some_iff.1 hi).1;exact ⟨i,by omega,by simp [List.getD,hi]⟩
 have hCls:Cls d L C' many':=by
  refine ⟨r1,fun c hc=>?_,fun i j hi hj hL=>?_,fun i j hi hj hc=>?_,hidx⟩
  ·obtain ⟨i,hi⟩:=List.getElem?_of_mem hc;have hil:=(List.getElem?_eq_some_iff.1 hi).1;obtain ⟨n,a,b,e⟩:=hlab i (by omega);rw [hi] at e;cases e;omega
  ·refine (hiff i j hi hj).2 ((sign_step h hn hi hj).2 ⟨hC.alike i j hi hj hL,fun a ha=>?_⟩);exact clsOf_alike h hn hz hC hi hj ha fun w=>hL (a::w)
  ·exact hC.fin i j hi hj ((sign_step h hn hi hj).1 ((hiff i j hi hj).1 hc)).1
 -- how many there are
 have hle:many'≤d.next.length:=by
  have:=nodup_sub_len ((List.range many').map fun v:Nat=>(v:Int)) C' (nodup_map _ _ List.nodup_range fun x _ y _ e=>by omega) fun x hx=>by
   obtain ⟨v,hv,rfl⟩:=List.mem_map.1 hx;obtain ⟨i,hi⟩:=r4 v (List.mem_range.1 hv);exact List.mem_of_getElem? hi
  simp at this;omega
 have hreach:∀(V:List Int),V.Nodup→(∀c∈V,∃i:Nat,i<d.next.length∧C.getD i 0=c)→∀(X:List Nat),(∀i,i<d.next.length→∃v∈X,C.getD i 0=C.getD ((fun v=>if hv:v<many' then (hidx v hv).choose else 0) v) 0)→V.length≤X.length:=by
  intro V hV hc X hX;have:=nodup_sub_len V (X.map fun v=>C.getD ((fun v=>if hv:v<many' then (hidx v hv).choose else 0) v) 0) hV fun c hcv=>by
   obtain ⟨i,hi,e⟩:=hc c hcv;obtain ⟨v,hv,e'⟩:=hX i hi;exact List.mem_map.2 ⟨v,hv,by rw [←e',e]⟩
  rwa [List.length_map] at this
 have hrep:∀(v:Nat) (hv:v<many'),(hidx v hv).choose<d.next.length∧C'.getD (hidx v hv).choose 0=v:=fun v hv=>(hidx v hv).choose_spec;have hcov:∀i,i<d.next.length→∃v,v<many'∧C'.getD i 0=v∧C.getD i 0=C.getD ((fun v=>if hv:v<many' then (hidx v hv).choose else 0) v) 0:=fun i hi=>by
  obtain ⟨n,a,b,_⟩:=hlab i hi;refine ⟨n,b,a,?_⟩;simp only [dif_pos b];obtain ⟨x,y⟩:=hrep n b;exact ((sign_step h hn hi x).1 ((hiff i _ hi x).1 (a.trans y.symm))).1
 have hV:∀c∈(List.range many).map (fun v:Nat=>(v:Int)),∃i:Nat,i<d.next.length∧C.getD i 0=c:=fun c hc=>by
  obtain ⟨v,hv,rfl⟩:=List.mem_map.1 hc;exact hC.all v (List.mem_range.1 hv)
 have hVn:((List.range many).map (fun v:Nat=>(v:Int))).Nodup:=nodup_map _ _ List.nodup_range fun x _ y _ e=>by omega
 have hmm:many≤many':=by
  have:=hreach _ hVn hV (List.range many') fun i hi=>by
   obtain ⟨v,a,_,b⟩:=hcov i hi;exact ⟨v,List.mem_range.2 a,b⟩
  simpa using this
 refine ⟨hCls,?_,hmm,hle,fun heq=>?_,fun i j hi hj hc=>((sign_step h hn hi hj).1 ((hiff i j hi hj).1 hc)).1⟩
 ·obtain ⟨n,_,b,_⟩:=hlab 0 h.pos;omega
 ·subst heq
  -- the rounds before told as many apart
  have hsame:∀i j,i<d.next.length→j<d.next.length→C.getD i 0=C.getD j 0→C'.getD i 0=C'.getD j 0:=by
   intro i j hi hj hc;refine Classical.byContradiction fun hne=>?_;obtain ⟨vi,a1,a2,a3⟩:=hcov i hi;obtain ⟨vj,b1,b2,b3⟩:=hcov j hj;have hvij:vi≠vj:=fun e=>hne (by rw [a2,b2,e]);have:=hreach _ hVn hV ((List.range many').filter (fun v=>decide (v≠vj))) fun k hk=>by
    obtain ⟨v,c1,c2,c3⟩:=hcov k hk;by_cases hv:v=vj
    ·exact ⟨vi,by simp [a1,hvij],by rw [c3,hv,←b3,←hc,a3]⟩
    ·exact ⟨v,by simp [c1,hv],c3⟩
   have hfl:((List.range many').filter (fun v=>decide (v≠vj))).length<many':=by
    have h1:((List.range many').filter (fun v=>decide (v≠vj))).length≤((List.range many').erase vj).length:=nodup_sub_len _ _ (List.nodup_range.filter _) fun x hx=>by
     simp at hx;exact (List.mem_erase_of_ne hx.2).2 (List.mem_range.2 hx.1)
    have h2:=List.length_erase_of_mem (List.mem_range.2 b1);simp at h2;omega
   simp only [List.length_map,List.length_range] at this;omega
  have hstab:∀i j,i<d.next.length→j<d.next.length→C.getD i 0=C.getD j 0→∀a∈d.names,clsOf C (d.stp i a)=clsOf C (d.stp j a):=fun i j hi hj hc=>((sign_step h hn hi hj).1 ((hiff i j hi hj).1 (hsame i j hi hj hc))).2;have hlang:∀(w:Row) (i j:Nat),i<d.next.length→j<d.next.length→C.getD i 0=C.getD j 0→(L i w↔L j w):=by
   intro w;induction w with
   |nil=>
    intro i j hi hj hc;rw [←h.fin i hi,←h.fin j hj,hC.fin i j hi hj hc]
   |cons a w ih=>
    intro i j hi hj hc;by_cases ha:a∈d.names
    ·obtain ⟨p1,p2⟩:=stp_st h hn hi a;obtain ⟨q1,q2⟩:=stp_st h hn hj a;rw [p2 w,q2 w];have hcl:=hstab i j hi hj hc a ha;generalize d.stp (i:Int) a=s at p1 hcl;generalize d.stp (j:Int) a=t at q1 hcl;have hpos:∀k,k<d.next.length→0≤C.getD k 0:=fun k hk=>by
      have hkl:k<C.length:=(by rw [hC.len];exact hk);have:=hC.pos C[k] (List.getElem_mem _);simpa [List.getD,hkl] using this
     unfold clsOf at hcl;rcases p1 with rfl|⟨p0,p1⟩
     ·rcases q1 with rfl|⟨q0,q1⟩
      ·rfl
      ·have:=hpos _ q1;rw [if_pos (by decide),if_neg (by omega)] at hcl;omega
     ·rcases q1 with rfl|⟨q0,q1⟩
      ·have:=hpos _ p1;rw [if_neg (by omega),if_pos (by decide)] at hcl;omega
      ·rw [if_neg (by omega),if_neg (by omega)] at hcl;unfold LI;have:=ih s.toNat t.toNat p1 q1 hcl;simp [p0,q0,this]
    ·exact ⟨fun q=>absurd (h.only i hi a w q) ha,fun q=>absurd (h.only j hj a w q) ha⟩
  refine ⟨fun i j hi hj=>⟨fun hc w=>?_,fun hL=>hCls.alike i j hi hj hL⟩,fun i j hi hj=>⟨fun hc w=>hlang w i j hi hj hc,fun hL=>hC.alike i j hi hj hL⟩⟩;exact hlang w i j hi hj ((sign_step h hn hi hj).1 ((hiff i j hi hj).1 hc)).1
end
def nextN (d:Au)(s:Nat):List (Option Nat):=((d.next[s]?).getD []).map fun t=>if t<0 then none else some t.toNat
def numM (d:Au)(C:List Int)(i:Nat):List Nat × List (List Int):=met (fun s=>C.getD s 0) (nextN d) 0 i
def numbered (d:Au)(C:List Int):Au:=⟨d.names,(numM d C d.next.length).2,(numM d C d.next.length).1.map fun s=>d.final.getD s false⟩
theorem numM_of {d:Au}{L:Nat→Row→Prop}(h:Sem0 d L)(hn:d.names.Nodup)(C:List Int)(i:Nat):∀s∈(numM d C i).1,s<d.next.length:=by
 refine met_all _ _ _ (fun s=>s<d.next.length) h.pos (fun s hs t ht=>?_) i;obtain ⟨x,hx,e⟩:=List.mem_map.1 ht;split at e
 ·cases e
 ·rename_i g;cases e;have e1:d.next[s]?=some d.next[s]:=by simp
  rw [e1,Option.getD_some] at hx;obtain ⟨k,hk⟩:=List.getElem?_of_mem hx;have hkl:=(List.getElem?_eq_some_iff.1 hk).1;have hkn:k<d.names.length:=by rw [←h.row d.next[s] (List.getElem_mem _)];exact hkl
  have:=getRow h hn e1 (show d.names[k]?=some d.names[k] by simp);rw [hk] at this;cases this;rcases (stp_st h hn hs d.names[k]).1 with q|q
  ·omega
  ·exact q.2
theorem numM_len {d:Au}{L:Nat→Row→Prop}(h:Sem0 d L)(hn:d.names.Nodup)(C:List Int)(i:Nat):(numM d C i).1.length≤d.next.length:=by
 have hM:=met_is (fun s=>C.getD s 0) (nextN d) 0 i;have h1:(numM d C i).1.Nodup:=by
  have:=hM.nodup;exact (List.pairwise_map.1 this).imp fun hne e=>hne (by rw [e])
 have:=nodup_sub_len _ (List.range d.next.length) h1 fun s hs=>List.mem_range.2 (numM_of h hn C i s hs);simpa using this
def numL (d:Au)(C:List Int)(L:Nat→Row→Prop)(i:Nat)(w:Row):Prop:=∃s,(numM d C d.next.length).1[i]?=some s∧L s w
theorem numbered_least0 {d:Au}{L:Nat→Row→Prop}(h:Sem0 d L)(hn:d.names.Nodup){C:List Int}(hC:Exact d L C)(hlive:∀s∈(numM d C d.next.length).1,∃w,L s w):Least (numbered d C) (numL d C L)∧∀w,numL d C L 0 w↔L 0 w:=by
 have hM:Met (fun s=>C.getD s 0) (nextN d) 0 d.next.length (numM d C d.next.length).1 (numM d C d.next.length).2:=met_is _ _ _ _;have hlen:=numM_len h hn C d.next.length;have hof:=numM_of h hn C d.next.length;unfold numbered numL;generalize numM d C d.next.length=M at hM hlen hof hlive;obtain ⟨all,rows⟩:=M;simp only at hM hlen hof hlive;have h0:=met_pos _ _ _ hM;have hrl:rows.length=all.length:=by rcases hM.many with g|g<;>omega
 have hrow:∀i,i<all.length→∃s r,all[i]?=some s∧rows[i]?=some r∧s<d.next.length:=fun i hi=>⟨all[i],rows[i]'(by omega),by simp,by simp,hof _ (List.getElem_mem _)⟩;have hlenr:∀r∈rows,r.length=d.names.length:=fun r hr=>by
  obtain ⟨i,hi⟩:=List.getElem?_of_mem hr;have hil:=(List.getElem?_eq_some_iff.1 hi).1;have hi':i<all.length:=by omega
  have hs:=hof all[i] (List.getElem_mem _);rw [(hM.row i all[i] r (by simp) hi).1,nextN,List.length_map,List.getElem?_eq_getElem hs,Option.getD_some];exact h.row _ (List.getElem_mem _)
 have hst:∀(i s:Nat),all[i]?=some s→∀a∈d.names,Says (fun s=>C.getD s 0) all (if d.stp s a<0 then none else some (d.stp s a).toNat) ((Au.mk d.names rows (all.map fun s=>d.final.getD s false)).stp i a):=by
  intro i s hs a ha;have hil:=(List.getElem?_eq_some_iff.1 hs).1;have hsl:=hof s (List.mem_of_getElem? hs);have hr:rows[i]?=some (rows[i]'(by omega)):=by simp
  obtain ⟨g1,g2⟩:=hM.row i s _ hs hr;have hix:=ixK_mem ha;have hxl:ixK a d.names<(rows[i]'(by omega)).length:=by rw [hlenr _ (List.getElem_mem _)];exact ixK_lt ha
  have e1:d.next[s]?=some d.next[s]:=by simp
  have:=g2 (ixK a d.names) (if d.stp s a<0 then none else some (d.stp s a).toNat) _ (by
   unfold nextN;rw [List.getElem?_map,e1,Option.getD_some,getRow h hn e1 hix];rfl) (List.getElem?_eq_getElem hxl)
  have e2:(Au.mk d.names rows (all.map fun s=>d.final.getD s false)).stp i a=(rows[i]'(by omega))[ixK a d.names]:=by
   simp only [Au.stp];rw [if_neg (by omega),Int.toNat_natCast,hr,Option.getD_some];simp [List.getD,hxl]
  rw [e2];exact this
 refine ⟨⟨⟨⟨?_,?_,hlenr,?_,?_,?_⟩,?_⟩,?_,?_⟩,?_⟩
 ·show 0<rows.length;omega
 ·show (all.map _).length=rows.length;rw [List.length_map,hrl]
 ·intro i hi;have hi:i<rows.length:=hi;obtain ⟨s,r,hs,hr,hsl⟩:=hrow i (by omega);have:(all.map fun s=>d.final.getD s false).getD i false=d.final.getD s false:=by simp [List.getD,hs]
  show (all.map fun s=>d.final.getD s false).getD i false=true↔_;rw [this,h.fin s hsl];exact ⟨fun q=>⟨s,hs,q⟩,fun ⟨s',hs',q⟩=>by rw [hs] at hs';cases hs';exact q⟩
 ·intro i hi a ha;have hi:i<rows.length:=hi;obtain ⟨s,r,hs,hr,hsl⟩:=hrow i (by omega);have hsay:=hst i s hs a ha;obtain ⟨p1,p2⟩:=stp_st h hn hsl a;by_cases hneg:d.stp s a<0
  ·rw [if_pos hneg] at hsay;refine .inl ⟨hsay,fun w=>?_⟩
   rintro ⟨s',hs',q⟩
   rw [hs] at hs';cases hs';exact absurd ((p2 w).1 q).1 (by omega)
  ·rw [if_neg hneg] at hsay;obtain ⟨n,e,hn'⟩:=hsay;rw [List.getElem?_map] at hn';obtain ⟨u,hu,hk⟩:=Option.map_eq_some_iff.1 hn';have hul:=hof u (List.mem_of_getElem? hu);have hnl:=(List.getElem?_eq_some_iff.1 hu).1;have htl:(d.stp s a).toNat<d.next.length:=by rcases p1 with q|q;omega;exact q.2
   have hL:=(hC u _ hul htl).1 hk;refine .inr ⟨n,e,by show n<rows.length;omega,fun w=>?_⟩;constructor
   ·rintro ⟨s',hs',q⟩
    rw [hs] at hs';cases hs';exact ⟨u,hu,(hL w).2 ((p2 w).1 q).2⟩
   ·rintro ⟨u',hu',q⟩
    rw [hu] at hu';cases hu';exact ⟨s,hs,(p2 w).2 ⟨by omega,(hL w).1 q⟩⟩
 ·intro i hi a w
  rintro ⟨s,hs,q⟩
  exact h.only s (hof s (List.mem_of_getElem? hs)) a w q
 ·intro i hi;have hi:i<rows.length:=hi;obtain ⟨s,r,hs,hr,hsl⟩:=hrow i (by omega);obtain ⟨w,hw⟩:=hlive s (List.mem_of_getElem? hs);exact ⟨w,s,hs,hw⟩
 ·intro i j hi hj hL;have hi:i<rows.length:=hi;have hj:j<rows.length:=hj;obtain ⟨s,_,hs,_,hsl⟩:=hrow i (by omega);obtain ⟨t,_,ht,_,htl⟩:=hrow j (by omega);have he:=(hC s t hsl htl).2 fun w=>⟨fun q=>by
   obtain ⟨t',ht',q'⟩:=(hL w).1 ⟨s,hs,q⟩;rw [ht] at ht';cases ht';exact q',fun q=>by
   obtain ⟨s',hs',q'⟩:=(hL w).2 ⟨t,ht,q⟩;rw [hs] at hs';cases hs';exact q'⟩
  have g1:(all.map fun s=>C.getD s 0)[i]?=some (C.getD s 0):=by rw [List.getElem?_map,hs];rfl
  have g2:(all.map fun s=>C.getD s 0)[j]?=some (C.getD s 0):=by rw [List.getElem?_map,ht,he];rfl
  obtain ⟨p1,p2⟩:=List.getElem?_eq_some_iff.1 g1;obtain ⟨q1,q2⟩:=List.getElem?_eq_some_iff.1 g2;rcases Nat.lt_trichotomy i j with g|g|g
  ·exact absurd (p2.trans q2.symm) (List.pairwise_iff_getElem.1 hM.nodup _ _ p1 q1 g)
  ·exact g
  ·exact absurd (q2.trans p2.symm) (List.pairwise_iff_getElem.1 hM.nodup _ _ q1 p1 g)
 ·show tabOrd 0 0 rows=some ((rows.length:Int)-1);rw [hM.ord,hrl]
 ·intro w;constructor
  ·rintro ⟨s,hs,q⟩
   rw [hM.first] at hs;cases hs;exact q
  ·intro q;exact ⟨0,hM.first,q⟩
theorem numbered_least {d:Au}{L:Nat→Row→Prop}(h:Sem d L)(hn:d.names.Nodup){C:List Int}(hC:Exact d L C):Least (numbered d C) (numL d C L)∧∀w,numL d C L 0 w↔L 0 w:=
 numbered_least0 h.toSem0 hn hC fun s hs=>h.live s (numM_of h.toSem0 hn C _ s hs)
theorem numbered_one {d:Au}{L:Nat→Row→Prop}(h:Sem d L)(hn:d.names.Nodup){C C':List Int}(hC:Exact d L C)(hC':Exact d L C'):numbered d C=numbered d C':=by
 obtain ⟨h1,h2⟩:=numbered_least h hn hC;obtain ⟨h3,h4⟩:=numbered_least h hn hC';obtain ⟨e1,e2⟩:=least_one h1 h3 hn rfl fun w=>(h2 w).trans (h4 w).symm;have:∀a b:Au,a.names=b.names→a.next=b.next→a.final=b.final→a=b:=fun ⟨_,_,_⟩ ⟨_,_,_⟩ h1 h2 h3=>by
  simp only at h1 h2 h3;rw [h1,h2,h3]
 exact this _ _ rfl e1 e2
open Classical in
noncomputable def cstar (n:Nat)(L:Nat→Row→Prop):List Int:=(List.range n).map fun i=>((List.range n).findIdx fun j=>decide (∀w,L j w↔L i w):Nat)
open Classical in
theorem cstar_exact (d:Au)(L:Nat→Row→Prop):Exact d L (cstar d.next.length L):=by
 intro i j hi hj;have hg:∀i,i<d.next.length→(cstar d.next.length L).getD i 0=((List.range d.next.length).findIdx fun j=>decide (∀w,L j w↔L i w):Nat):=fun i hi=>by simp [cstar,List.getD,hi]
 rw [hg i hi,hg j hj];have hf:∀i,i<d.next.length→∃hlt:(List.range d.next.length).findIdx (fun j=>decide (∀w,L j w↔L i w))<d.next.length,∀w,L ((List.range d.next.length).findIdx (fun j=>decide (∀w,L j w↔L i w))) w↔L i w:=fun i hi=>by
  have hlt:(List.range d.next.length).findIdx (fun j=>decide (∀w,L j w↔L i w))<(List.range d.next.length).length:=List.findIdx_lt_length_of_exists ⟨i,by simp [hi],by simp⟩;have:=List.findIdx_getElem (w:=hlt);simp only [List.getElem_range,decide_eq_true_eq] at this;exact ⟨by simpa using hlt,this⟩
 constructor
 ·intro e w;have e:(List.range d.next.length).findIdx (fun j=>decide (∀w,L j w↔L i w))=(List.range d.next.length).findIdx (fun k=>decide (∀w,L k w↔L j w)):=by omega
  obtain ⟨_,h1⟩:=hf i hi;obtain ⟨_,h2⟩:=hf j hj;rw [e] at h1;exact (h1 w).symm.trans (h2 w)
 ·intro hL;have:(fun k=>decide (∀w,L k w↔L i w))=fun k=>decide (∀w,L k w↔L j w):=by
   funext k;congr 1;apply propext;exact ⟨fun q w=>(q w).trans (hL w),fun q w=>(q w).trans (hL w).symm⟩
  rw [this]
noncomputable def leastA (d:Au)(L:Nat→Row→Prop):Au:=numbered d (cstar d.next.length L)
theorem leastA_eq {d:Au}{L:Nat→Row→Prop}(h:Sem d L)(hn:d.names.Nodup){C:List Int}(hC:Exact d L C):numbered d C=leastA d L:=numbered_one h hn hC (cstar_exact d L)
def blt (a b:ByteArray):Prop:=a.data.toList<b.data.toList
theorem bext {a b:ByteArray}(h:a.data.toList=b.data.toList):a=b:=by
 cases a;cases b;simp at h;simp [h]
theorem blt_irrefl (a:ByteArray):¬blt a a:=List.lt_irrefl _
theorem blt_trans {a b c:ByteArray}(h:blt a b)(h':blt b c):blt a c:=List.lt_trans h h'
theorem blt_tri (a b:ByteArray):blt a b∨a=b∨blt b a:=by
 by_cases h:blt a b
 ·exact .inl h
 ·by_cases h':blt b a
  ·exact .inr (.inr h')
  ·exact .inr (.inl (bext (List.le_antisymm (List.not_lt.1 h') (List.not_lt.1 h))))
def lexlt:Row→Row→Prop
 |a::u,b::v=>blt a b∨(a=b∧lexlt u v)
 |_,_=>False
theorem lexlt_irrefl:∀u:Row,¬lexlt u u
 |[]=>fun h=>h
 |a::u=>fun h=>by
  rcases h with h|⟨_,h⟩
  ·exact blt_irrefl a h
  ·exact lexlt_irrefl u h
theorem lexlt_trans:∀ {u v w:Row},lexlt u v→lexlt v w→lexlt u w
 |[],_,_,h,_=>h.elim
 |_::_,[],_,h,_=>h.elim
 |_::_,_::_,[],_,h=>h.elim
 |a::u,b::v,c::w,h,h'=>by
  rcases h with h|⟨rfl,h⟩
  ·rcases h' with h'|⟨rfl,h'⟩
   ·exact .inl (blt_trans h h')
   ·exact .inl h
  ·rcases h' with h'|⟨rfl,h'⟩
   ·exact .inl h'
   ·exact .inr ⟨rfl,lexlt_trans h h'⟩
theorem lexlt_tri:∀(u v:Row),u.length=v.length→lexlt u v∨u=v∨lexlt v u
 |[],[],_=>.inr (.inl rfl)
 |[],_::_,h=>by simp at h
 |_::_,[],h=>by simp at h
 |a::u,b::v,h=>by
  rcases blt_tri a b with g|rfl|g
  ·exact .inl (.inl g)
  ·rcases lexlt_tri u v (by simpa using h) with g|rfl|g
   ·exact .inl (.inr ⟨rfl,g⟩)
   ·exact .inr (.inl rfl)
   ·exact .inr (.inr (.inr ⟨rfl,g⟩))
  ·exact .inr (.inr (.inl g))
theorem lexlt_app:∀ {u v:Row} (x y:Row),u.length=v.length→lexlt u v→lexlt (u++x) (v++y)
 |[],_,_,_,_,h=>h.elim
 |_::_,[],_,_,_,h=>h.elim
 |a::u,b::v,x,y,hl,h=>by
  rcases h with h|⟨rfl,h⟩
  ·exact .inl h
  ·exact .inr ⟨rfl,lexlt_app x y (by simpa using hl) h⟩
theorem lexlt_last {x y:ByteArray}(h:blt x y):∀u:Row,lexlt (u++[x]) (u++[y])
 |[]=>.inl h
 |a::u=>.inr ⟨rfl,lexlt_last h u⟩
def slt (u v:Row):Prop:=u.length<v.length∨(u.length=v.length∧lexlt u v)
def sle (u v:Row):Prop:=u=v∨slt u v
theorem slt_irrefl (u:Row):¬slt u u:=by
 rintro (h|⟨_,h⟩)
 ·omega
 ·exact lexlt_irrefl u h
theorem slt_trans {u v w:Row}(h:slt u v)(h':slt v w):slt u w:=by
 rcases h with h|⟨h,g⟩
 ·rcases h' with h'|⟨h',_⟩
  ·exact .inl (by omega)
  ·exact .inl (by omega)
 ·rcases h' with h'|⟨h',g'⟩
  ·exact .inl (by omega)
  ·exact .inr ⟨by omega,lexlt_trans g g'⟩
theorem slt_tri (u v:Row):slt u v∨u=v∨slt v u:=by
 rcases Nat.lt_trichotomy u.length v.length with h|h|h
 ·exact .inl (.inl h)
 ·rcases lexlt_tri u v h with g|g|g
  ·exact .inl (.inr ⟨h,g⟩)
  ·exact .inr (.inl g)
  ·exact .inr (.inr (.inr ⟨h.symm,g⟩))
 ·exact .inr (.inr (.inl h))
theorem sle_trans {u v w:Row}(h:sle u v)(h':sle v w):sle u w:=by
 rcases h with rfl|h
 ·exact h'
 ·rcases h' with rfl|h'
  ·exact .inr h
  ·exact .inr (slt_trans h h')
theorem slt_sle {u v w:Row}(h:slt u v)(h':sle v w):slt u w:=by
 rcases h' with rfl|h'
 ·exact h
 ·exact slt_trans h h'
theorem sle_slt {u v w:Row}(h:sle u v)(h':slt v w):slt u w:=by
 rcases h with rfl|h
 ·exact h'
 ·exact slt_trans h h'
theorem slt_snoc {u v:Row}(x y:ByteArray)(h:slt u v):slt (u++[x]) (v++[y]):=by
 rcases h with h|⟨h,g⟩
 ·exact .inl (by simp;omega)
 ·exact .inr ⟨by simp [h],lexlt_app _ _ h g⟩
theorem sle_snoc {u v:Row}(x:ByteArray)(h:sle u v):sle (u++[x]) (v++[x]):=by
 rcases h with rfl|h
 ·exact .inl rfl
 ·exact .inr (slt_snoc x x h)
theorem slt_last {x y:ByteArray}(u:Row)(h:blt x y):slt (u++[x]) (u++[y]):=.inr ⟨by simp,lexlt_last h u⟩
theorem slt_app (u:Row)(x:ByteArray):slt u (u++[x]):=.inl (by simp)
theorem sle_nil (u:Row):sle [] u:=by
 cases u with
 |nil=>exact .inl rfl
 |cons a u=>exact .inr (.inl (by simp))
abbrev Way:=(Int × Int) × Row
section
variable (a b:Au) (bad:Int→Int→Bool) (names:List ByteArray)
def pr (w:Row):Int × Int:=(a.run 0 w,b.run 0 w)
def stp2 (p:Int × Int)(x:ByteArray):Int × Int:=(a.stp p.1 x,b.stp p.2 x)
theorem pr_snoc (w:Row)(x:ByteArray):pr a b (w++[x])=stp2 a b (pr a b w) x:=by
 simp [pr,stp2,run_append,run_cons,run_nil]
structure Ways (i:Nat) (done:List ByteArray) (ways:List Way):Prop where
 first:ways[0]?=some ((0,0),[])
 at':∀q∈ways,q.1=pr a b q.2∧∀x∈q.2,x∈names
 nodup:(ways.map (·.1)).Nodup
 alive:∀q∈ways,q.1≠(-1,-1)
 sorted:∀(m m':Nat) (q q':Way),m<m'→ways[m]?=some q→ways[m']?=some q'→slt q.2 q'.2
 last:∀q∈ways,q.2 = []∨∃(k:Nat) (p:Way) (x:ByteArray),ways[k]?=some p∧q.2=p.2++[x]∧(k<i∨(k=i∧x∈done))
 next:∀(k:Nat) (p:Way) (x:ByteArray),ways[k]?=some p→x∈names→(k<i∨(k=i∧x∈done))→stp2 a b p.1 x=(-1,-1)∨∃q∈ways,q.1=stp2 a b p.1 x∧sle q.2 (p.2++[x])
 good:∀(k:Nat) (p:Way),ways[k]?=some p→(k<i∨(k=i∧done≠[]))→bad p.1.1 p.1.2=false
theorem ways_start:Ways a b bad names 0 [] [((0,0),[])]:=by
 refine ⟨rfl,fun q hq=>?_,by simp,fun q hq=>?_,fun m m' q q' hlt h1 h2=>?_,fun q hq=>?_,fun k p x hk _ h=>?_,fun k p hk h=>?_⟩
 ·simp at hq;subst hq;exact ⟨rfl,fun x hx=>by cases hx⟩
 ·simp at hq;subst hq;decide
 ·have:=(List.getElem?_eq_some_iff.1 h2).1;simp at this;omega
 ·simp at hq;subst hq;exact .inl rfl
 ·rcases h with h|⟨_,h⟩
  ·omega
  ·cases h
 ·rcases h with h|⟨_,h⟩
  ·omega
  ·exact absurd rfl h
variable {a b bad names}
theorem ways_pos {i:Nat}{done:List ByteArray}{ways:List Way}(h:Ways a b bad names i done ways):0<ways.length:=(List.getElem?_eq_some_iff.1 h.first).1
theorem ways_ahead {i:Nat}{done rest:List ByteArray}{ways:List Way}{x:ByteArray}(h:Ways a b bad names i done ways)(hn:(done++x::rest).Pairwise blt){p:Way}(hp:ways[i]?=some p):∀q∈ways,slt q.2 (p.2++[x]):=by
 intro q hq;rcases h.last q hq with e|⟨k,p',y,hk,e,hki|⟨rfl,hy⟩⟩
 ·rw [e];exact sle_slt (sle_nil p.2) (slt_app _ _)
 ·rw [e];exact slt_snoc y x (h.sorted k i p' p hki hk hp)
 ·rw [hk] at hp;cases hp;rw [e];exact slt_last _ ((List.pairwise_append.1 hn).2.2 y hy x (by simp))
theorem ways_old {i:Nat}{done rest:List ByteArray}{ways:List Way}{x:ByteArray}(h:Ways a b bad names i done ways)(hn:(done++x::rest).Pairwise blt){p:Way}(hp:ways[i]?=some p)(hgood:bad p.1.1 p.1.2=false)
 (hm:stp2 a b p.1 x=(-1,-1)∨stp2 a b p.1 x∈ways.map (·.1)):Ways a b bad names i (done++[x]) ways:=by
 refine { h with last:=fun q hq=>?_,next:=fun k p' y hk hy hd=>?_,good:=fun k p' hk hd=>?_ }
 ·rcases h.last q hq with e|⟨k,p',y,hk,e,hki|⟨rfl,hy⟩⟩
  ·exact .inl e
  ·exact .inr ⟨k,p',y,hk,e,.inl hki⟩
  ·exact .inr ⟨k,p',y,hk,e,.inr ⟨rfl,by simp [hy]⟩⟩
 ·rcases hd with hd|⟨rfl,hd⟩
  ·exact h.next k p' y hk hy (.inl hd)
  ·rcases List.mem_append.1 hd with hd|hd
   ·exact h.next k p' y hk hy (.inr ⟨rfl,hd⟩)
   ·simp at hd;subst hd;rw [hk] at hp;cases hp;rcases hm with hm|hm
    ·exact .inl hm
    ·obtain ⟨q,hq,e⟩:=List.mem_map.1 hm;exact .inr ⟨q,hq,e,.inr (ways_ahead h hn hk q hq)⟩
 ·rcases hd with hd|⟨rfl,_⟩
  ·exact h.good k p' hk (.inl hd)
  ·rw [hk] at hp;cases hp;exact hgood
theorem ways_new {i:Nat}{done rest:List ByteArray}{ways:List Way}{x:ByteArray}(h:Ways a b bad names i done ways)(hn:(done++x::rest).Pairwise blt)(hx:x∈names){p:Way}(hp:ways[i]?=some p)(hgood:bad p.1.1 p.1.2=false)
 (hm:stp2 a b p.1 x≠(-1,-1)) (hm':stp2 a b p.1 x∉ways.map (·.1)):Ways a b bad names i (done++[x]) (ways++[(stp2 a b p.1 x,p.2++[x])]):=by
 have hah:=ways_ahead h hn hp;have hpm:=List.mem_of_getElem? hp;have h0:=ways_pos h;have hil:=(List.getElem?_eq_some_iff.1 hp).1;have old:∀(k:Nat) (q:Way),(ways++[(stp2 a b p.1 x,p.2++[x])])[k]?=some q→(ways[k]?=some q)∨(k=ways.length∧q=(stp2 a b p.1 x,p.2++[x])):=fun k q hk=>by
  by_cases hlt:k<ways.length
  ·rw [List.getElem?_append_left hlt] at hk;exact .inl hk
  ·rw [List.getElem?_append_right (by omega)] at hk;have:=(List.getElem?_eq_some_iff.1 hk).1;simp at this;have hk0:k-ways.length=0:=(by omega);rw [hk0] at hk;simp at hk;exact .inr ⟨by omega,hk.symm⟩
 have keep:∀(k:Nat) (q:Way),ways[k]?=some q→(ways++[(stp2 a b p.1 x,p.2++[x])])[k]?=some q:=fun k q hk=>by
  rw [List.getElem?_append_left (List.getElem?_eq_some_iff.1 hk).1];exact hk
 refine ⟨keep 0 _ h.first,fun q hq=>?_,?_,fun q hq=>?_,fun m m' q q' hlt h1 h2=>?_,fun q hq=>?_,fun k p' y hk hy hd=>?_,fun k p' hk hd=>?_⟩
 ·rcases List.mem_append.1 hq with hq|hq
  ·exact h.at' q hq
  ·simp at hq;subst hq;obtain ⟨e1,e2⟩:=h.at' p hpm;refine ⟨?_,fun y hy=>?_⟩
   ·show stp2 a b p.1 x=pr a b (p.2++[x]);rw [pr_snoc,e1]
   ·rcases List.mem_append.1 hy with hy|hy
    ·exact e2 y hy
    ·simp at hy;rw [hy];exact hx
 ·rw [List.map_append];refine List.nodup_append.2 ⟨h.nodup,by simp,fun u hu v hv=>?_⟩;simp at hv;subst hv;exact fun e=>hm' (e ▸ hu)
 ·rcases List.mem_append.1 hq with hq|hq
  ·exact h.alive q hq
  ·simp at hq;subst hq;exact hm
 ·rcases old m' q' h2 with g2|⟨rfl,rfl⟩
  ·rcases old m q h1 with g1|⟨rfl,rfl⟩
   ·exact h.sorted m m' q q' hlt g1 g2
   ·have:=(List.getElem?_eq_some_iff.1 g2).1;omega
  ·rcases old m q h1 with g1|⟨g1,_⟩
   ·exact hah q (List.mem_of_getElem? g1)
   ·omega
 ·rcases List.mem_append.1 hq with hq|hq
  ·rcases h.last q hq with e|⟨k,p',y,hk,e,hki|⟨rfl,hy⟩⟩
   ·exact .inl e
   ·exact .inr ⟨k,p',y,keep k p' hk,e,.inl hki⟩
   ·exact .inr ⟨k,p',y,keep k p' hk,e,.inr ⟨rfl,by simp [hy]⟩⟩
  ·simp at hq;subst hq;exact .inr ⟨i,p,x,keep i p hp,rfl,.inr ⟨rfl,by simp⟩⟩
 ·have hki:k<ways.length:=by rcases hd with hd|⟨rfl,_⟩<;>omega
  rcases old k p' hk with g|⟨g,_⟩
  ·have up:(stp2 a b p'.1 y=(-1,-1)∨∃q∈ways,q.1=stp2 a b p'.1 y∧sle q.2 (p'.2++[y]))→(stp2 a b p'.1 y=(-1,-1)∨∃q∈ways++[(stp2 a b p.1 x,p.2++[x])],q.1=stp2 a b p'.1 y∧sle q.2 (p'.2++[y])):=by
    rintro (e|⟨q,hq,e⟩)
    ·exact .inl e
    ·exact .inr ⟨q,by simp [hq],e⟩
   rcases hd with hd|⟨rfl,hd⟩
   ·exact up (h.next k p' y g hy (.inl hd))
   ·rcases List.mem_append.1 hd with hd|hd
    ·exact up (h.next k p' y g hy (.inr ⟨rfl,hd⟩))
    ·simp at hd;subst hd;rw [g] at hp;cases hp;exact .inr ⟨_,List.mem_append.2 (.inr (List.mem_singleton.2 rfl)),rfl,.inl rfl⟩
  ·omega
 ·have hki:k<ways.length:=by rcases hd with hd|⟨rfl,_⟩<;>omega
  rcases old k p' hk with g|⟨g,_⟩
  ·rcases hd with hd|⟨rfl,_⟩
   ·exact h.good k p' g (.inl hd)
   ·rw [g] at hp;cases hp;exact hgood
  ·omega
theorem ways_turn {i:Nat}{done:List ByteArray}{ways:List Way}(h:Ways a b bad names i done ways)(hd:∀x∈names,x∈done){p:Way}(hp:ways[i]?=some p)(hgood:bad p.1.1 p.1.2=false):Ways a b bad names (i+1) [] ways:=by
 refine { h with last:=fun q hq=>?_,next:=fun k p' y hk hy hd'=>?_,good:=fun k p' hk hd'=>?_ }
 ·rcases h.last q hq with e|⟨k,p',y,hk,e,hki|⟨rfl,hy⟩⟩
  ·exact .inl e
  ·exact .inr ⟨k,p',y,hk,e,.inl (by omega)⟩
  ·exact .inr ⟨k,p',y,hk,e,.inl (by omega)⟩
 ·rcases hd' with hk'|⟨_,hd'⟩
  ·by_cases hki:k<i
   ·exact h.next k p' y hk hy (.inl hki)
   ·have:k=i:=(by omega);subst this;exact h.next k p' y hk hy (.inr ⟨rfl,hd y hy⟩)
  ·cases hd'
 ·rcases hd' with hk'|⟨_,hd'⟩
  ·by_cases hki:k<i
   ·exact h.good k p' hk (.inl hki)
   ·have:k=i:=(by omega);subst this;rw [hk] at hp;cases hp;exact hgood
  ·exact absurd rfl hd'
theorem ways_reach {i:Nat}{ways:List Way}(h:Ways a b bad names i [] ways)(hna:∀r∈a.next,r.length=a.names.length)(hnb:∀r∈b.next,r.length=b.names.length)(hnm:∀x,x∈names↔x∈a.names∨x∈b.names):∀(n:Nat) (w:Row),w.length=n→(∀q,ways[i]?=some q→slt w q.2)→
 pr a b w=(-1,-1)∨∃q∈ways,q.1=pr a b w∧sle q.2 w:=by
 intro n;induction n with
 |zero=>
  intro w hw _;obtain rfl:=List.eq_nil_of_length_eq_zero hw;exact .inr ⟨_,List.mem_of_getElem? h.first,rfl,.inl rfl⟩
 |succ n ih=>
  intro w hw hlt;obtain ⟨u,x,rfl⟩:∃u x,w=u++[x]:=⟨w.dropLast,w.getLast (by intro e;rw [e] at hw;cases hw),(List.dropLast_concat_getLast _).symm⟩;have hu:u.length=n:=by simpa using hw
  rw [pr_snoc];rcases ih u hu (fun q hq=>slt_trans (slt_app u x) (hlt q hq)) with e|⟨q,hq,e,hle⟩
  ·left;rw [e];simp [stp2,stp_neg]
  ·by_cases hx:x∈names
   ·obtain ⟨k,hk⟩:=List.getElem?_of_mem hq;have hki:k<i:=by
     refine Classical.byContradiction fun hge=>?_;by_cases hil:i<ways.length
     ·have hqi:ways[i]?=some ways[i]:=(by simp);have h1:=hlt _ hqi;have h2:sle ways[i].2 q.2:=by
       by_cases hik:i=k
       ·subst hik;rw [hk] at hqi;cases hqi;exact .inl rfl
       ·exact .inr (h.sorted i k _ _ (by omega) hqi hk)
      exact slt_irrefl _ (slt_sle h1 (sle_trans h2 (sle_trans hle (.inr (slt_app u x)))))
     ·have:=(List.getElem?_eq_some_iff.1 hk).1;omega
    rcases h.next k q x hk hx (.inl hki) with e'|⟨q',hq',e',hle'⟩
    ·left;rw [←e];exact e'
    ·right;exact ⟨q',hq',by rw [e',e],sle_trans hle' (sle_snoc x hle)⟩
   ·left;have h1:x∉a.names:=fun q=>hx ((hnm x).2 (.inl q));have h2:x∉b.names:=fun q=>hx ((hnm x).2 (.inr q));simp [stp2,stp_not a _ h1 hna,stp_not b _ h2 hnb]
theorem ways_found {i:Nat}{ways:List Way}(h:Ways a b bad names i [] ways)(hna:∀r∈a.next,r.length=a.names.length)(hnb:∀r∈b.next,r.length=b.names.length)(hnm:∀x,x∈names↔x∈a.names∨x∈b.names)(hd:bad (-1) (-1)=false){p:Way}(hp:ways[i]?=some p) :
 ∀w,slt w p.2→bad (pr a b w).1 (pr a b w).2=false:=by
 intro w hw;rcases ways_reach h hna hnb hnm w.length w rfl (fun q hq=>by rw [hp] at hq;cases hq;exact hw) with e|⟨q,hq,e,hle⟩
 ·rw [e];exact hd
 ·obtain ⟨k,hk⟩:=List.getElem?_of_mem hq;rw [←e];refine h.good k q hk (.inl ?_);refine Classical.byContradiction fun hge=>?_;by_cases hik:i=k
  ·subst hik;rw [hk] at hp;cases hp;exact slt_irrefl _ (slt_sle hw hle)
  ·exact slt_irrefl _ (slt_trans hw (slt_sle (h.sorted i k _ _ (by omega) hp hk) hle))
theorem ways_none {i:Nat}{ways:List Way}(h:Ways a b bad names i [] ways)(hna:∀r∈a.next,r.length=a.names.length)(hnb:∀r∈b.next,r.length=b.names.length)(hnm:∀x,x∈names↔x∈a.names∨x∈b.names)(hd:bad (-1) (-1)=false)(hi:ways.length≤i) :
 ∀w,bad (pr a b w).1 (pr a b w).2=false:=by
 intro w;rcases ways_reach h hna hnb hnm w.length w rfl (fun q hq=>by rw [List.getElem?_eq_none (by omega)] at hq;cases hq) with e|⟨q,hq,e,hle⟩
 ·rw [e];exact hd
 ·obtain ⟨k,hk⟩:=List.getElem?_of_mem hq;rw [←e];exact h.good k q hk (.inl (by have:=(List.getElem?_eq_some_iff.1 hk).1;omega))
end
def LeastRow (D:Row→Prop)(w:Row):Prop:=D w∧∀v,slt v w→¬D v
theorem leastRow_one {D:Row→Prop}{u v:Row}(hu:LeastRow D u)(hv:LeastRow D v):u=v:=by
 rcases slt_tri u v with h|h|h
 ·exact absurd hu.1 (hv.2 u h)
 ·exact h
 ·exact absurd hv.1 (hu.2 v h)
open Classical in
noncomputable def theRow (D:Row→Prop):Row:=if h:∃w,LeastRow D w then h.choose else []
theorem theRow_eq {D:Row→Prop}{w:Row}(h:LeastRow D w):theRow D=w:=by
 have hx:∃w,LeastRow D w:=⟨w,h⟩;unfold theRow;rw [dif_pos hx];exact leastRow_one hx.choose_spec h
theorem theRow_none {D:Row→Prop}(h:∀w,¬D w):theRow D = []:=by
 unfold theRow;rw [dif_neg (fun ⟨w,hw⟩=>h w hw.1)]
theorem text_low:∀c∈(⟨#[116,101,120,116]⟩:ByteArray).data.toList,isLow c=true:=by decide
theorem name_low6 {e:E}(h:e.ok=true)(h1:e.op=110):(∀c∈e.name.data.toList,isLow c=true)∧e.name.data.toList≠[]:=by
 rw [E.ok_eq] at h;simp [h1] at h;rcases h.2 with h|h
 ·simp only [isName,Bool.and_eq_true,decide_eq_true_eq,List.all_eq_true] at h;obtain ⟨⟨⟨h2,h3⟩,h4⟩,_⟩:=h;refine ⟨fun c hc=>by have:=h4 c hc;simp [isLow,this],fun hn=>?_⟩;have:e.name.data.toList.length=e.name.size:=Array.length_toList;rw [hn] at this;simp at this;omega
 ·rw [h];exact ⟨text_low,by decide⟩
theorem head_ok (e:E)(h:e.ok=true)(b:Bool):∃c l,e.txl b=c::l∧c≠41∧(isLow c=true∨c=40):=by
 have hkid:∀k∈e.kids,¬e.op=110→∀b,∃c l,k.txl b=c::l∧c≠41∧(isLow c=true∨c=40):=fun k hk h1 b=>head_ok k (E.ok_kids h h1 k hk).1 b;rcases E.ok_ops h with ⟨h1,_⟩|⟨h1,_,h2⟩|⟨h1,_,h2⟩|⟨h1,_,k,h2,_⟩
 ·obtain ⟨a,b'⟩:=name_low6 h h1;unfold E.txl;rw [text_eq,if_pos h1];cases hl:e.name.data.toList with
  |nil=>exact absurd hl b'
  |cons c l=>
   rw [hl] at a;have:=a c (by simp);refine ⟨c,l,rfl,fun hc=>?_,.inl this⟩;subst hc;cases this
 ·unfold E.txl;rw [text_eq,if_neg (by omega),if_pos h1];split
  ·exact ⟨40,[41],rfl,by decide,.inr rfl⟩
  ·rw [par_list];split
   ·exact ⟨40,_,rfl,by decide,.inr rfl⟩
   ·cases hkk:e.kids with
    |nil=>rename_i h0 _;rw [hkk] at h0;simp at h0
    |cons x xs=>
     obtain ⟨c,l,q1,q2,q3⟩:=hkid x (by rw [hkk];simp) (by omega) (!decide (e.op=97));have:=join_list (fun z=>z.text (!decide (e.op=97))) 32 x xs;rw [this];exact ⟨c,_,by rw [show (x.text (!decide (e.op=97))).data.toList=c::l from q1];rfl,q2,q3⟩
 ·unfold E.txl;rw [text_eq,if_neg (by omega),if_neg (by omega),if_pos h1,par_list];split
  ·exact ⟨40,_,rfl,by decide,.inr rfl⟩
  ·cases hkk:e.kids with
   |nil=>rw [hkk] at h2;simp at h2
   |cons x xs=>
    obtain ⟨c,l,q1,q2,q3⟩:=hkid x (by rw [hkk];simp) (by omega) (!decide (e.op=97));have:=join_list (fun z=>z.text (!decide (e.op=97))) 124 x xs;rw [this];exact ⟨c,_,by rw [show (x.text (!decide (e.op=97))).data.toList=c::l from q1];rfl,q2,q3⟩
 ·unfold E.txl;rw [text_eq,if_neg (by omega),if_neg (by omega),if_neg (by omega),app_list,h2];obtain ⟨c,l,q1,q2,q3⟩:=hkid k (by rw [h2];simp) (by omega) (!decide (e.op=97));have e1:joinB ([k].map fun z=>z.text (!decide (e.op=97))) ⟨#[]⟩=k.text (!decide (e.op=97)):=ext_list (by simp [joinB,Lib.join_one]);rw [e1];exact ⟨c,_,by rw [show (k.text (!decide (e.op=97))).data.toList=c::l from q1];rfl,q2,q3⟩
termination_by SizeOf.sizeOf e
decreasing_by exact E.kids_lt hk
theorem base_reads (k:Nat)(e:E)(hok:e.ok=true)(hsx:e.suffix=false)(halt:e.op=97∨(e.op=115∧e.kids≠[])→Reads (altR k) (e.txl false) e (e.cnt-1) Calt)(r:List UInt8)(m:Int)(hr:∀c,r.head?=some c→isLow c=false)(h0:0≤m)(hm:m+(e.cnt-1:Nat)≤48) :
 ∃m':Int,m≤m'∧m'≤m+(e.cnt-1:Nat)∧baseF tl (altR k) ⟨B (e.txl true++r),false,m⟩=(e,⟨B r,false,m'⟩):=by
 have hmk:e = .mk e.op e.name e.kids:=by obtain ⟨o,n,ks⟩:=e;rfl
 have bracket:e.txl true=40::(e.txl false++[41])→(e.op=97∨(e.op=115∧e.kids≠[]))→∃m':Int,m≤m'∧m'≤m+(e.cnt-1:Nat)∧baseF tl (altR k) ⟨B (e.txl true++r),false,m⟩=(e,⟨B r,false,m'⟩):=by
  intro ht hop;obtain ⟨c,l,q1,q2,q3⟩:=head_ok e hok false;obtain ⟨m',a,b,h⟩:=halt hop (41::r) m ⟨⟨Cend_cons (by decide) (by decide) (by decide) (by decide) r,by simp⟩,by simp⟩ h0 hm;refine ⟨m',a,b,?_⟩;have e1:e.txl true++r = [40]++(e.txl false++(41::r)):=by rw [ht];simp
  have p1:hasPre (B ([40]++(e.txl false++(41::r)))) ⟨#[40,41]⟩=false:=by
   cases hh:hasPre (B ([40]++(e.txl false++(41::r)))) ⟨#[40,41]⟩ with
   |false=>rfl
   |true=>
    obtain ⟨z,hz⟩:=(hp_iff _ [40,41]).1 hh;rw [q1] at hz;simp at hz;exact absurd hz.1 q2
  have p2:=hp_yes [40] (e.txl false++(41::r));have p3:=hp_yes [41] r;unfold baseF;rw [e1];simp only [p1,St.cut,cp_no p1,show hasPre (B ([40]++(e.txl false++(41::r)))) ⟨#[40]⟩=true from p2,show cutPre (B ([40]++(e.txl false++(41::r)))) ⟨#[40]⟩=B (e.txl false++(41::r)) from cp_yes [40] _,h,
   show hasPre (B (41::r)) ⟨#[41]⟩=true from p3,show cutPre (B (41::r)) ⟨#[41]⟩=B r from cp_yes [41] r]
  rfl
 rcases E.ok_ops hok with ⟨h1,hk⟩|⟨h1,hn,h2⟩|⟨h1,hn,h2⟩|⟨h1,hn,x,h2,_⟩
 ·obtain ⟨hl,hne⟩:=name_low6 hok h1;have ht:e.txl true=e.name.data.toList:=by unfold E.txl;rw [text_eq,if_pos h1]
  refine ⟨m,Int.le_refl _,by omega,?_⟩;rw [ht];have hd:(e.name.data.toList++r).dropWhile isLow=r:=by
   have:∀l:List UInt8,(∀c∈l,isLow c=true)→(l++r).dropWhile isLow=r:=by
    intro l;induction l with
    |nil=>
     intro _;cases r with
     |nil=>rfl
     |cons c r=>simp [List.dropWhile,hr c rfl]
    |cons x l ih=>
     intro h;simp [List.dropWhile,h x (by simp),ih fun c hc=>h c (by simp [hc])]
   exact this _ hl
  have hh:∀x:UInt8,isLow x=false→(e.name.data.toList++r).head?≠some x:=by
   intro x hx;cases hnl:e.name.data.toList with
   |nil=>exact absurd hnl hne
   |cons c l=>
    simp;intro hc;subst hc;rw [hl c (by rw [hnl];simp)] at hx;cases hx
  have p1:hasPre (B (e.name.data.toList++r)) ⟨#[40,41]⟩=false:=by
   cases hq:hasPre (B (e.name.data.toList++r)) ⟨#[40,41]⟩ with
   |false=>rfl
   |true=>
    obtain ⟨z,hz⟩:=(hp_iff _ [40,41]).1 hq;exact absurd (by rw [hz];rfl) (hh 40 (by decide))
  have p2:hasPre (B (e.name.data.toList++r)) ⟨#[40]⟩=false:=hp_one_no (hh 40 (by decide));have htl:tl (B (e.name.data.toList++r))=B r:=by rw [tl_B,hd]
  have hex:(B (e.name.data.toList++r)).extract 0 ((B (e.name.data.toList++r)).size-(B r).size)=e.name:=by
   refine ext_list ?_;rw [extract_list,B_list,B_size,B_size];simp
  unfold baseF;simp only [p1,St.cut,cp_no p1,p2,cp_no p2,htl,hex]
  conv=>rhs;rw [hmk,h1,hk]
  rfl
 ·by_cases hk:e.kids = []
  ·have ht:e.txl true = [40,41]:=by unfold E.txl;rw [text_eq,if_neg (by omega),if_pos h1,if_pos (by rw [hk];rfl)]
   refine ⟨m,Int.le_refl _,by omega,?_⟩;rw [ht];unfold baseF;have p1:=hp_yes [40,41] r;simp only [show hasPre (B ([40,41]++r)) ⟨#[40,41]⟩=true from p1,St.cut,show cutPre (B ([40,41]++r)) ⟨#[40,41]⟩=B r from cp_yes [40,41] r]
   conv=>rhs;rw [hmk,h1,hk,hn]
   rfl
  ·refine bracket ?_ (.inr ⟨h1,hk⟩);have ht:∀b,e.text b=par b (joinB (e.kids.map fun k=>k.text (!decide (e.op=97))) ⟨#[32]⟩):=fun b=>by
    rw [text_eq,if_neg (by omega),if_pos h1,if_neg (by simpa using hk)]
   unfold E.txl;rw [ht,ht,par_list,par_list];simp
 ·refine bracket ?_ (.inl h1);have ht:∀b,e.text b=par b (joinB (e.kids.map fun k=>k.text (!decide (e.op=97))) ⟨#[124]⟩):=fun b=>by
   rw [text_eq,if_neg (by omega),if_neg (by omega),if_pos h1]
  unfold E.txl;rw [ht,ht,par_list,par_list];simp
 ·exfalso;simp [E.suffix] at hsx;omega
theorem sfx_none (e:E)(r:List UInt8)(m:Int)(hr:Cend r):sfx e [42,43,63] ⟨B r,false,m⟩=(e,⟨B r,false,m⟩):=by
 have h:∀c:UInt8,(c=42∨c=43∨c=63)→hasPre (B r) (B [c])=false:=by
  intro c hc;refine hp_one_no fun hh=>?_;have:=hr c hh;rcases hc with rfl|rfl|rfl
  ·exact this.2.1 rfl
  ·exact this.2.2.1 rfl
  ·exact this.2.2.2 rfl
 have h1:hasPre (B r) ⟨#[42]⟩=false:=h 42 (by simp);have h2:hasPre (B r) ⟨#[43]⟩=false:=h 43 (by simp);have h3:hasPre (B r) ⟨#[63]⟩=false:=h 63 (by simp);simp only [sfx,enc42,enc43,enc63,h1,h2,h3,St.cut,cp_no h1,cp_no h2,cp_no h3];rfl
theorem sfx_one (e:E)(o:Int)(c:UInt8)(ho:(o=42∧c=42)∨(o=43∧c=43)∨(o=63∧c=63))(r:List UInt8)(m:Int):sfx e [42,43,63] ⟨B (c::r),false,m⟩=(.mk o ⟨#[]⟩ [e],⟨B r,false,m⟩):=by
 have hy:=hp_yes [c] r;have hc:=cp_yes [c] r;have hn:∀d:UInt8,d≠c→hasPre (B (c::r)) (B [d])=false:=fun d hd=>hp_one_no (by simp;exact fun h=>hd h.symm);rcases ho with ⟨rfl,rfl⟩|⟨rfl,rfl⟩|⟨rfl,rfl⟩
 ·have h1:hasPre (B (42::r)) ⟨#[42]⟩=true:=hy;have h2:cutPre (B (42::r)) ⟨#[42]⟩=B r:=hc;simp only [sfx,enc42,h1,St.cut,h2];rfl
 ·have h1:hasPre (B (43::r)) ⟨#[43]⟩=true:=hy;have h2:cutPre (B (43::r)) ⟨#[43]⟩=B r:=hc;have h3:hasPre (B (43::r)) ⟨#[42]⟩=false:=hn 42 (by decide);simp only [sfx,enc42,enc43,h1,St.cut,h2,h3,cp_no h3];rfl
 ·have h1:hasPre (B (63::r)) ⟨#[63]⟩=true:=hy;have h2:cutPre (B (63::r)) ⟨#[63]⟩=B r:=hc;have h3:hasPre (B (63::r)) ⟨#[42]⟩=false:=hn 42 (by decide);have h4:hasPre (B (63::r)) ⟨#[43]⟩=false:=hn 43 (by decide);simp only [sfx,enc42,enc43,enc63,h1,St.cut,h2,h3,cp_no h3,h4,cp_no h4];rfl
theorem enc_op {o:Int}(h:o=42∨o=43∨o=63):∃c:UInt8,Utf8.encode (wr .i32 o)=B [c]∧((o=42∧c=42)∨(o=43∧c=43)∨(o=63∧c=63))∧isLow c=false:=by
 rcases h with rfl|rfl|rfl
 ·exact ⟨42,enc42,by simp,by decide⟩
 ·exact ⟨43,enc43,by simp,by decide⟩
 ·exact ⟨63,enc63,by simp,by decide⟩
theorem item_reads:∀(n:Nat) (e:E),e.cnt≤n→e.ok=true→∀k,e.cnt≤k→Reads (itemN tl k) (e.txl true) e e.cnt Cend
 |0,e,hn,_,_,_=>by have:=cnt_eq e;omega
 |n+1,e,hn,hok,k,hk=>by
  have hc:=cnt_eq e;obtain ⟨k,rfl⟩:∃j,k=j+1:=⟨k-1,by omega⟩;have IH:∀y:E,y.cnt<e.cnt→y.ok=true→Reads (itemN tl k) (y.txl true) y y.cnt Cend:=fun y hy hyo=>item_reads n y (by omega) hyo k (by omega)
  -- a sequence or less,of which all items are smaller
  have SQ:∀y:E,y.cnt<e.cnt→y.ok=true→y.op≠97→Reads (seqR k) (y.txl false) y y.cnt Cseq:=fun y hy hyo hna=>
   seq_reads k y hyo hna (fun _=>IH y hy hyo) (fun h115 z hz=>IH z (by have:=cnt_kid hz;omega) (E.ok_kids hyo (by omega) z hz).1) y.cnt (fun _=>by omega) (fun _=>Nat.le_refl _)
  have AL:∀y:E,y.cnt≤e.cnt→y.ok=true→(y.op=97∨(y.op=115∧y.kids≠[]))→Reads (altR k) (y.txl false) y (y.cnt-1) Calt:=fun y hy hyo hop=>by
   refine alt_reads k y hyo (y.cnt-1) (fun h97=>?_) (fun h97 z hz=>?_) (fun _=>Nat.le_refl _)
   ·have h115:y.op=115∧y.kids≠[]:=by rcases hop with h|h;exact absurd h h97;exact h
    exact seq_reads k y hyo h97 (fun h=>by rcases h with h|h;exact absurd h115.1 h;exact absurd h h115.2) (fun _ z hz=>IH z (by have:=cnt_kid hz;omega) (E.ok_kids hyo (by omega) z hz).1) (y.cnt-1) (fun _=>Nat.le_refl _) (fun h=>absurd h115 h)
   ·have hz':=E.ok_kids hyo (by omega) z hz;exact SQ z (by have:=cnt_kid hz;omega) hz'.1 (by rw [←h97];exact hz'.2)
  intro r m hr h0 hm;have hw:wr .i64 (m+1)=m+1:=wr64 _ (by omega);have h48:¬48<m+1:=by omega
  cases hsx:e.suffix with
  |false=>
   obtain ⟨m',a,b,h⟩:=base_reads k e hok hsx (AL e (Nat.le_refl _) hok) r (m+1) (fun c hc=>(hr c hc).1) (by omega) (by omega);refine ⟨m',by omega,by omega,?_⟩;simp only [itemN,itemF,hw,if_neg h48];rw [h];exact sfx_none e r m' hr
  |true=>
   rcases E.ok_ops hok with ⟨h1,_⟩|⟨h1,_⟩|⟨h1,_⟩|⟨h1,hn',x,h2,hx⟩
   ·simp [E.suffix,h1] at hsx
   ·simp [E.suffix,h1] at hsx
   ·simp [E.suffix,h1] at hsx
   ·obtain ⟨c,q1,q2,q3⟩:=enc_op (o:=e.op) (by omega);have hxo:=(E.ok_kids hok (by omega) x (by rw [h2];simp)).1;have hcx:e.cnt=1+x.cnt:=(by rw [hc,h2];simp);have ht:e.txl true=x.txl true++[c]:=by
     unfold E.txl;rw [text_eq,if_neg (by omega),if_neg (by omega),if_neg (by omega),app_list,h2,q1,B_list];have e1:joinB ([x].map fun z=>z.text (!decide (e.op=97))) ⟨#[]⟩=x.text (!decide (e.op=97)):=ext_list (by simp [joinB,Lib.join_one]);have e2:(!decide (e.op=97))=true:=(by simp;omega);rw [e1,e2]
    obtain ⟨m',a,b,h⟩:=base_reads k x hxo hx (AL x (by omega) hxo) (c::r) (m+1) (fun d hd=>by simp at hd;subst hd;exact q3) (by omega) (by omega);refine ⟨m',by omega,by omega,?_⟩;have he:e = .mk e.op ⟨#[]⟩ [x]:=by
     obtain ⟨o,nn,ks⟩:=e;simp only [E.name,E.kids] at hn' h2;rw [hn',h2];rfl
    simp only [itemN,itemF,hw,if_neg h48];rw [ht,List.append_assoc];show sfx (baseF tl (altR k) ⟨B (x.txl true++([c]++r)),false,m+1⟩).1 _ (baseF tl (altR k) ⟨B (x.txl true++([c]++r)),false,m+1⟩).2=_;rw [show ([c]++r:List UInt8)=c::r from rfl,h,sfx_one x e.op c q2 r m']
    conv=>rhs;rw [he]
theorem parse_text (e:E)(hr:e.right=true)(hc:e.cnt≤1000):parse (e.text false)=(e,0):=by
 have hok:e.ok=true:=by simp [E.right] at hr;exact hr.2
 have h24:e.cnt≤24:=by
  simp [E.right] at hr;have:=many_cnt e (by omega);omega
 have IT:∀y:E,y.cnt≤24→y.ok=true→Reads (itemN tl 49) (y.txl true) y y.cnt Cend:=fun y hy hyo=>item_reads 24 y hy hyo 49 (by omega);have SQ:∀y:E,y.cnt≤24→y.ok=true→y.op≠97→Reads (seqR 49) (y.txl false) y y.cnt Cseq:=fun y hy hyo hna=>
  seq_reads 49 y hyo hna (fun _=>IT y hy hyo) (fun h115 z hz=>IT z (by have:=cnt_kid hz;omega) (E.ok_kids hyo (by omega) z hz).1) y.cnt (fun _=>by omega) (fun _=>Nat.le_refl _)
 have AL:=alt_reads 49 e hok e.cnt (fun h=>SQ e h24 hok h) (fun h97 z hz=>by
  have hz':=E.ok_kids hok (by omega) z hz;exact SQ z (by have:=cnt_kid hz;omega) hz'.1 (by rw [←h97];exact hz'.2)) (fun _=>by omega)
 obtain ⟨m',_,_,h⟩:=AL [] 0 ⟨⟨fun c hc=>by simp at hc,by simp⟩,by simp⟩ (by omega) (by omega);have hread:read (e.text false)=(e,⟨B [],false,m'⟩):=by
  have:e.text false=B (e.txl false++[]):=by rw [List.append_nil,B_data]
  rw [this];exact h
 unfold parse;rw [hread];simp [hr]
end Go.Proofs.D
