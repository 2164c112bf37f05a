/-
  TEXTS IN ORDER: slices.Sorted of what an iterator gives; the keys of a state.
-/
import Derived.Test.YtkjfaanenmhlbaaGreatDoorG12
import Derived.Test.YtkjfaanenmhlbaaGreatDoorG0
import Derived.Test.YtkjfaanenmhlbaaGreatDoorAbsMB
import Derived.Test.YtkjfaanenmhlbaaGreatDoorIter
set_option linter.unusedVariables false
set_option linter.unusedSimpArgs false
namespace Go.Proofs.D
open Go Go.Abs Go.RowKit Go.Sort Go.Maps
def Enters (P:Program)(g:Nat):Prop:=∀args w,(callFunc g args).run P w = .ok (.enter g args) w
def GivesQ (l:List ByteArray)(w:World)(v:Value):Prop:=∃g lb,v = .func (.func g) #[] lb∧Enters Tryz.prog g∧SeqGives Fence.wide 2 Tryz.prog g lb encStr (fun ss=>ss.Perm (l.map (·.data.toList))) l.length w
set_option maxRecDepth 20000 in
theorem h48it (Gl:Granted)(l:List ByteArray)(hl:l.length≤100000000)(Q:World→(Nat→Prop)→Value→Prop)(hQ:∀(w:World) (F:Nat→Prop) (v:Value),(∀k,F k→k<w.heap.size)→Q w F v→GivesQ l w v) :
 Fun Tryz.prog Gl 172 [.opq Q] [] (.pv (namesV (sortB l))) []:=by
 refine ⟨⟨_,Tryz.func172,by kernel_rfl,rfl⟩,fun w0 F0 hd0 cargs hg hl' hlen hr=>?_⟩;have hd:=dead_hd hl';subst hd
 match cargs,hlen with
 |[c],_=>
  have h0:=hr 0 _ c rfl rfl;cases h0 with
  |opq _ _ h1 hK=>
   obtain ⟨g,lb,rfl,hent,hseq⟩:=hQ w0 F0 _ hl'.fin (hK w0 F0 (fun _ _=>rfl) (fun _ h=>h));have hs:=AnyZ.sorted_in Tryz.sorted48 Fence.wide 5 trivial trivial trivial trivial rfl (by omega) (Tryz.sorts48 _) (enters_of Tryz.func139 (by kernel_rfl) rfl) g lb trivial hent _ _ (by simp only [maxLen];omega) (by omega) w0 hseq;refine (callsIn_wide.1 hs).mono fun e w' ⟨v,ss,he,hperm,hrow,hnil,hbelow⟩=>?_;have hsort:=sort_perm hperm;rw [hsort] at hrow;have hlen:ss.length=(sortB l).length:=by
    rw [sortB_len];simpa using hperm.length_eq
   obtain ⟨r1,r2⟩:=hrow;have hblk:∀k,v.ownBlock=some k→w0.heap.size≤k∧k<w'.heap.size:=by
    intro k hk;rcases r2 with ⟨rfl,_⟩|⟨g,cap,cur,rfl,q3,q4,_⟩
    ·simp [Value.ownBlock] at hk
    ·simp [Value.ownBlock] at hk;subst hk;exact ⟨q3,(Array.getElem?_eq_some_iff.1 q4).1⟩
   have hrow':w'.ownsRow 0 9 1 v ((sortB l).map fun s=>[PV.val (.string s)]).length (((l.map (·.data.toList)).mergeSort fun x y=>decide (x≤y)).map encStr):=by
    rw [List.length_map,←hlen];exact ⟨r1,r2.imp id fun ⟨g,cap,cur,q2,q3,q4⟩=>⟨g,cap,cur,q2,Nat.zero_le _,q4⟩⟩
   refine ⟨v,fun k=>F0 k∨v.ownBlock=some k,fun _=>.dead,he,.pv _ _ (row_ro hrow' (fun i el hi=>?_) (fun i j el c u h1 h2 h3=>?_) (fun k hk=>.inr hk)),⟨fun k hk=>?_,fun r s k _ h=>h.elim,fun r k h=>h.elim,fun r=>rfl⟩,
    ⟨fun r k h=>h.elim,fun k hk=>?_,fun k hk=>.inl hk,fun i=>.inl rfl,hbelow.os,hbelow.tape,hbelow.output,hbelow.size,fun k hk _=>hbelow.block k hk⟩⟩
   ·rw [List.getElem?_map] at hi;cases hx:(sortB l)[i]? with
    |none=>rw [hx] at hi;cases hi
    |some x=>rw [hx] at hi;cases hi;rfl
   ·rw [List.getElem?_map] at h1;cases hx:(sortB l)[i]? with
    |none=>rw [hx] at h1;cases h1
    |some x=>
     rw [hx] at h1;cases h1
     match j,h2 with
     |0,h2=>
      simp at h2;subst h2;simp only [sortB,List.getElem?_map] at hx;rw [List.getElem?_map] at h3;simp only [Nat.mul_one,Nat.add_zero] at h3;cases hy:((l.map (·.data.toList)).mergeSort fun x y=>decide (x≤y))[i]? with
      |none=>rw [hy] at hx;cases hx
      |some y=>
       rw [hy] at hx h3;cases hx;cases h3;exact .val _ rfl
   ·rcases hk with hk|hk
    ·exact Nat.lt_of_lt_of_le (hl'.fin k hk) hbelow.size
    ·exact (hblk k hk).2
   ·rcases hk with hk|hk
    ·exact .inl hk
    ·exact .inr (.inl (hblk k hk).1)
abbrev rP (r:Rest):PV:=.ro 3 (r.map E.pv)
abbrev rV (r:Rest):AV:=.pv (rP r)
abbrev entsOf (l:List Rest):Ents:=l.map fun r=>(.string (rtext r),rV r)
def stQ (S:Stt):World→(Nat→Prop)→Obj→Prop:=fun w F o=>∃l:List Rest,Lists S l∧mapG Tryz.prog 9 (entsOf l) w F o
abbrev stV (S:Stt):PV:=.opq (mapAt (stQ S))
def KSt (l:List Rest)(w:World)(F:Nat→Prop)(v:Value):Prop:=
 ∃kb b o,v = .func (.func 288) #[] #[.pointer (some ⟨kb,0,none⟩)]∧F kb∧w.heap[kb]?=some (.cells #[.map (some b)] 309 (0,0))∧F b∧w.heap[b]?=some o∧mapG Tryz.prog 9 (entsOf l) w F o
theorem KSt.mono {l:List Rest}{w w':World}{F F':Nat→Prop}{v:Value}(h:KSt l w F v)(h1:∀k,F k→w'.heap[k]?=w.heap[k]?)(h2:∀k,F k→F' k):KSt l w' F' v:=by
 obtain ⟨kb,b,o,q1,q2,q3,q4,q5,q6⟩:=h;exact ⟨kb,b,o,q1,h2 _ q2,(h1 _ q2).trans q3,h2 _ q4,(h1 _ q4).trans q5,mapG_mono q6 h1 h2⟩
end Go.Proofs.D
