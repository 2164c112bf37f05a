/-
  THE LIBRARY'S FUNCTIONS, as the shelf has them.
-/
import Derived.Test.YtkjfaanenmhlbaaGreatDoorZ0
import Derived.Test.YtkjfaanenmhlbaaGreatDoorAbsP
import Derived.Test.YtkjfaanenmhlbaaGreatDoorShelf
import Derived.Shelf.Strings.SlTrimAscii
set_option linter.unusedVariables false
set_option linter.unusedSimpArgs false
namespace Go.Proofs.D
open Go Go.Abs
def low:ByteArray:=⟨#[97,98,99,100,101,102,103,104,105,106,107,108,109,110,111,112,113,114,115,116,117,118,119,120,121,122]⟩
theorem low_ascii:∀(j:Nat) b,low.data.toList[j]?=some b→b.toNat<128:=by
 intro j b h;have:∀b∈low.data.toList,b.toNat<128:=by decide
 exact this b (List.mem_of_getElem? h)
theorem f99 (Gl:Granted)(s:ByteArray):Fun Tryz.prog Gl 295 [vS s,vS low] [] (vS ⟨(Lib.trimLeftS s.data.toList low.data.toList).toArray⟩) []:=
 fun_vals [.string s,.string low] _ ⟨_,Tryz.func295,by kernel_rfl,rfl⟩ rfl fun w=>Any.strings_TrimLeft_laid Tryz.lays161 (by kernel_rfl) s low w (by decide) low_ascii
theorem f86 (Gl:Granted)(s:ByteArray)(hs:s.size≤9223372036854775807):Fun Tryz.prog Gl 169 [vS s,vS low] [] (vS ⟨(Lib.trimS s.data.toList low.data.toList).toArray⟩) []:=
 fun_vals [.string s,.string low] _ ⟨_,Tryz.func169,by kernel_rfl,rfl⟩ rfl fun w=>Any.strings_Trim_laid Tryz.lays160 (by kernel_rfl) s low w hs (by decide) low_ascii
open Go.RowKit
def joinB (l:List ByteArray)(sep:ByteArray):ByteArray:=⟨(Lib.join (l.map (·.data.toList)) sep.data.toList).toArray⟩
theorem str_cell {w:World}{F:Nat→Prop}{s:ByteArray}{v:Value}(h:RepP w F (.val (.string s)) v):v = .string s:=by
 cases h with
 |val _ _=>rfl
theorem f39 (Gl:Granted)(l:List ByteArray)(sep:ByteArray)(hN:l.length≤140737488355328)(hlen:(joinB l sep).size≤140737488355328) :
 Fun Tryz.prog Gl 75 [.pv (.ro 1 (l.map fun s=>[.val (.string s)])),vS sep] [] (vS (joinB l sep)) []:=by
 refine fun_shelf ⟨_,Tryz.func75,by kernel_rfl,rfl⟩ fun w F cargs _ hF hlen' hr=>?_
 match cargs,hlen' with
 |[c0,c1],_=>
  have h0:=hr 0 _ c0 rfl rfl;have h1:=hr 1 _ c1 rfl rfl;obtain rfl:=bool_of h1;cases h0 with
  |pv _ _ hp=>
   cases hp with
   |ro _ _ A cap u hA hc hm hl ha hrr=>
    by_cases hne:l = []
    ·subst hne;refine (Tryz.strings_Join_none A cap sep w).mono fun e w' ⟨he,hw⟩=>⟨_,he,?_,hw ▸ Below.refl _ _⟩;exact .pv _ _ (.val _ rfl)
    ·obtain ⟨ad,rfl,hs,hFa,hcell⟩:=ha (by simpa using hne);obtain ⟨bk,o,sp⟩:=ad;simp only at hs;subst hs;have hl':(l.map fun s=>[PV.val (.string s)]).length=l.length:=(by simp);rw [hl'] at hc ⊢;refine (Tryz.strings_Join bk o cap l sep w (fun j x hx=>?_) (hF bk hFa) hN hc (by simpa [joinB,ByteArray.size] using hlen)).mono fun e w' ⟨he,hb⟩=>⟨_,he,.pv _ _ (.val _ rfl),hb⟩;have h2:=hcell j 0 [.val (.string x)] (.val (.string x)) (by simp [hx]) rfl;have h3:=hrr j 0 [.val (.string x)] (.val (.string x)) (by simp [hx]) rfl;rw [str_cell h3] at h2;rw [←h2];congr 1;unfold Addr.add;split
     ·rename_i h;simp at h;subst h;rfl
     ·simp
end Go.Proofs.D
