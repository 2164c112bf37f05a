/-
  THE LIBRARY'S FUNCTIONS that read its tables; a text between quotes.
-/
import Derived.Test.YtibegggijdahdaaGreatDoorZ3
import Derived.Test.YtibegggijdahdaaGreatDoorK12
import Derived.Test.YtibegggijdahdaaGreatDoorP2
import Derived.Test.YtibegggijdahdaaGreatDoorAbsP
import Derived.Test.YtibegggijdahdaaGreatDoorShelfB
import Derived.Test.YtibegggijdahdaaGreatDoorK1
import Derived.Test.YtibegggijdahdaaGreatDoorDJ
import Derived.Test.YtibegggijdahdaaGreatDoorB0
import Derived.SizedLaws
set_option linter.unusedVariables false
set_option linter.unusedSimpArgs false
namespace Go.Proofs.D
open Go Go.Abs Go.RowKit
def tabs:Granted:=⟨fun w F=>Lib.Utf8Tabs 0 1 w∧F 0∧F 1∧(∃m,w.cell? ⟨2,0,none⟩=some (.int .i64 m))∧F 2,by
 rintro w w' F F' ⟨⟨h1,h2⟩,f0,f1,⟨m,hm⟩,f2⟩ hw hF
 have hc:∀(k o:Nat),F k→w'.cell? ⟨k,o,none⟩=w.cell? ⟨k,o,none⟩:=fun k o hk=>World.cell?_of_block (w:=w) (hw k hk);refine ⟨⟨fun c hc'=>by rw [hc 0 c f0];exact h1 c hc',fun i hi=>?_⟩,hF _ f0,hF _ f1,⟨m,by rw [hc 2 0 f2];exact hm⟩,hF _ f2⟩;rw [hc 1 _ f1,hc 1 _ f1];exact h2 i hi⟩
theorem f90 (s:ByteArray)(hs:s.size≤9223372036854775807):Fun Tryz.prog tabs 70 [vS s] [] (vB (utfOk s)) []:=by
 refine fun_shelf ⟨_,Tryz.func70,by kernel_rfl,rfl⟩ fun w F cargs hg hF hlen hr=>?_
 match cargs,hlen with
 |[c0],_=>
  obtain rfl:=bool_of (hr 0 _ c0 rfl rfl);exact (Tryz.utf8_ValidString s w hs hg.1).mono fun e w' ⟨he,hb⟩=>⟨_,he,.pv _ _ (.val _ rfl),hb⟩
theorem f67 (s:ByteArray)(hs:s.size≤9223372036854775807):Fun Tryz.prog tabs 43 [vS s] [] (vB (value s)) []:=by
 refine fun_of (T:=T3) (n:=10) (rs:=[.tmp 2]) Tryz.func43 (by kernel_rfl) rfl rfl rfl tok3 mixed (by simp) fun C hC=>?_;by_cases h:(s.size:Int)≤40
 ·refine hC.vc [] 60 ?_;simp [h];refine hC.call [] (f90 s hs) (by simp) ?_;refine hC.vc [] 60 ?_;simp [value,h]
 ·refine hC.vc [] 60 ?_;simp [value,h]
def bs (l:Bs):ByteArray:=⟨l.toArray⟩
theorem bs_size (l:Bs):(bs l).size=l.length:=rfl
theorem bs_list (l:Bs):(bs l).data.toList=l:=by simp [bs]
end Go.Proofs.D
namespace Go.Proofs.D
open Go Go.Abs Go.RowKit
theorem join_sep (s:UInt8)(l:List Bs):Lib.join l [s]=sepBy s l:=by
 cases l with
 |nil=>rfl
 |cons x r=>rw [Lib.join_cons];simp [sepBy,sepTail,Lib.joinTail,List.flatMap]
theorem joinB_bs (l:List ByteArray)(s:UInt8):joinB l ⟨#[s]⟩=bs (sepBy s (l.map (·.data.toList))):=by
 unfold joinB bs;rw [←join_sep]
def N.head (n:N):Bs:=if n.kind=textK then headT n.marks else n.kind.data.toList++headA n.attrs
end Go.Proofs.D
namespace Go.Proofs.D
open Go Go.Abs Go.RowKit
def adOf (r:Nm):Bool→AV
 |false=>nilPtr
 |true=>.ptr r 0
theorem adOf_or (b:Bool):adOf (.arg 0) b=nilPtr∨adOf (.arg 0) b=ptr0:=by cases b<;>simp [adOf]
def Ent.small (e:Ent):Prop:=e.value.size≤M47∧∀x∈e.rest,x.small
open Go.ChangeShapes Go.WideShapes
section
variable {H:Type} {enc:TypeId × Value→H} {W:World}
def Fits (t:TypeId)(d:DataW H):Prop:=∀k∈d.weights Tryz.prog t,k≤reachBytes
theorem weights_mem_all {e:TypeId}:∀ {ds:List (DataW H)} {d:DataW H},d∈ds→∀k∈d.weights Tryz.prog e,k∈DataW.weightsAll Tryz.prog e ds
 |x::ds,d,hd,k,hk=>by
  simp only [DataW.weightsAll,List.mem_append];rcases List.mem_cons.1 hd with rfl|hd
  ·exact .inl hk
  ·exact .inr (weights_mem_all hd k hk)
theorem fits_slice {t e:TypeId}(ht:Tryz.prog.underlying t=some (.slice e)){es sp:List (DataW H)}(h:Fits t (.slice es sp)):∀d∈es,Fits e d:=fun d hd k hk=>by
 refine h k ?_;simp only [DataW.weights,ht,List.mem_cons,List.mem_append];exact .inr (.inl (weights_mem_all hd k hk))
theorem fits_struct {t:TypeId}{fs:Array Field}(ht:Tryz.prog.underlying t=some (.struct fs)){ps:List (DataW H)}(h:Fits t (.agg ps)){j:Nat}{f:Field}{d:DataW H}(hf:fs[j]?=some f)(hd:ps[j]?=some d):Fits f.type d:=fun k hk=>by
 refine h k ?_;simp only [DataW.weights,ht];exact DataW.weights_mem_each (j:=j) (by simp [hf]) hd k hk
theorem str_fits {n:Nat}{cs:List Value}{x:DataW H × List MemPlace}(h:DataW.trod enc Tryz.prog W 0 (fun _=>true) true n 9 cs=some x)(hf:Fits 9 x.1):∃s:ByteArray,cs = [.string s]∧s.size≤M47:=by
 obtain ⟨s,h1,rfl,h2⟩:=DataW.trod_string Tryz.underlying9 h;refine ⟨s,h1,?_⟩;have:=hf s.data.toList.length (by simp [DataW.weights]);have h3:=reachBytes_lt;rw [bsz] at this;have e47:M47=140737488355328:=rfl;omega
instance:Inhabited N:=⟨.mk ⟨#[]⟩ ⟨#[]⟩ [] [] []⟩
instance:Inhabited Ent:=⟨⟨false,⟨#[]⟩,[]⟩⟩
theorem hoe_of {t e:TypeId}(ht:Tryz.prog.underlying t=some (.slice e)){x:DataW H × List MemPlace}(hf:Fits t x.1):∀es sp,x.1 = .slice es sp→∀d∈es,Fits e d:=fun es sp hx d hd=>fits_slice ht (hx ▸ hf) d hd
theorem parts_of {t:TypeId}{fs:Array Field}(ht:Tryz.prog.underlying t=some (.struct fs)){n:Nat}{cs:List Value}{x:DataW H × List MemPlace}(h:DataW.trod enc Tryz.prog W 0 (fun _=>true) true n t cs=some x)(hf:Fits t x.1) :
 cs.length=Tryz.prog.cellsOf t∧∃m,n=m+1∧∀(i:Nat) (f:Field),fs[i]?=some f→∃y,DataW.trod enc Tryz.prog W 0 (fun _=>true) true m f.type ((cs.drop f.offset).take (Tryz.prog.cellsOf f.type))=some y∧Fits f.type y.1:=by
 obtain ⟨xs,m,rfl,rfl,hl,hx,hi⟩:=DataW.trod_struct ht h;refine ⟨hl,m,rfl,fun i f hif=>?_⟩;have hlt:i<xs.length:=by rw [hx];exact (Array.getElem?_eq_some_iff.1 hif).1
 have h1:=hi i f hif;rw [List.getElem?_eq_getElem hlt] at h1;exact ⟨xs[i],h1,fits_struct ht hf hif (by simp [hlt])⟩
theorem fits_of {ts:List TypeId}{ds:List (DataW H)}(h:(DataW.weightsEach Tryz.prog ts ds).all (·≤reachBytes)=true){j:Nat}{t:TypeId}{d:DataW H}(ht:ts[j]?=some t)(hd:ds[j]?=some d):Fits t d:=fun k hk=>by
 have:=List.all_eq_true.1 h _ (DataW.weights_mem_each ht hd k hk);simpa using this
end
end Go.Proofs.D
