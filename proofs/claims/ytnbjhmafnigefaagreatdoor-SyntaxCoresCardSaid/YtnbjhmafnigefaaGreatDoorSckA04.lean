/- .. -/
import Derived.Lib.FrozenHead
import Derived.Lib.FrozenHead2
import Derived.Lib.OthersKept
import Derived.Laws.Externs
import Derived.Deep.Cut
import Derived.Deep.CutRange
import Derived.Deep.LoopGhost
import Derived.Test.YtnbjhmafnigefaaGreatDoorSckA03
open Go.Proofs.Tryz
set_option maxRecDepth 100000
set_option maxHeartbeats 16000000
namespace Go.Proofs.YtnbjhmafnigefaaGreatDoor
section
open Go.RowKit
theorem zde:(prog.info? 60).map (·.size)=some 2:=by kernel_rfl
theorem zjr:(prog.info? 5).map (fun i=>(i.zero,i.size,i.bytes))=some (some (.int .u8 0),1,1):=by kernel_rfl
theorem zfU:liesAt prog prog.depth 60 (2 / prog.cellsOf 60) 0 60 1=true:=by kernel_rfl
theorem zjZ (b:Nat) (w:World) (h0:w.cell? ⟨b,0,none⟩=some (.pointer (some ⟨b,0,none⟩))) :
  Calls prog 97 #[.pointer (some ⟨b,0,none⟩)] w fun e w'=>e=.returned (.tuple #[])∧w'=w:=by
 obtain ⟨j,hj,_⟩:=Option.map_eq_some_iff.1 zde
 go_enter func97,ntmps97
 go_wp2
 rw[Lib.run_neq_ptr_same w _ underlying57 hj]
 go_wp2
 go_end0
 exact ⟨rfl,rfl⟩
theorem zil (b:Nat) (w:World) (h0:w.cell? ⟨b,0,none⟩=some (.pointer none)) (hsh:w.shape? b=some (60,2)) (hfz:w.frozen? ⟨b,0,none⟩=false) :
  Calls prog 97 #[.pointer (some ⟨b,0,none⟩)] w fun e w'=>e=.returned (.tuple #[])∧w'=w.setCell ⟨b,0,none⟩ (.pointer (some ⟨b,0,none⟩)):=by
 obtain ⟨j,hj,hjs⟩:=Option.map_eq_some_iff.1 zde
 go_enter func97,ntmps97
 go_wp2
 rw[Lib.run_to_unsafe w ⟨b,0,none⟩ underlying57 underlying114 hj (by rw[hjs];decide) hsh (Nat.zero_lt_succ 1)]
 simp only[Result.andThen]
 rw[Oper.upon_value]
 go_wp2
 rw[run_callFunc_extern func126 (by kernel_rfl) (by kernel_rfl) (by kernel_rfl) (e:=Extern.AbiNoEscape.same) (by kernel_rfl)]
 rw[Lib.run_noEscape]
 simp only[Result.andThen]
 rw[Oper.upon_value]
 go_wp2
 rw[Lib.run_from_unsafe w ⟨b,0,none⟩ underlying114 underlying57 hj hsh zfU]
 simp only[Result.andThen]
 rw[Oper.upon_value]
 go_wp2
 go_end0
 exact ⟨rfl,rfl⟩
def IsB (B b:Nat) (l:List UInt8) (w:World):Prop:=Lib.IsBuilderF 60 5 B b (Lib.byteCells l) w
def BKeep (B b:Nat) (w w':World):Prop:=Below B w w'∧Lib.OthersKept 5 (some b) w w'
theorem BKeep.refl (B b:Nat) (w:World):BKeep B b w w:=⟨qzB,Lib.OthersKept.refl _ _ _⟩
theorem BKeep.trans {B b:Nat} {w1 w2 w3:World} (h:BKeep B b w1 w2) (k:BKeep B b w2 w3):BKeep B b w1 w3:=⟨h.1.trans k.1,h.2.trans k.2⟩
theorem BKeep.of_below {B b:Nat} {w1 w2:World} (hB:B<=w1.heap.size) (h:Below w1.heap.size w1 w2):BKeep B b w1 w2:=
 ⟨h.mono hB,fun k _o hk _ _=>(h.block k (Array.getElem?_eq_some_iff.1 hk).1).trans hk⟩
theorem BKeep.size {B b:Nat} {w1 w2:World} (h:BKeep B b w1 w2):w1.heap.size<=w2.heap.size:=h.1.size
theorem zek {w w':World} (h:Below w.heap.size w w'):w.grownBy w' none:=⟨h.os,h.tape,h.output,h.size,fun k hk _=>h.block k hk⟩
theorem zcW {B b:Nat} {p:Value} {bs:List Value} {w w':World} (h:Lib.BuilderAtF 60 5 B b p bs w) (hb:Below w.heap.size w w'):Lib.BuilderAtF 60 5 B b p bs w':=by
 have hlt:=h.lt
 obtain ⟨hB,v,hbk,hown,hne⟩:=h
 exact ⟨hB,v,(hb.block b hlt).trans hbk,hown.kept (zek hb) (by cases hv:v.ownBlock<;>simp),hne⟩
theorem IsB.below {B b:Nat} {l:List UInt8} {w w':World} (h:IsB B b l w) (hb:Below w.heap.size w w'):IsB B b l w':=
 h.elim (fun x=>.inl (zcW x hb)) (fun x=>.inr (zcW x hb))
theorem IsB.lt {B b:Nat} {l:List UInt8} {w:World} (h:IsB B b l w):b<w.heap.size:=h.elim (fun x=>x.lt) (fun x=>x.lt)
theorem IsB.base {B b:Nat} {l:List UInt8} {w:World} (h:IsB B b l w):B<=b:=h.elim (fun x=>x.1) (fun x=>x.1)
theorem zkK (B b:Nat) (bs:List Value) (w:World) (h:Lib.IsBuilderF 60 5 B b bs w) :
  Calls prog 97 #[.pointer (some ⟨b,0,none⟩)] w fun e w'=>e=.returned (.tuple #[])∧(Lib.BuilderAtF 60 5 B b (.pointer (some ⟨b,0,none⟩)) bs w'∧BKeep B b w w'):=by
 rcases h with h | h
 ·refine (zil b w h.cell0 h.shape h.frozen0).mono ?_
  rintro e w' ⟨rfl,rfl⟩
  exact ⟨rfl,h.used _,(Below.refl B w).setCell (p:=⟨b,0,none⟩) h.1 _,(Lib.OthersKept.refl _ _ w).setCell ⟨b,0,none⟩ rfl _⟩
 ·refine (zjZ b w h.cell0).mono ?_
  rintro e w' ⟨rfl,rfl⟩
  exact ⟨rfl,h,BKeep.refl _ _ _⟩
theorem zdv (l:List UInt8) (s:ByteArray):Lib.byteCells l++Lib.strCells s=Lib.byteCells (l++s.data.toList):=by
 unfold Lib.byteCells Lib.strCells
 simp
theorem zdz (l:List UInt8):(Lib.byteCells l).length=l.length:=by unfold Lib.byteCells;simp
theorem zba (B b:Nat) (l:List UInt8) (s:ByteArray) (w:World) (h:IsB B b l w) (jk:l.length+s.size<=140737488355328) (hBw:B<=w.heap.size) :
  Calls prog 70 #[.pointer (some ⟨b,0,none⟩),.string s] w fun e w'=>e=.returned (.tuple #[.int .i64 s.size,.nilIface])∧(IsB B b (l++s.data.toList) w'∧BKeep B b w w'):=by
 have hlen2:(Lib.byteCells l).length+s.size<=140737488355328:=by rw[zdz];exact jk
 obtain ⟨i0,hi,hz0,hz1,hz2⟩:=info_parts zjr
 go_enter func70,ntmps70
 go_wp2_with (go_at_call 97;refine (zkK B b (Lib.byteCells l) _ h).mono ?_)
 rintro e w1 ⟨rfl,h1,hk1⟩
 obtain ⟨hB,v,hbk,hown,hne⟩:=h1
 have c0:w1.cell? ⟨b,0,none⟩=some (.pointer (some ⟨b,0,none⟩)):=by rw[Lib.cell_of_heap hbk];rfl
 have c1:w1.cell? ⟨b,1,none⟩=some v:=by rw[Lib.cell_of_heap hbk];rfl
 go_wp2_with (at_builtin;refine Lib.wpList_append_own_stringF _ rfl _ _ 58 9 rfl B 5 i0 underlying58 underlying9 hi hz0 hz1 hz2 _ _ _ rfl hown s rfl ?c3 ?c4 ?c5 ?_)
 case c3=>unfold maxLen;omega
 case c4=>omega
 case c5=>have:=hk1.size;omega
 intro v' w2 hown' hgrow _
 have hlt:b<w1.heap.size:=(Array.getElem?_eq_some_iff.1 hbk).1
 have hb2:w2.heap[b]?=some (.cells #[.pointer (some ⟨b,0,none⟩),v] 60 (0,0)):=by
  rw[hgrow.block b hlt (fun e=>hne e.symm)]
  exact hbk
 have d0:w2.cell? ⟨b,0,none⟩=some (.pointer (some ⟨b,0,none⟩)):=by rw[Lib.cell_of_heap hb2];rfl
 have d1:w2.cell? ⟨b,1,none⟩=some v:=by rw[Lib.cell_of_heap hb2];rfl
 have f1:w2.frozen? ⟨b,1,none⟩=false:=Lib.frozen_of_heap hb2 1
 obtain ⟨ao,n',cap,rfl⟩:∃ao n' cap,v'=.slice ao n' cap:=by
  rcases hown'.2 with ⟨hv,_⟩ | ⟨g,cap,cur,fz,hv,_⟩
  ·exact ⟨_,_,_,hv⟩
  ·exact ⟨_,_,_,hv⟩
 go_wp2
 go_ret2
 refine ⟨rfl,.inr ?_,?_⟩
 ·rw[<-zdv]
  exact Lib.BuilderAtF.put (T:=60) (e:=5) hB hb2 (bs':=Lib.byteCells l++Lib.strCells s) (by simpa[Lib.strCells_length] using hown') (by decide)
 ·exact ⟨(hk1.1.grown hgrow (by have:=hk1.size;omega) (fun k hk=>(hown.lt k hk).1)).setCell (p:=⟨b,1,none⟩) hB _,(hk1.2.grown hgrow (Lib.ownsRowF_kind hown)).setCell ⟨b,1,none⟩ rfl _⟩
theorem zgG (B b:Nat) (l:List UInt8) (w:World) (h:IsB B b l w) (hBw:B<=w.heap.size) :
  Calls prog 39 #[.pointer (some ⟨b,0,none⟩)] w fun e w'=>e=.returned (.string ⟨l.toArray⟩)∧Below B w w':=
 (Tryz.Builder_String_any_f B b l w h hBw).mono fun _ _ h=>⟨h.1,h.2.2⟩
theorem BKeep.block {B b k:Nat} {w w':World} {cs:Array Value} {t:TypeId} {fz:Nat × Nat} (h:BKeep B b w w') (hk:w.heap[k]?=some (.cells cs t fz)) (hb:k≠b) (ht:t≠5):w'.heap[k]?=some (.cells cs t fz):=
 h.2 k _ hk (by simpa using hb) (fun c f e=>by cases e;exact ht rfl)
theorem IsB.fresh (w:World) (t:Value) (h:t=.pointer none):IsB w.heap.size w.heap.size [] (w.alloc (.cells #[t,.slice none 0 0] 60)):=by
 subst h;exact Lib.IsBuilderF.of (Lib.fresh_isBuilder _ _ w)
end
section
open Go.RowKit
def EnvAt (B:Nat) (w:World):Prop:=Env w∧1<B
theorem EnvAt.of {w:World} (h:Env w):EnvAt w.heap.size w:=by
 refine ⟨h,?_⟩
 have hg : prog.globalNamed "internal/strconv.uint64pow10" = some 1 := by kernel_rfl
 exact zi9 hg h
theorem EnvAt.kept {B:Nat} {w w':World} (h:EnvAt B w) (hb:Below B w w'):EnvAt B w':=by
 refine ⟨?_,h.2⟩
 have h1:=h.1
 have hg : prog.globalNamed "internal/strconv.uint64pow10" = some 1 := by kernel_rfl
 unfold Env Lib.TabIs World.var? at h1 ⊢
 rw[hg] at h1 ⊢
 simp only[Option.bind_some] at h1 ⊢
 rw[hb.block _ h.2]
 exact h1
def WPost (B b:Nat) (l:List UInt8) (w:World) (e:Ending) (w':World):Prop:=e=.returned (.tuple #[])∧IsB B b l w'∧BKeep B b w w'
theorem Box5.bkeep {B b k:Nat} {w w':World} {c0 c1 c2 c3 c4:Value} (h:BKeep B b w w') (hk:Box5 w k 26 c0 c1 c2 c3 c4) (hb:k≠b):Box5 w' k 26 c0 c1 c2 c3 c4:=h.block hk hb (by decide)
theorem zaL {B b:Nat} {w:World} (hB:B<=w.heap.size) (o:Obj):BKeep B b w (w.alloc o):=BKeep.of_below hB (qzB.alloc qzL _)
theorem za6 {B b:Nat} {l:List UInt8} {w:World} (h:IsB B b l w) (o:Obj):IsB B b l (w.alloc o):=h.below (qzB.alloc qzL _)
theorem zaC (B b:Nat) (l T:List UInt8) (s:ByteArray) (w:World) (hT:s.data.toList=T) (h:IsB B b l w) (jk:l.length+T.length<=140737488355328) (hBw:B<=w.heap.size) :
  Calls prog 70 #[.pointer (some ⟨b,0,none⟩),.string s] w fun e w'=>e=.returned (.tuple #[.int .i64 s.size,.nilIface])∧(IsB B b (l++T) w'∧BKeep B b w w'):=by
 subst hT
 exact zba B b l s w h jk hBw
section
variable (B b : Nat) (l0 : List UInt8) (n d : Int) (s : ByteArray) (o : Option Addr) (len cap : Nat) (w : World)
theorem zlp (hb:IsB B b l0 w) (hB:B<=w.heap.size) (hE:EnvAt B w) (h0:-9223372036854775808<=n) (h1:n<=9223372036854775807) (h2:-9223372036854775808<=d) (h3:d<=9223372036854775807) (T:List UInt8) (hT:Num.text n d=T) (hl:l0.length+T.length<=140737488355328) :
  Calls prog 38 #[.pointer (some ⟨b,0,none⟩),.agg #[.int .i64 0,.int .i64 n,.int .i64 d,.string s,.slice o len cap]] w (WPost B b (l0++T) w):=by
 have HT:=zh (fun W hE=>zkS n d h0 h1 h2 h3 W hE)
 rw[hT] at HT
 clear hT
 have HK:=zh (fun X=>zaL (b:=b) hB X)
 have HE:=zh (fun X=>hE.kept (HK.out X).1)
 have HB:=zh (fun X=>za6 hb X)
 clear hE
 go_enter func38,ntmps38
 go_wp2_with fail
 refine (HT.out _ (HE.out _).1).mono ?_
 rintro e' w1 ⟨rfl,hb1⟩
 have HB1:=zh hb1
 clear hb1
 go_wp2_with fail
 refine (zba B b l0 ⟨T.toArray⟩ _ ((HB.out _).below HB1.out) hl (by have:=HB1.out.size;simp at this;omega)).mono ?_
 rintro e' w2 ⟨rfl,hb2,hk2⟩
 go_wp2
 go_end0
 exact ⟨rfl,by simpa using hb2,((HK.out _).trans (BKeep.of_below (by simp;omega) HB1.out)).trans hk2⟩
theorem zlF (hb:IsB B b l0 w) (hB:B<=w.heap.size) (hl:l0.length+(s.data.toList).length<=140737488355328) :
  Calls prog 38 #[.pointer (some ⟨b,0,none⟩),.agg #[.int .i64 2,.int .i64 n,.int .i64 d,.string s,.slice o len cap]] w (WPost B b (l0++(s.data.toList)) w):=by
 have HK:=zh (fun X=>zaL (b:=b) hB X)
 have HB:=zh (fun X=>za6 hb X)
 go_enter func38,ntmps38
 go_wp2_with fail
 refine (zba B b l0 s _ (HB.out _) hl (by simp;omega)).mono ?_
 rintro e' w2 ⟨rfl,hb2,hk2⟩
 go_wp2
 go_end0
 exact ⟨rfl,by simpa using hb2,(HK.out _).trans hk2⟩
theorem zlv (hb:IsB B b l0 w) (hB:B<=w.heap.size) (hs:s.size<=140737488351232) (hl:l0.length+(34::(s.data.toList++[34])).length<=140737488355328) :
  Calls prog 38 #[.pointer (some ⟨b,0,none⟩),.agg #[.int .i64 3,.int .i64 n,.int .i64 d,.string s,.slice o len cap]] w (WPost B b (l0++(34::(s.data.toList++[34]))) w):=by
 have HK:=zh (fun X=>zaL (b:=b) hB X)
 have HB:=zh (fun X=>za6 hb X)
 go_enter func38,ntmps38
 go_wp2_with fail
 refine (zaC B b l0 (34::(s.data.toList++[34])) _ _ ?_ (HB.out _) hl (by simp;omega)).mono ?_
 ·rw[ByteArray.data_append,ByteArray.data_append];simp
 rintro e' w2 ⟨rfl,hb2,hk2⟩
 go_wp2
 go_end0
 exact ⟨rfl,by simpa using hb2,(HK.out _).trans hk2⟩
theorem zly (hb:IsB B b l0 w) (hB:B<=w.heap.size) (hl:l0.length+([40,41]).length<=140737488355328) :
  Calls prog 38 #[.pointer (some ⟨b,0,none⟩),.agg #[.int .i64 4,.int .i64 n,.int .i64 d,.string s,.slice o len cap]] w (WPost B b (l0++([40,41])) w):=by
 have HK:=zh (fun X=>zaL (b:=b) hB X)
 have HB:=zh (fun X=>za6 hb X)
 go_enter func38,ntmps38
 go_wp2_with fail
 refine (zba B b l0 ⟨#[40,41]⟩ _ (HB.out _) hl (by simp;omega)).mono ?_
 rintro e' w2 ⟨rfl,hb2,hk2⟩
 go_wp2
 go_end0
 exact ⟨rfl,by simpa using hb2,(HK.out _).trans hk2⟩
theorem zlz (hb:IsB B b l0 w) (hB:B<=w.heap.size) (hl:l0.length+([35,118]).length<=140737488355328) :
  Calls prog 38 #[.pointer (some ⟨b,0,none⟩),.agg #[.int .i64 5,.int .i64 n,.int .i64 d,.string s,.slice o len cap]] w (WPost B b (l0++([35,118])) w):=by
 have HK:=zh (fun X=>zaL (b:=b) hB X)
 have HB:=zh (fun X=>za6 hb X)
 go_enter func38,ntmps38
 go_wp2_with fail
 refine (zba B b l0 ⟨#[35,118]⟩ _ (HB.out _) hl (by simp;omega)).mono ?_
 rintro e' w2 ⟨rfl,hb2,hk2⟩
 go_wp2
 go_end0
 exact ⟨rfl,by simpa using hb2,(HK.out _).trans hk2⟩
theorem zle (hb:IsB B b l0 w) (hB:B<=w.heap.size) (hl:l0.length+2<=140737488355328) :
  Calls prog 38 #[.pointer (some ⟨b,0,none⟩),.agg #[.int .i64 1,.int .i64 0,.int .i64 d,.string s,.slice o len cap]] w (WPost B b (l0++[35,102]) w):=by
 have HK:=zh (fun X=>zaL (b:=b) hB X)
 have HB:=zh (fun X=>za6 hb X)
 go_enter func38,ntmps38
 go_wp2_with fail
 refine (zaC B b l0 [35,102] _ _ rfl (za6 (HB.out _) _) hl (by simp;omega)).mono ?_
 rintro e' w2 ⟨rfl,hb2,hk2⟩
 go_wp2
 go_end0
 exact ⟨rfl,by simpa using hb2,((HK.out _).trans (zaL (by simp;omega) _)).trans hk2⟩
theorem zkP (hb:IsB B b l0 w) (hB:B<=w.heap.size) (hl:l0.length+2<=140737488355328) :
  Calls prog 38 #[.pointer (some ⟨b,0,none⟩),.agg #[.int .i64 1,.int .i64 1,.int .i64 d,.string s,.slice o len cap]] w (WPost B b (l0++[35,116]) w):=by
 have HK:=zh (fun X=>zaL (b:=b) hB X)
 have HB:=zh (fun X=>za6 hb X)
 go_enter func38,ntmps38
 go_wp2_with fail
 refine (zaC B b l0 [35,116] _ _ rfl (za6 (HB.out _) _) hl (by simp;omega)).mono ?_
 rintro e' w2 ⟨rfl,hb2,hk2⟩
 go_wp2
 go_end0
 exact ⟨rfl,by simpa using hb2,((HK.out _).trans (zaL (by simp;omega) _)).trans hk2⟩
end
end
section
open Go.RowKit
theorem zeB:∀(l:List Dat) (x:Dat) (first:Bool),Dat.textV (l++[x]) first=Dat.textV l first++((if first&&l.isEmpty then [] else [32])++Dat.text x false)
 | [],x,first=>by cases first<;>simp[Dat.textV]
 | y::l,x,first=>by
  rw[List.cons_append,Dat.textV,zeB l x false,Dat.textV]
  simp
theorem zih {l:List Dat} {j:Nat} {x:Dat} (h:l[j]?=some x):Dat.textV (l.take (j+1)) true=Dat.textV (l.take j) true++((if j=0 then [] else [32])++Dat.text x false):=by
 have hj:=(List.getElem?_eq_some_iff.1 h).1
 rw[List.take_add_one,h]
 show Dat.textV (l.take j++[x]) true=_
 rw[zeB]
 congr 2
 by_cases h0:j=0
 ·subst h0;simp
 ·have:(l.take j).isEmpty=false:=by
   rw[List.isEmpty_eq_false_iff];intro h1
   have:=congrArg List.length h1
   rw[List.length_take,qzO] at this;omega
  simp[this,h0]
theorem zcf:∀(a c:List Dat) (first:Bool),(Dat.textV a first).length<=(Dat.textV (a++c) first).length
 | [],c,first=>by simp[Dat.textV]
 | y::a,c,first=>by
  have:=zcf a c false
  rw[List.cons_append,Dat.textV,Dat.textV]
  simp only[List.length_append];omega
theorem zcK (l:List Dat) (j:Nat):(Dat.textV (l.take j) true).length<=(Dat.textV l true).length:=by
 have:=zcf (l.take j) (l.drop j) true
 rwa[List.take_append_drop] at this
def zj2 (B b:Nat) (l:List Dat):Prop:=∀x∈l,∀(v:Value) (l1:List UInt8) (W:World),IsB B b l1 W->RepD W B x v->B<=W.heap.size->EnvAt B W->l1.length+(Dat.text x false).length<=140737488355328 ->
 Calls prog 38 #[.pointer (some ⟨b,0,none⟩),v] W (WPost B b (l1++Dat.text x false) W)
theorem zlj (B b:Nat) (l0:List UInt8) (n d:Int) (s:ByteArray) (l:List Dat) (sl:Value) (w:World) (hb:IsB B b l0 w) (hB:B<=w.heap.size) (hE:EnvAt B w) (hv:RepS w B l sl) (IH:zj2 B b l)
  (hl:l0.length+([35,40]++(Dat.textV l true++[41])).length<=140737488355328) :
  Calls prog 38 #[.pointer (some ⟨b,0,none⟩),.agg #[.int .i64 7,.int .i64 n,.int .i64 d,.string s,sl]] w (WPost B b (l0++([35,40]++(Dat.textV l true++[41]))) w):=by
 obtain ⟨o,len,cap,rfl,jk,hcap,hmax,hc⟩:=hv
 have HK:=zh (fun X=>zaL (b:=b) hB X)
 have HB:=zh (fun X=>za6 hb X)
 have HE:=zh hE
 have HV:=zh hc
 have HL:=zh jk
 have HI:=zh IH
 have hbw:=hb.lt
 have hbB:=hb.base
 have hlen2:l0.length+2+(Dat.textV l true).length+1<=140737488355328:=by simp at hl;omega
 clear hE hc jk IH hl hb
 go_enter func38,ntmps38
 go_wp2_with fail
 refine (zaC B b l0 [35,40] _ _ rfl (HB.out _) (by simp;omega) (by simp;omega)).mono ?_
 rintro e' w1 ⟨rfl,hb1,hk1⟩
 have hbox:=Box5.bkeep hk1 (Box5.new w 26 _ _ _ _ _) (by omega)
 obtain ⟨q0,q1,q2,q3,q4⟩:=hbox.cells
 have HK1:=zh ((HK.out _).trans hk1)
 have HB1:=zh hb1
 have HX:=zh hbox
 clear hb1 hk1 hbox
 go_wp2_with fail
 go_loopw [4,56] (fun t i wr=>∃(j:Nat),i=.int .i64 j∧t=.string (if j=0 then ⟨#[]⟩ else ⟨#[32]⟩)∧j<=len∧IsB B b (l0++[35,40]++Dat.textV (l.take j) true) wr∧BKeep B b w wr) (fun _ i _=>len-(intOf i).toNat)
 case atStart=>exact ⟨0,rfl,rfl,by omega,by simpa[Dat.textV] using HB1.out,HK1.out⟩
 case round=>
  obtain ⟨j,rfl,rfl,hj,hbj,hkj⟩:=hrel
  have HBJ:=zh hbj
  have HKJ:=zh hkj
  have hsz:=hkj.size
  obtain ⟨S,hS⟩:∃S:ByteArray,(if j=0 then ⟨#[]⟩ else ⟨#[32]⟩:ByteArray)=S:=⟨_,rfl⟩
  obtain ⟨U,hU⟩:∃U:List UInt8,(if j=0 then [] else [32]:List UInt8)=U:=⟨_,rfl⟩
  have hSU:S.data.toList=U:=by rw[<-hS,<-hU];split<;>rfl
  rw[hS]
  have HU:=zh hU
  have HSU:=zh hSU
  clear hbj hkj hS hU hSU
  by_cases hjl:j<len
  ·obtain ⟨x,hx⟩:∃x,l[j]?=some x:=⟨_,List.getElem?_eq_getElem (by rw[<-HL.out];exact hjl)⟩
   obtain ⟨bb,off,k',n',d',s',l',o',len',cap',ho,hxe,e0,e1,e2,e3,e4,er⟩:=zat HV.out HKJ.out.1 hx
   subst ho hxe
   have HX:=zh hx
   have ER:=zh er
   have hbb:=zai e0
   have HS:=zh (zih hx)
   have ht1:=zcK l j
   have ht2:=zcK l (j+1)
   rw[HS.out] at ht2
   simp only[List.length_append] at ht2
   rw[HU.out] at HS ht2
   clear hx er
   go_wp2_with fail
   refine (zaC B b _ U _ _ HSU.out (za6 HBJ.out _) (by simp only[List.length_append,qzN,qzO];omega) (by simp;omega)).mono ?_
   rintro e' w2 ⟨rfl,hb2,hk2⟩
   have hbox2:=Box5.bkeep hk2 (Box5.new wr 26 _ _ _ _ _) (by omega)
   obtain ⟨r0,r1,r2,r3,r4⟩:=hbox2.cells
   have HK2:=zh ((HKJ.out.trans (zaL (by omega) _)).trans hk2)
   have HB2:=zh hb2
   have HER2:=zh (ER.out.kept (((zaL (b:=b) (by omega) _).trans hk2).1))
   clear hb2 hk2 hbox2
   go_wp2_with fail
   have hs2:=HK2.out.size
   refine (HI.out _ (List.mem_of_getElem? HX.out) _ _ _ HB2.out HER2.out (by omega) (HE.out.kept HK2.out.1) (by simp only[List.length_append,qzN,qzO];omega)).mono ?_
   rintro e' w3 ⟨rfl,hb3,hk3⟩
   go_wp2
   go_roundw
   case rel=>
    refine ⟨j+1,by go_num,by simp,by omega,?_,HK2.out.trans hk3⟩
    rw[HS.out]
    simpa using hb3
   case measure=>simp[intOf];omega
  ·have HT:=zh (show l.take j=l from List.take_of_length_le (by rw[<-HL.out];omega))
   go_wp2_with fail
   refine (zaC B b _ [41] _ _ rfl HBJ.out (by rw[HT.out];simp only[List.length_append,qzN,qzO];omega) (by omega)).mono ?_
   rintro e' w2 ⟨rfl,hb2,hk2⟩
   go_wp2
   go_end0
   refine ⟨rfl,?_,HKJ.out.trans hk2⟩
   rw[HT.out] at hb2
   simpa using hb2
end
section
open Go Go.RowKit
structure Turned (S:Nat->Prop) (A B:World):Prop where
 os:B.os=A.os
 tape:B.tape=A.tape
 output:B.output=A.output
 size:A.heap.size<=B.heap.size
 block:∀b,b<A.heap.size->¬S b->B.heap[b]?=A.heap[b]?
theorem Turned.refl (S:Nat->Prop) (A:World):Turned S A A:=⟨rfl,rfl,rfl,qzL,fun _ _ _=>rfl⟩
theorem Turned.trans {S S':Nat->Prop} {A B C:World} (h:Turned S A B) (h':Turned S' B C) (hS:∀b,b<A.heap.size->S' b->S b):Turned S A C:=
 ⟨h'.os.trans h.os,h'.tape.trans h.tape,h'.output.trans h.output,Nat.le_trans h.size h'.size,fun b hb hn=>(h'.block b (qzM hb h.size) (fun hs=>hn (hS b hb hs))).trans (h.block b hb hn)⟩
theorem Turned.next {S:Nat->Prop} {A B C:World} (h:Turned S A B) (h':Turned S B C):Turned S A C:=h.trans h' fun _ _ h=>h
theorem Turned.wider {S S':Nat->Prop} {A B:World} (h:Turned S A B) (hS:∀b,b<A.heap.size->S b->S' b):Turned S' A B:=⟨h.os,h.tape,h.output,h.size,fun b hb hn=>h.block b hb fun hs=>hn (hS b hb hs)⟩
theorem Turned.of_below {S:Nat->Prop} {A B:World} (h:Below A.heap.size A B):Turned S A B:=⟨h.os,h.tape,h.output,h.size,fun b hb _=>h.block b hb⟩
theorem Turned.below {S:Nat->Prop} {A B:World} (h:Turned S A B) {b0:Nat} (hS:∀b,S b->b0<=b) (hb0:b0<=A.heap.size):Below b0 A B:=
 ⟨h.os,h.tape,h.output,h.size,fun b hb=>h.block b (qzM hb hb0) fun hs=>by have:=hS b hs;omega⟩
theorem Turned.set {S:Nat->Prop} (A:World) (a:Addr) (v:Value) (ha:S a.block):Turned S A (A.setCell a v):=⟨rfl,rfl,rfl,by rw[World.size_setCell];exact qzL,fun b _ hn=>zay A a v fun e=>hn (e ▸ ha)⟩
theorem Turned.grown {S:Nat->Prop} {A B:World} {row:Option Nat} (h:A.grownBy B row) (hr:∀b,row=some b->S b):Turned S A B:=⟨h.os,h.tape,h.output,h.size,fun b hb hn=>h.block b hb fun e=>hn (hr b e.symm)⟩
theorem Turned.box {S:Nat->Prop} {A B:World} (h:Turned S A B) {b:Nat} {t:TypeId} {cs:List Value} (hb:BoxL A b t cs) (hn:¬S b):BoxL B b t cs:=(h.block b hb.lt hn).trans hb
end
section
open Go.RowKit
theorem zhV (s:ByteArray) (r:Bool) (hr:Dat.name s.data.toList=r) (hs:s.size<=140737488351232) (w:World) :
  Calls prog 92 #[.string s] w fun e w'=>e=.returned (.bool r)∧Below w.heap.size w w':=by
 rw[<-hr];exact zjH s hs w
def Uno (w:World) (cs:Array Value) (t:TypeId) (w':World):Prop:=Below (w.heap.size+1) (w.alloc (.cells cs t)) w'
theorem Uno.refl (w:World) (cs:Array Value) (t:TypeId):Uno w cs t (w.alloc (.cells cs t)):=qzB
theorem Uno.drew {w w':World} {cs:Array Value} {t:TypeId} (h:Uno w cs t w'):Uno w cs t w'.drew:=Below.drew h
theorem Uno.drewN {w w':World} {cs:Array Value} {t:TypeId} (h:Uno w cs t w') (n:Nat):Uno w cs t (w'.drewN n):=Below.drewN h n
theorem Uno.size {w w':World} {cs:Array Value} {t:TypeId} (h:Uno w cs t w'):w.heap.size+1<=w'.heap.size:=by
 have:=Below.size h;simpa using this
theorem Uno.next {w w' w2:World} {cs:Array Value} {t:TypeId} (h:Uno w cs t w') (h2:Below w'.heap.size w' w2):Uno w cs t w2:=
 Below.trans h (h2.mono h.size)
theorem Uno.below {w w':World} {cs:Array Value} {t:TypeId} (h:Uno w cs t w'):Below w.heap.size w w':=
 ((Below.refl w.heap.size w).alloc qzL _).trans (Below.mono h (by omega))
theorem Uno.cell {w w':World} {cs:Array Value} {t:TypeId} (h:Uno w cs t w') (i:Nat) {v:Value} (hv:cs[i]?=some v):w'.cell? ⟨w.heap.size,i,none⟩=some v:=
 (Below.cell (p:=⟨w.heap.size,i,none⟩) h (by simp)).trans (zbM _ _ _ _ hv)
theorem zeh (b:UInt8):Dat.strByte b=true↔(32<=b.toNat∧b.toNat<=126∧b.toNat≠34∧b.toNat≠92):=by
 simp only[Dat.strByte,Bool.and_eq_true,decide_eq_true_eq]
theorem ziC (l:List Dat) (deep:Nat):Dat.rightL l deep=l.all fun x=>Dat.right x deep:=by
 induction l with
 | nil=>rfl
 | cons x l ih=>rw[Dat.rightL,List.all_cons,ih]
theorem ziu:∀(x:Dat) (v:Value) (deep:Nat) (B:Nat) (w:World),RepD w B x v->B<=w.heap.size->deep<=201 ->
  Calls prog 54 #[v,.int .i64 deep] w fun e w'=>e=.returned (.bool (Dat.right x deep))∧Below w.heap.size w w':=by
 intro x
 induction x using Dat.ind with
 | h k n d s l ih=>
  intro v deep B w hv hB hdeep
  obtain ⟨sl,rfl,bk,bn,bd,bs,hs⟩:=hv.open
  obtain ⟨o,len,cap,rfl,hl,hcap,hmax,hc⟩:=hs
  obtain ⟨r,hr⟩:∃r,Dat.right (.mk k n d s l) deep=r:=⟨_,rfl⟩
  rw[hr]
  rw[Dat.right,ziC] at hr
  have HIH:=zh ih
  have HC:=zh hc
  have HL:=zh hl
  have HR:=zh hr
  have HNO:=zh (show Dat.head k n d s.data.toList l.length=false->false=r from fun h=>by rw[<-hr,h];simp)
  have HK:=zh (fun X=>(Below.refl w.heap.size w).alloc qzL X)
  have HU:=zh (Uno.refl w #[.int .i64 k,.int .i64 n,.int .i64 d,.string s,.slice o len cap] 26)
  have HBB:=zh hB
  clear ih hv hc hr hl hB
  by_cases h200:200<deep
  ·have HF:=zh (show false=r by rw[<-HR.out,decide_eq_false (by omega)];simp)
   go_enter func54,ntmps54
   go_wp2_with fail
   go_ret
   exact ⟨zar HF.out,HK.out _⟩
  by_cases hk0:k<0
  ·have HF:=zh (HNO.out (by rw[<-Bool.not_eq_true,zbG];rintro ⟨a0,a1,a2,a3,a4,a5,a6,a7,a8,a9⟩;omega))
   go_enter func54,ntmps54
   go_wp2_with fail
   all_goals go_ret
   all_goals exact ⟨zar HF.out,by first | exact HK.out _ | exact Below.drewN (HK.out _) _ | fail⟩
  by_cases hk7:7<k
  ·have HF:=zh (HNO.out (by rw[<-Bool.not_eq_true,zbG];rintro ⟨a0,a1,a2,a3,a4,a5,a6,a7,a8,a9⟩;omega))
   go_enter func54,ntmps54
   go_wp2_with fail
   all_goals go_ret
   all_goals exact ⟨zar HF.out,by first | exact HK.out _ | exact Below.drewN (HK.out _) _ | fail⟩
  have h200b:decide (200<(deep:Int))=false:=decide_eq_false (by omega)
  obtain ⟨g3,hg3⟩:∃g,decide ((k=0->Num.right n d=true)∧(k≠0->d=0))=g:=⟨_,rfl⟩
  have HG:=zh hg3
  clear hg3
  go_enter func54,ntmps54
  go_upto_region 3 with fail
  go_cut [39] from 7 (fun c wx=>c=.bool (!g3)∧Uno w #[.int .i64 k,.int .i64 n,.int .i64 d,.string s,.slice o len cap] 26 wx)
  case first=>as_aux_lemma=>
   by_cases hz:k=0
   ·subst hz
    obtain ⟨q,hq⟩:∃q,Num.right n d=q:=⟨_,rfl⟩
    have HQ:=zh hq
    cases q with
    | false=>
     have hgg:g3=false:=by rw[<-HG.out];exact decide_eq_false (by rintro ⟨a,_⟩;rw[a rfl] at hq;cases hq)
     subst hgg
     go_wp2_with (first | (go_at_call 91;refine (zgt n d false HQ.out bn.1 bn.2 bd.1 bd.2 _).mono ?_;rintro e1 w1 ⟨rfl,nk,rfl⟩) | fail)
     all_goals go_meet
     all_goals exact ⟨rfl,by first | exact HU.out | exact HU.out.drew | exact Uno.drewN HU.out _ | exact HU.out.next hb1 | fail⟩
    | true=>
     have hgg:g3=true:=by rw[<-HG.out];exact decide_eq_true ⟨fun _=>hq,fun h=>absurd rfl h⟩
     subst hgg
     go_wp2_with (first | (go_at_call 91;refine (zgt n d true HQ.out bn.1 bn.2 bd.1 bd.2 _).mono ?_;rintro e1 w1 ⟨rfl,nk,rfl⟩) | fail)
     all_goals go_meet
     all_goals exact ⟨rfl,by first | exact HU.out | exact HU.out.drew | exact Uno.drewN HU.out _ | exact HU.out.next hb1 | fail⟩
   ·have hz2:(k==0)=false:=by simpa using hz
    have hz3:(k != 0)=true:=by simpa using hz
    by_cases hd:d=0
    ·subst hd
     have hgg:g3=true:=by rw[<-HG.out];exact decide_eq_true ⟨fun h=>absurd h hz,fun _=>rfl⟩
     subst hgg
     go_wp2_with fail
     all_goals go_meet
     all_goals exact ⟨rfl,by first | exact HU.out | exact HU.out.drew | exact Uno.drewN HU.out _ | exact HU.out.next hb1 | fail⟩
    ·have hd2:(d != 0)=true:=by simpa using hd
     have hgg:g3=false:=by rw[<-HG.out];exact decide_eq_false (by rintro ⟨_,a⟩;exact hd (a hz))
     subst hgg
     go_wp2_with fail
     all_goals go_meet
     all_goals exact ⟨rfl,by first | exact HU.out | exact HU.out.drew | exact Uno.drewN HU.out _ | exact HU.out.next hb1 | fail⟩
  case rest=>
   obtain ⟨rfl,hu⟩:=hcut
   clear HU
   have HU:=zh hu
   clear hu
   have p0:=HU.out.cell 0 (v:=.int .i64 k) rfl
   have p1:=HU.out.cell 1 (v:=.int .i64 n) rfl
   have p2:=HU.out.cell 2 (v:=.int .i64 d) rfl
   have p3:=HU.out.cell 3 (v:=.string s) rfl
   have p4:=HU.out.cell 4 (v:=.slice o len cap) rfl
   cases g3 with
   | false=>
    have HF:=zh (HNO.out (by rw[<-Bool.not_eq_true,zbG];rintro ⟨a0,a1,a2,a3,a4,a5,a6,a7,a8,a9⟩;exact absurd ⟨a1,a2⟩ (of_decide_eq_false HG.out)))
    go_wp2_with fail
    all_goals go_ret
    all_goals exact ⟨zar HF.out,HU.out.below⟩
   | true=>
    have HAg3:=zh (of_decide_eq_true HG.out)
    clear HG
    obtain ⟨g5,hg5⟩:∃g,decide ((k=1->n=0∨n=1)∧(k≠0->k≠1->n=0))=g:=⟨_,rfl⟩
    have HG:=zh hg5
    clear hg5
    go_upto_region 5 with fail
    go_cut [67] from 7 (fun c wx=>c=.bool (!g5)∧Uno w #[.int .i64 k,.int .i64 n,.int .i64 d,.string s,.slice o len cap] 26 wx)
    case first=>as_aux_lemma=>
     by_cases h1:k=1
     ·subst h1
      by_cases hn0:n=0
      ·subst hn0
       have hgg:g5=true:=by rw[<-HG.out];exact decide_eq_true ⟨fun _=>.inl rfl,fun _ _=>rfl⟩
       subst hgg
       go_wp2_with fail
       all_goals go_meet
       all_goals exact ⟨rfl,by first | exact HU.out | exact HU.out.drew | exact Uno.drewN HU.out _ | exact HU.out.next hb1 | fail⟩
      have hn02:(n != 0)=true:=by simpa using hn0
      by_cases hn1:n=1
      ·subst hn1
       have hgg:g5=true:=by rw[<-HG.out];exact decide_eq_true ⟨fun _=>.inr rfl,fun _ h=>absurd rfl h⟩
       subst hgg
       go_wp2_with fail
       all_goals go_meet
       all_goals exact ⟨rfl,by first | exact HU.out | exact HU.out.drew | exact Uno.drewN HU.out _ | exact HU.out.next hb1 | fail⟩
      ·have hn12:(n != 1)=true:=by simpa using hn1
       have hgg:g5=false:=by rw[<-HG.out];exact decide_eq_false (by rintro ⟨a,_⟩;have:=a rfl;omega)
       subst hgg
       go_wp2_with fail
       all_goals go_meet
       all_goals exact ⟨rfl,by first | exact HU.out | exact HU.out.drew | exact Uno.drewN HU.out _ | exact HU.out.next hb1 | fail⟩
     ·have h12:(k==1)=false:=by simpa using h1
      have h13:(k != 1)=true:=by simpa using h1
      by_cases hz:k=0
      ·subst hz
       have hgg:g5=true:=by rw[<-HG.out];exact decide_eq_true ⟨fun h=>by omega,fun h=>absurd rfl h⟩
       subst hgg
       go_wp2_with fail
       all_goals go_meet
       all_goals exact ⟨rfl,by first | exact HU.out | exact HU.out.drew | exact Uno.drewN HU.out _ | exact HU.out.next hb1 | fail⟩
      have hz2:(k==0)=false:=by simpa using hz
      have hz3:(k != 0)=true:=by simpa using hz
      by_cases hn0:n=0
      ·subst hn0
       have hgg:g5=true:=by rw[<-HG.out];exact decide_eq_true ⟨fun h=>absurd h h1,fun _ _=>rfl⟩
       subst hgg
       go_wp2_with fail
       all_goals go_meet
       all_goals exact ⟨rfl,by first | exact HU.out | exact HU.out.drew | exact Uno.drewN HU.out _ | exact HU.out.next hb1 | fail⟩
      ·have hn02:(n != 0)=true:=by simpa using hn0
       have hgg:g5=false:=by rw[<-HG.out];exact decide_eq_false (by rintro ⟨_,a⟩;exact hn0 (a hz h1))
       subst hgg
       go_wp2_with fail
       all_goals go_meet
       all_goals exact ⟨rfl,by first | exact HU.out | exact HU.out.drew | exact Uno.drewN HU.out _ | exact HU.out.next hb1 | fail⟩
    case rest=>
     obtain ⟨rfl,hu⟩:=hcut
     clear HU
     have HU:=zh hu
     clear hu
     have p0:=HU.out.cell 0 (v:=.int .i64 k) rfl
     have p1:=HU.out.cell 1 (v:=.int .i64 n) rfl
     have p2:=HU.out.cell 2 (v:=.int .i64 d) rfl
     have p3:=HU.out.cell 3 (v:=.string s) rfl
     have p4:=HU.out.cell 4 (v:=.slice o len cap) rfl
     cases g5 with
     | false=>
      have HF:=zh (HNO.out (by rw[<-Bool.not_eq_true,zbG];rintro ⟨a0,a1,a2,a3,a4,a5,a6,a7,a8,a9⟩;exact absurd ⟨a3,a4⟩ (of_decide_eq_false HG.out)))
      go_wp2_with fail
      all_goals go_ret
      all_goals exact ⟨zar HF.out,HU.out.below⟩
     | true=>
      have HAg5:=zh (of_decide_eq_true HG.out)
      clear HG
      obtain ⟨g7,hg7⟩:∃g,decide ((k=2->Dat.name s.data.toList=true)∧(k≠2->k≠3->s.data.toList=[]))=g:=⟨_,rfl⟩
      have HG:=zh hg7
      clear hg7
      go_upto_region 7 with fail
      go_cut [91] from 7 (fun c wx=>c=.bool (!g7)∧Uno w #[.int .i64 k,.int .i64 n,.int .i64 d,.string s,.slice o len cap] 26 wx)
      case first=>as_aux_lemma=>
       by_cases h2:k=2
       ·subst h2
        obtain ⟨q,hq⟩:∃q,Dat.name s.data.toList=q:=⟨_,rfl⟩
        have HQ:=zh hq
        cases q with
        | false=>
          have hgg:g7=false:=by rw[<-HG.out];exact decide_eq_false (by rintro ⟨a,_⟩;rw[a rfl] at hq;cases hq)
          subst hgg
          go_wp2_with (first | (go_at_call 92;refine (zhV s false HQ.out bs _).mono ?_;rintro e1 w1 ⟨rfl,hb1⟩;have HU1:=zh (HU.out.next hb1);have p0:=HU1.out.cell 0 (v:=.int .i64 2) rfl;have p1:=HU1.out.cell 1 (v:=.int .i64 n) rfl;have p2:=HU1.out.cell 2 (v:=.int .i64 d) rfl;have p3:=HU1.out.cell 3 (v:=.string s) rfl;have p4:=HU1.out.cell 4 (v:=.slice o len cap) rfl) | fail)
          all_goals go_meet
          all_goals exact ⟨rfl,by first | exact HU1.out | exact HU1.out.drew | exact HU.out.drew | exact HU.out | exact Uno.drewN HU1.out _ | exact Uno.drewN HU.out _ | fail⟩
         | true=>
          have hgg:g7=true:=by rw[<-HG.out];exact decide_eq_true ⟨fun _=>hq,fun h=>absurd rfl h⟩
          subst hgg
          go_wp2_with (first | (go_at_call 92;refine (zhV s true HQ.out bs _).mono ?_;rintro e1 w1 ⟨rfl,hb1⟩;have HU1:=zh (HU.out.next hb1);have p0:=HU1.out.cell 0 (v:=.int .i64 2) rfl;have p1:=HU1.out.cell 1 (v:=.int .i64 n) rfl;have p2:=HU1.out.cell 2 (v:=.int .i64 d) rfl;have p3:=HU1.out.cell 3 (v:=.string s) rfl;have p4:=HU1.out.cell 4 (v:=.slice o len cap) rfl) | fail)
          all_goals go_meet
          all_goals exact ⟨rfl,by first | exact HU1.out | exact HU1.out.drew | exact HU.out.drew | exact HU.out | exact Uno.drewN HU1.out _ | exact Uno.drewN HU.out _ | fail⟩
       ·have h22:(k==2)=false:=by simpa using h2
        have h23:(k != 2)=true:=by simpa using h2
        by_cases h3:k=3
        ·subst h3
         have hgg:g7=true:=by rw[<-HG.out];exact decide_eq_true ⟨fun h=>absurd h h2,fun _ h=>absurd rfl h⟩
         subst hgg
         go_wp2_with fail
         all_goals go_meet
         all_goals exact ⟨rfl,by first | exact HU.out | exact HU.out.drew | exact Uno.drewN HU.out _ | exact HU.out.next hb1 | fail⟩
        have h33:(k != 3)=true:=by simpa using h3
        cases he:s.toList.isEmpty with
        | false=>
         have hgg:g7=false:=by rw[<-HG.out];exact decide_eq_false (by rintro ⟨_,a⟩;rw[ByteArray.toList_eq,a h2 h3] at he;cases he)
         subst hgg
         go_wp2_with fail
         all_goals go_meet
         all_goals exact ⟨rfl,by first | exact HU.out | exact HU.out.drew | exact Uno.drewN HU.out _ | exact HU.out.next hb1 | fail⟩
        | true=>
         have hgg:g7=true:=by rw[<-HG.out];exact decide_eq_true ⟨fun h=>absurd h h2,fun _ _=>by rw[<-ByteArray.toList_eq];exact List.isEmpty_iff.1 he⟩
         subst hgg
         go_wp2_with fail
         all_goals go_meet
         all_goals exact ⟨rfl,by first | exact HU.out | exact HU.out.drew | exact Uno.drewN HU.out _ | exact HU.out.next hb1 | fail⟩
      case rest=>
       obtain ⟨rfl,hu⟩:=hcut
       clear HU
       have HU:=zh hu
       clear hu
       have p0:=HU.out.cell 0 (v:=.int .i64 k) rfl
       have p1:=HU.out.cell 1 (v:=.int .i64 n) rfl
       have p2:=HU.out.cell 2 (v:=.int .i64 d) rfl
       have p3:=HU.out.cell 3 (v:=.string s) rfl
       have p4:=HU.out.cell 4 (v:=.slice o len cap) rfl
       cases g7 with
       | false=>
        have HF:=zh (HNO.out (by rw[<-Bool.not_eq_true,zbG];rintro ⟨a0,a1,a2,a3,a4,a5,a6,a7,a8,a9⟩;exact absurd ⟨a5,a6⟩ (of_decide_eq_false HG.out)))
        go_wp2_with fail
        all_goals go_ret
        all_goals exact ⟨zar HF.out,HU.out.below⟩
       | true=>
        have HAg7:=zh (of_decide_eq_true HG.out)
        clear HG
        go_wp2_with fail
        go_loopg [5] s.size (fun g i wr=>∃j:Nat,g=s.size-j∧j<=s.size∧i=.int .i64 j∧(∀b∈s.data.toList.take j,Dat.strByte b=true)∧Uno w #[.int .i64 k,.int .i64 n,.int .i64 d,.string s,.slice o len cap] 26 wr)
        case atStart=>exact ⟨0,rfl,by omega,rfl,by simp,HU.out⟩
        case round=>
         obtain ⟨j,rfl,hj,rfl,ha,hu⟩:=hrel
         clear HU p0 p1 p2 p3 p4
         have HU:=zh hu
         have HA:=zh ha
         clear hu ha
         have p0:=HU.out.cell 0 (v:=.int .i64 k) rfl
         have p1:=HU.out.cell 1 (v:=.int .i64 n) rfl
         have p2:=HU.out.cell 2 (v:=.int .i64 d) rfl
         have p3:=HU.out.cell 3 (v:=.string s) rfl
         have p4:=HU.out.cell 4 (v:=.slice o len cap) rfl
         by_cases hjl:j<s.size
         ·have hsl:j<s.data.toList.length:=hjl
          obtain ⟨gb,hgb⟩:∃g,decide (32<=s[j].toNat∧s[j].toNat<=126∧s[j].toNat≠34∧s[j].toNat≠92)=g:=⟨_,rfl⟩
          have HG:=zh hgb
          clear hgb
          go_upto_region 12 with fail
          go_cut [124] from 92 to 124 (fun c wx=>c=.bool (!gb)∧Uno w #[.int .i64 k,.int .i64 n,.int .i64 d,.string s,.slice o len cap] 26 wx)
          case first=>as_aux_lemma=>
           by_cases b0:s[j].toNat<32
           ·have f0:decide ((s[j].toNat:Int)<32)=true:=decide_eq_true (by omega)
            have hgg:gb=false:=by rw[<-HG.out];exact decide_eq_false (by rintro ⟨a,b,c,d⟩;omega)
            subst hgg
            go_wp2_with fail
            all_goals go_meet
            all_goals exact ⟨rfl,by first | exact HU.out | exact HU.out.drew | exact Uno.drewN HU.out _ | exact HU.out.next hb1 | fail⟩
           have f0:decide ((s[j].toNat:Int)<32)=false:=decide_eq_false (by omega)
           by_cases b1:126<s[j].toNat
           ·have f1:decide ((126:Int)<(s[j].toNat:Int))=true:=decide_eq_true (by omega)
            have hgg:gb=false:=by rw[<-HG.out];exact decide_eq_false (by rintro ⟨a,b,c,d⟩;omega)
            subst hgg
            go_wp2_with fail
            all_goals go_meet
            all_goals exact ⟨rfl,by first | exact HU.out | exact HU.out.drew | exact Uno.drewN HU.out _ | exact HU.out.next hb1 | fail⟩
           have f1:decide ((126:Int)<(s[j].toNat:Int))=false:=decide_eq_false (by omega)
           by_cases b2:s[j].toNat=34
           ·have f2:((s[j].toNat:Int)==34)=true:=by rw[b2];rfl
            have hgg:gb=false:=by rw[<-HG.out];exact decide_eq_false (by rintro ⟨a,b,c,d⟩;omega)
            subst hgg
            go_wp2_with fail
            all_goals go_meet
            all_goals exact ⟨rfl,by first | exact HU.out | exact HU.out.drew | exact Uno.drewN HU.out _ | exact HU.out.next hb1 | fail⟩
           have f2:((s[j].toNat:Int)==34)=false:=by rw[beq_eq_false_iff_ne];omega
           by_cases b3:s[j].toNat=92
           ·have f3:((s[j].toNat:Int)==92)=true:=by rw[b3];rfl
            have hgg:gb=false:=by rw[<-HG.out];exact decide_eq_false (by rintro ⟨a,b,c,d⟩;omega)
            subst hgg
            go_wp2_with fail
            all_goals go_meet
            all_goals exact ⟨rfl,by first | exact HU.out | exact HU.out.drew | exact Uno.drewN HU.out _ | exact HU.out.next hb1 | fail⟩
           have f3:((s[j].toNat:Int)==92)=false:=by rw[beq_eq_false_iff_ne];omega
           have hgg:gb=true:=by rw[<-HG.out];exact decide_eq_true ⟨by omega,by omega,b2,b3⟩
           subst hgg
           go_wp2_with fail
           all_goals go_meet
           all_goals exact ⟨rfl,by first | exact HU.out | exact HU.out.drew | exact Uno.drewN HU.out _ | exact HU.out.next hb1 | fail⟩
          case rest=>
           obtain ⟨rfl,hu⟩:=hcut
           clear HU p0 p1 p2 p3 p4
           have HU:=zh hu
           clear hu
           cases gb with
           | false=>
            have HF:=zh (HNO.out (by rw[<-Bool.not_eq_true,zbG];rintro ⟨a0,a1,a2,a3,a4,a5,a6,a7,a8,a9⟩;exact absurd ((zeh _).1 (List.all_eq_true.1 a7 _ (List.getElem_mem hsl))) (of_decide_eq_false HG.out)))
            go_wp2_with fail
            all_goals go_ret
            all_goals exact ⟨zar HF.out,HU.out.below⟩
           | true=>
            have HSB:=zh ((zeh _).2 (of_decide_eq_true HG.out))
            go_wp2_with fail
            go_roundg (s.size-(j+1))
            case measure=>omega
            case rel=>exact ⟨j+1,rfl,by omega,by go_num,zci HA.out hsl HSB.out,HU.out⟩
         ·obtain rfl:j=s.size:=by omega
          have HAs:=zh (show s.data.toList.all Dat.strByte=true from List.all_eq_true.2 (by have:=HA.out;rwa[List.take_of_length_le (show s.data.toList.length<=s.size from Nat.le_of_eq rfl)] at this))
          clear HA
          obtain ⟨g14,hg14⟩:∃g,decide ((k=6->len=2)∧(k≠6->k≠7->len=0))=g:=⟨_,rfl⟩
          have HG:=zh hg14
          clear hg14
          go_upto_region 14 with fail
          go_cut [149] from 7 (fun c wx=>c=.bool (!g14)∧Uno w #[.int .i64 k,.int .i64 n,.int .i64 d,.string s,.slice o len cap] 26 wx)
          case first=>as_aux_lemma=>
           by_cases h6:k=6
           ·subst h6
            by_cases hl2:len=2
            ·subst hl2
             have hgg:g14=true:=by rw[<-HG.out];exact decide_eq_true ⟨fun _=>rfl,fun h=>absurd rfl h⟩
             subst hgg
             go_wp2_with fail
             all_goals go_meet
             all_goals exact ⟨rfl,by first | exact HU.out | exact HU.out.drew | exact Uno.drewN HU.out _ | exact HU.out.next hb1 | fail⟩
            ·have hl3:((len:Int) != 2)=true:=by rw[bne_iff_ne];omega
             have hgg:g14=false:=by rw[<-HG.out];exact decide_eq_false (by rintro ⟨a,_⟩;exact hl2 (a rfl))
             subst hgg
             go_wp2_with fail
             all_goals go_meet
             all_goals exact ⟨rfl,by first | exact HU.out | exact HU.out.drew | exact Uno.drewN HU.out _ | exact HU.out.next hb1 | fail⟩
           have h62:(k==6)=false:=by simpa using h6
           have h63:(k != 6)=true:=by simpa using h6
           by_cases h7:k=7
           ·subst h7
            have hgg:g14=true:=by rw[<-HG.out];exact decide_eq_true ⟨fun h=>absurd h h6,fun _ h=>absurd rfl h⟩
            subst hgg
            go_wp2_with fail
            all_goals go_meet
            all_goals exact ⟨rfl,by first | exact HU.out | exact HU.out.drew | exact Uno.drewN HU.out _ | exact HU.out.next hb1 | fail⟩
           have h73:(k != 7)=true:=by simpa using h7
           by_cases hl0:len=0
           ·subst hl0
            have hgg:g14=true:=by rw[<-HG.out];exact decide_eq_true ⟨fun h=>absurd h h6,fun _ _=>rfl⟩
            subst hgg
            go_wp2_with fail
            all_goals go_meet
            all_goals exact ⟨rfl,by first | exact HU.out | exact HU.out.drew | exact Uno.drewN HU.out _ | exact HU.out.next hb1 | fail⟩
           have hl1:decide ((0:Int)<(len:Int))=true:=decide_eq_true (by omega)
           have hl2:decide (0<len)=true:=decide_eq_true (by omega)
           have hgg:g14=false:=by rw[<-HG.out];exact decide_eq_false (by rintro ⟨_,a⟩;exact hl0 (a h6 h7))
           subst hgg
           go_wp2_with fail
           all_goals go_meet
           all_goals exact ⟨rfl,by first | exact HU.out | exact HU.out.drew | exact Uno.drewN HU.out _ | exact HU.out.next hb1 | fail⟩
          case rest=>
           obtain ⟨rfl,hu⟩:=hcut
           clear HU p0 p1 p2 p3 p4
           have HU:=zh hu
           clear hu
           have p0:=HU.out.cell 0 (v:=.int .i64 k) rfl
           have p1:=HU.out.cell 1 (v:=.int .i64 n) rfl
           have p2:=HU.out.cell 2 (v:=.int .i64 d) rfl
           have p3:=HU.out.cell 3 (v:=.string s) rfl
           have p4:=HU.out.cell 4 (v:=.slice o len cap) rfl
           cases g14 with
           | false=>
            have HF:=zh (HNO.out (by rw[<-Bool.not_eq_true,zbG];rintro ⟨a0,a1,a2,a3,a4,a5,a6,a7,a8,a9⟩;rw[<-HL.out] at a8 a9;exact absurd ⟨a8,a9⟩ (of_decide_eq_false HG.out)))
            go_wp2_with fail
            all_goals go_ret
            all_goals exact ⟨zar HF.out,HU.out.below⟩
           | true=>
            have HAg14:=zh (of_decide_eq_true HG.out)
            clear HG
            have HQ:=zh (show (l.all fun x=>Dat.right x (deep+1))=r by
             rw[<-HR.out,decide_eq_true (by omega:deep<=200),(zbG k n d s.data.toList l.length).2 ⟨by omega,HAg3.out.1,HAg3.out.2,HAg5.out.1,HAg5.out.2,HAg7.out.1,HAg7.out.2,HAs.out,by rw[<-HL.out];exact HAg14.out.1,by rw[<-HL.out];exact HAg14.out.2⟩]
             rfl)
            go_wp2_with fail
            go_loopg [6] len (fun g i wr=>∃j:Nat,g=len-j∧j<=len∧i=.int .i64 j∧(∀(q:Nat) (x:Dat),q<j->l[q]?=some x->Dat.right x (deep+1)=true)∧Uno w #[.int .i64 k,.int .i64 n,.int .i64 d,.string s,.slice o len cap] 26 wr)
            case atStart=>exact ⟨0,rfl,by omega,rfl,fun q x h=>absurd h (by omega),HU.out⟩
            case round=>
             obtain ⟨j,rfl,hj,rfl,hq,hu⟩:=hrel
             clear HU p0 p1 p2 p3 p4
             have HU:=zh hu
             have HQ2:=zh hq
             clear hu hq
             have p4:=HU.out.cell 4 (v:=.slice o len cap) rfl
             have hsz:=HU.out.size
             by_cases hjl:j<len
             ·obtain ⟨x,hx⟩:∃x,l[j]?=some x:=⟨_,List.getElem?_eq_getElem (by rw[<-HL.out];exact hjl)⟩
              obtain ⟨b1,off1,k1,n1,d1,s1,l1,o1,len1,cap1,ho1,hx1,e0,e1,e2,e3,e4,er⟩:=zat HC.out (HU.out.below.mono HBB.out) hx
              subst ho1 hx1
              have ER:=zh er
              have HX:=zh hx
              have hl1:=zai e0
              have hlb1:=zai p4
              obtain ⟨q,hq⟩:∃q,Dat.right (.mk k1 n1 d1 s1 l1) (deep+1)=q:=⟨_,rfl⟩
              have HQQ:=zh hq
              clear hx er hq
              have hC:Calls prog 54 #[.agg #[.int .i64 k1,.int .i64 n1,.int .i64 d1,.string s1,.slice o1 len1 cap1],.int .i64 ((deep:Int)+1)] wr fun e w'=>e=.returned (.bool q)∧Below wr.heap.size wr w':=by
               have:=HIH.out (.mk k1 n1 d1 s1 l1) (List.mem_of_getElem? HX.out) _ (deep+1) B wr ER.out (by have:=HBB.out;omega) (by omega)
               rw[HQQ.out] at this
               rw[show ((deep:Int)+1)=((deep+1:Nat):Int) by omega]
               exact this
              have HCC:=zh hC
              clear hC
              cases q with
              | true=>
               go_wp2_with (first | (go_at_call 54;refine HCC.out.mono ?_;rintro e2 w2 ⟨rfl,hb2⟩) | fail)
               go_roundg (len-(j+1))
               case measure=>omega
               case rel=>
                refine ⟨j+1,rfl,by omega,by go_num,?_,HU.out.next hb2⟩
                intro p x hp hx
                by_cases hpj:p<j
                ·exact HQ2.out p x hpj hx
                ·obtain rfl:p=j:=by omega
                 obtain rfl:=Option.some.inj (hx.symm.trans HX.out)
                 exact HQQ.out
              | false=>
               have HF:=zh (show false=r by
                rw[<-HQ.out,eq_comm,List.all_eq_false]
                exact ⟨_,List.mem_of_getElem? HX.out,by rw[HQQ.out];simp⟩)
               go_wp2_with (first | (go_at_call 54;refine HCC.out.mono ?_;rintro e2 w2 ⟨rfl,hb2⟩) | fail)
               go_ret
               exact ⟨zar HF.out,(HU.out.next hb2).below⟩
             ·obtain rfl:j=len:=by omega
              have HF:=zh (show true=r by
               rw[<-HQ.out,eq_comm,List.all_eq_true]
               intro x hx
               obtain ⟨i,hi,he⟩:=List.getElem_of_mem hx
               exact HQ2.out i x (by rw[HL.out];exact hi) (by rw[<-he];exact List.getElem?_eq_getElem hi))
              go_wp2_with fail
              go_ret
              exact ⟨zar HF.out,HU.out.below⟩
theorem zjt (x:Dat) (v:Value) (deep B:Nat) (w:World) (r:Bool) (hr:Dat.right x deep=r) (hv:RepD w B x v) (hB:B<=w.heap.size) (hd:deep<=201) :
  Calls prog 54 #[v,.int .i64 deep] w fun e w'=>e=.returned (.bool r)∧Below w.heap.size w w':=by
 rw[<-hr];exact ziu x v deep B w hv hB hd
theorem zgy (x:Dat) (v:Value) (B:Nat) (w:World) (r:Bool) (hr:Dat.right x 0=r) (hv:RepD w B x v) (hB:B<=w.heap.size) :
  Calls prog 31 #[v] w fun e w'=>e=.returned (.bool r)∧Below w.heap.size w w':=by
 obtain ⟨k,n,d,s,l⟩:=x
 obtain ⟨sl,rfl,_⟩:=hv.open
 have HV:=zh hv
 have HR:=zh hr
 clear hv hr
 go_enter func31,ntmps31
 go_wp2_with (first | (go_at_call 54;refine (zjt (.mk k n d s l) _ 0 B _ r HR.out (HV.out.kept ((qzB.alloc qzL _).mono hB)) (by simp;omega) (by omega)).mono ?_;rintro e' w1 ⟨rfl,hb1⟩) | fail)
 go_ret
 exact ⟨rfl,(qzB.alloc qzL _).trans (hb1.mono (by simp))⟩
end
section
open Go.RowKit
theorem zhw {B b H:Nat} {l:List UInt8} {W:World} {c0 c1 c2 c3 c4:Value} (h:IsB B b l W) (hx:Box5 W H 26 c0 c1 c2 c3 c4) (hH:H≠b) (d0 d1 d2 d3 d4:Value):IsB B b l (set5 W H d0 d1 d2 d3 d4):=by
 have hg:W.grownBy (set5 W H d0 d1 d2 d3 d4) (some H):=⟨(zag W H H d0 d1 d2 d3 d4 qzL).os,(zag W H H d0 d1 d2 d3 d4 qzL).tape,(zag W H H d0 d1 d2 d3 d4 qzL).output,(zag W H H d0 d1 d2 d3 d4 qzL).size,fun k _ hk=>zam _ _ _ _ _ _ _ (by simpa using hk)⟩
 have one:∀p,Lib.BuilderAtF 60 5 B b p (Lib.byteCells l) W->Lib.BuilderAtF 60 5 B b p (Lib.byteCells l) (set5 W H d0 d1 d2 d3 d4):=by
  rintro p ⟨hB,v,hb,hown,hne⟩
  exact ⟨hB,v,(zam _ _ _ _ _ _ _ (Ne.symm hH)).trans hb,hown.kept hg (.inr (Lib.ownBlock_neF hown hx (by decide))),hne⟩
 exact h.elim (fun x=>.inl (one _ x)) (fun x=>.inr (one _ x))
theorem zeW {B b H:Nat} {w W:World} (h:BKeep B b w W) (hH:w.heap.size<=H) (hB:B<=H) (d0 d1 d2 d3 d4:Value):BKeep B b w (set5 W H d0 d1 d2 d3 d4):=
 ⟨h.1.trans (zag _ _ _ _ _ _ _ _ hB),fun k o hk hb ho=>(zam _ _ _ _ _ _ _ (by have:=(Array.getElem?_eq_some_iff.1 hk).1;omega)).trans (h.2 k o hk hb ho)⟩
def Writes (B b:Nat) (x:Dat):Prop:=∀(v:Value) (l1:List UInt8) (W:World),IsB B b l1 W->RepD W B x v->B<=W.heap.size->EnvAt B W->l1.length+(Dat.text x false).length<=140737488355328 ->
 Calls prog 38 #[.pointer (some ⟨b,0,none⟩),v] W (WPost B b (l1++Dat.text x false) W)
theorem zeJ {n d:Int} {s:ByteArray} {l:List Dat} {deep:Nat} (h:Dat.right (.mk 6 n d s l) deep=true):∃a c,l=[a,c]∧n=0∧d=0∧s=⟨#[]⟩∧Dat.right a 0=true∧Dat.right c 0=true:=by
 have h2:=h
 simp[Dat.right,Dat.head] at h
 obtain ⟨_,⟨hd,hn,hs,hl⟩,_⟩:=h
 match l,hl with
 | [a,c],_=>
  refine ⟨a,c,rfl,hn,hd,?_,Dat.right_part h2 (by simp[Dat.l]),Dat.right_part h2 (by simp[Dat.l])⟩
  exact ByteArray.ext hs
theorem zhO {w wr:World} {B:Nat} {a c:Dat} {o:Option Addr} {len cap:Nat} (h:RepS w B [a,c] (.slice o len cap)) (hb:Below B w wr) :
  ∃b off k n d s l' o' len' cap',o=some ⟨b,off,none⟩∧a=.mk k n d s l'∧wr.cell? ⟨b,off,none⟩=some (.int .i64 k)∧wr.cell? ⟨b,off+1,none⟩=some (.int .i64 n)∧wr.cell? ⟨b,off+2,none⟩=some (.int .i64 d) ∧
   wr.cell? ⟨b,off+3,none⟩=some (.string s)∧wr.cell? ⟨b,off+4,none⟩=some (.slice o' len' cap')∧RepD wr B (.mk k n d s l') (.agg #[.int .i64 k,.int .i64 n,.int .i64 d,.string s,.slice o' len' cap']):=by
 obtain ⟨o2,len2,cap2,he,_,_,_,h2⟩:=h
 simp only[Value.slice.injEq] at he
 obtain ⟨rfl,rfl,rfl⟩:=he
 have:=zat (j:=0) (x:=a) h2 hb rfl
 simpa using this
theorem zlg {w wr:World} {B:Nat} {a c:Dat} {o:Option Addr} {len cap:Nat} (h:RepS w B [a,c] (.slice o len cap)) (hb:Below B w wr) :
  ∃b off k n d s l' o' len' cap',o=some ⟨b,off,none⟩∧c=.mk k n d s l'∧wr.cell? ⟨b,off+5,none⟩=some (.int .i64 k)∧wr.cell? ⟨b,off+6,none⟩=some (.int .i64 n)∧wr.cell? ⟨b,off+7,none⟩=some (.int .i64 d) ∧
   wr.cell? ⟨b,off+8,none⟩=some (.string s)∧wr.cell? ⟨b,off+9,none⟩=some (.slice o' len' cap')∧RepD wr B (.mk k n d s l') (.agg #[.int .i64 k,.int .i64 n,.int .i64 d,.string s,.slice o' len' cap']):=by
 obtain ⟨o2,len2,cap2,he,_,_,_,h2⟩:=h
 simp only[Value.slice.injEq] at he
 obtain ⟨rfl,rfl,rfl⟩:=he
 have:=zat (j:=1) (x:=c) h2 hb rfl
 simpa using this
def PairI (B b H:Nat) (l0:List UInt8) (w:World) (N:Nat) (T:List UInt8) (g:Nat) (wr:World):Prop:=
 ∃(k n d:Int) (s:ByteArray) (l:List Dat) (o:Option Addr) (len cap:Nat) (U:List UInt8),Box5 wr H 26 (.int .i64 k) (.int .i64 n) (.int .i64 d) (.string s) (.slice o len cap)∧RepD wr B (.mk k n d s l) (.agg #[.int .i64 k,.int .i64 n,.int .i64 d,.string s,.slice o len cap]) ∧
  Dat.right (.mk k n d s l) 0=true∧Dat.all (.mk k n d s l)<=g∧g<N∧IsB B b (l0++U) wr∧BKeep B b w wr∧U++Dat.text (.mk k n d s l) true=T
theorem zeQ (n d:Int) (s:ByteArray) (a c:Dat):Dat.text (.mk 6 n d s [a,c]) true=32::(Dat.text a false++Dat.text c true):=by
 rw[Dat.text,if_pos rfl,Dat.textP];rfl
theorem zeE (n d:Int) (s:ByteArray) (l:List Dat):Dat.text (.mk 4 n d s l) true=[]:=by
 rw[Dat.text,if_neg (by omega)];rfl
theorem zfH (k n d:Int) (s:ByteArray) (l:List Dat) (h6:¬k=6) (h4:¬k=4):Dat.text (.mk k n d s l) true=[32,46,32]++Dat.text (.mk k n d s l) false:=by
 rw[Dat.text,Dat.text,if_neg h6,if_neg h6,if_pos rfl,if_neg h4];rfl
theorem zln (B b:Nat) (l0:List UInt8) (n d:Int) (s:ByteArray) (a c:Dat) (sl:Value) (w:World) (hb:IsB B b l0 w) (hB:B<=w.heap.size) (hE:EnvAt B w) (hv:RepS w B [a,c] sl) (ha:Dat.right a 0=true) (hc:Dat.right c 0=true)
  (IH:∀x,Dat.all x<Dat.all a+Dat.all c+1->Dat.right x 0=true->Writes B b x)
  (hl:l0.length+(40::(Dat.textP [a,c]++[41])).length<=140737488355328) :
  Calls prog 38 #[.pointer (some ⟨b,0,none⟩),.agg #[.int .i64 6,.int .i64 n,.int .i64 d,.string s,sl]] w (WPost B b (l0++(40::(Dat.textP [a,c]++[41]))) w):=by
 obtain ⟨o,len,cap,rfl,jk,hcap,hmax,hcc⟩:=hv
 obtain rfl:len=2:=jk
 replace hcc:RepS w B [a,c] (.slice o 2 cap):=⟨o,2,cap,rfl,rfl,hcap,hmax,hcc⟩
 obtain ⟨bb,off,ak,an,ad,ast,al,ao,alen,acap,rfl,hae,e0,e1,e2,e3,e4,er⟩:=zhO hcc (Below.refl B w)
 have HK:=zh (fun X=>zaL (b:=b) hB X)
 have HB:=zh (fun X=>za6 hb X)
 have HE:=zh hE
 have HV:=zh hcc
 have HI:=zh IH
 have HA:=zh ha
 have HC:=zh hc
 have hbw:=hb.lt
 have hbB:=hb.base
 have hlen2:l0.length+1+(Dat.textP [a,c]).length+1<=140737488355328:=by simp at hl;omega
 have hTP:Dat.textP [a,c]=Dat.text a false++Dat.text c true:=by rw[Dat.textP]
 have HTP:=zh hTP
 have hlt:(Dat.textP [a,c]).length=(Dat.text a false).length+(Dat.text c true).length:=by rw[hTP,List.length_append]
 clear hE hcc IH hl hb ha hc hTP e0 e1 e2 e3 e4 er
 go_enter func38,ntmps38
 go_wp2_with fail
 refine (zaC B b l0 [40] _ _ rfl (HB.out _) (by simp;omega) (by simp;omega)).mono ?_
 rintro e' w1 ⟨rfl,hb1,hk1⟩
 have hbox:=Box5.bkeep hk1 (Box5.new w 26 _ _ _ _ _) (by omega)
 obtain ⟨q0,q1,q2,q3,q4⟩:=hbox.cells
 have HK1:=zh ((HK.out _).trans hk1)
 obtain ⟨bb',off',ak',an',ad',ast',al',ao',alen',acap',hoo,hae',e0,e1,e2,e3,e4,er⟩:=zhO HV.out HK1.out.1
 simp only[Option.some.injEq,Addr.mk.injEq,and_true] at hoo
 obtain ⟨rfl,rfl⟩:=hoo
 have ER:=zh er
 have HAE:=zh hae'
 have HB1:=zh hb1
 have HX:=zh hbox
 clear hb1 hk1 hbox er hae' hae
 go_wp2_with fail
 have hs1:=HK1.out.size
 refine (HI.out a (by omega) HA.out _ _ _ HB1.out (by rw[HAE.out];exact ER.out) (by omega) (HE.out.kept HK1.out.1) (by simp only[List.length_append,qzN,qzO];omega)).mono ?_
 rintro e' w2 ⟨rfl,hb2,hk2⟩
 have hbox:=Box5.bkeep hk2 HX.out (by omega)
 obtain ⟨p0,p1,p2,p3,p4⟩:=hbox.cells
 obtain ⟨z0,z1,z2,z3,z4⟩:=hbox.free
 have HK2:=zh (HK1.out.trans hk2)
 obtain ⟨bb',off',ck,cn,cd,cs,cl,co,clen,ccap,hoo,hce,f0,f1,f2,f3,f4,fr⟩:=zlg HV.out HK2.out.1
 simp only[Option.some.injEq,Addr.mk.injEq,and_true] at hoo
 obtain ⟨rfl,rfl⟩:=hoo
 have FR:=zh fr
 have HCE:=zh hce
 have HB2:=zh hb2
 have HX2:=zh hbox
 clear hb2 hk2 hbox fr hce q0 q1 q2 q3 q4 e0 e1 e2 e3 e4
 go_wp2_with fail
 obtain ⟨W3,hW3⟩:∃W3,set5 w2 w.heap.size (.int .i64 ck) (.int .i64 cn) (.int .i64 cd) (.string cs) (.slice co clen ccap)=W3:=⟨_,rfl⟩
 have hs2:=HK2.out.size
 have hI:PairI B b w.heap.size l0 w (Dat.all a+Dat.all c+1) (40::Dat.textP [a,c]) (Dat.all c) W3:=by
  refine ⟨ck,cn,cd,cs,cl,co,clen,ccap,[40]++Dat.text a false,?_,?_,?_,?_,?_,?_,?_,?_⟩
  ·rw[<-hW3];exact HX2.out.set _ _ _ _ _
  ·rw[<-hW3];exact FR.out.kept (zag _ _ _ _ _ _ _ _ hB)
  ·rw[<-HCE.out];exact HC.out
  ·rw[<-HCE.out];exact qzL
  ·have:=Dat.all_pos a;omega
  ·rw[<-hW3]
   have:=zhw HB2.out HX2.out (by omega) (.int .i64 ck) (.int .i64 cn) (.int .i64 cd) (.string cs) (.slice co clen ccap)
   simpa using this
  ·rw[<-hW3];exact zeW HK2.out qzL hB _ _ _ _ _
  ·rw[HTP.out,<-HCE.out];simp
 unfold set5 at hW3
 rw[hW3]
 have HI0:=zh hI
 clear hI hW3 p0 p1 p2 p3 p4 z0 z1 z2 z3 z4 f0 f1 f2 f3 f4 HB2 HX2 FR HCE HAE ER HX HB1
 go_loopg [] (Dat.all c) (fun g wr=>PairI B b w.heap.size l0 w (Dat.all a+Dat.all c+1) (40::Dat.textP [a,c]) g wr)
 case atStart=>exact HI0.out
 case round=>
  obtain ⟨k,n1,d1,s1,l1,o1,len1,cap1,U,hbox,ji,hri,hle,hN,hib,hbk,hT⟩:=hrel
  obtain ⟨q0,q1,q2,q3,q4⟩:=hbox.cells
  have hTl:U.length+(Dat.text (.mk k n1 d1 s1 l1) true).length=1+(Dat.textP [a,c]).length:=by
   have:=congrArg List.length hT
   simp at this;omega
  have hszr:=hbk.size
  have hlt1:=hbox.lt
  have HX:=zh hbox
  have HR:=zh ji
  have HRI:=zh hri
  have HIB:=zh hib
  have HBK:=zh hbk
  have HT:=zh hT
  clear hbox ji hri hib hbk hT
  by_cases k6:k=6
  ·subst k6
   obtain ⟨a',c',rfl,rfl,rfl,rfl,ha',hc'⟩:=zeJ HRI.out
   have HA':=zh ha'
   have HC':=zh hc'
   clear ha' hc'
   have hall:Dat.all (.mk 6 0 0 ⟨#[]⟩ [a',c'])=1+(Dat.all a'+(Dat.all c'+0)):=rfl
   rw[zeQ] at hTl
   simp only[qzN,List.length_append] at hTl
   obtain ⟨sl,hv,_,_,_,_,hs⟩:=HR.out.open
   simp only[Value.agg.injEq,Array.mk.injEq,List.cons.injEq,and_true,true_and] at hv
   obtain rfl:=hv
   have hl2:len1=2:=by obtain ⟨_,_,_,he,h2,_⟩:=hs;simp only[Value.slice.injEq] at he;rw[he.2.1,h2];rfl
   subst hl2
   have hcp:2<=cap1∧cap1<=9223372036854775807:=by obtain ⟨_,_,_,he,h2,h3,h4,_⟩:=hs;simp only[Value.slice.injEq] at he;omega
   have HS:=zh hs
   obtain ⟨bb,off,ho⟩:∃bb off,o1=some ⟨bb,off,none⟩:=by
    obtain ⟨bb,off,_,_,_,_,_,_,_,_,ho,_⟩:=zhO hs (Below.refl B wr);exact ⟨bb,off,ho⟩
   subst ho
   clear hs
   go_wp2_with fail
   refine (zaC B b _ [32] _ _ rfl HIB.out (by simp only[List.length_append,qzN,qzO];omega) (by omega)).mono ?_
   rintro e' w1 ⟨rfl,hb1,hk1⟩
   have hbox:=Box5.bkeep hk1 HX.out (by omega)
   obtain ⟨p0,p1,p2,p3,p4⟩:=hbox.cells
   obtain ⟨bb',off',ak',an',ad',ast',al',ao',alen',acap',hoo,hae',e0,e1,e2,e3,e4,er⟩:=zhO HS.out hk1.1
   simp only[Option.some.injEq,Addr.mk.injEq,and_true] at hoo
   obtain ⟨rfl,rfl⟩:=hoo
   have HK1:=zh (HBK.out.trans hk1)
   have HKr:=zh hk1
   have ER:=zh er
   have HAE:=zh hae'
   have HB1:=zh hb1
   have HX1:=zh hbox
   have hs1:=hk1.size
   clear hb1 hk1 hbox er hae' q0 q1 q2 q3 q4
   go_wp2_with fail
   refine (HI.out a' (by omega) HA'.out _ _ _ HB1.out (by rw[HAE.out];exact ER.out) (by omega) (HE.out.kept HK1.out.1) (by simp only[List.length_append,qzN,qzO];omega)).mono ?_
   rintro e' w2 ⟨rfl,hb2,hk2⟩
   have hbox:=Box5.bkeep hk2 HX1.out (by omega)
   obtain ⟨r0,r1,r2,r3,r4⟩:=hbox.cells
   obtain ⟨z0,z1,z2,z3,z4⟩:=hbox.free
   obtain ⟨bb',off',ck,cn,cd,cs,cl,co,clen,ccap,hoo,hce,f0,f1,f2,f3,f4,fr⟩:=zlg HS.out (HKr.out.trans hk2).1
   simp only[Option.some.injEq,Addr.mk.injEq,and_true] at hoo
   obtain ⟨rfl,rfl⟩:=hoo
   have HK2:=zh (HK1.out.trans hk2)
   have FR:=zh fr
   have HCE:=zh hce
   have HB2:=zh hb2
   have HX2:=zh hbox
   have hs2:=hk2.size
   clear hb2 hk2 hbox fr hce e0 e1 e2 e3 e4 p0 p1 p2 p3 p4
   go_wp2_with fail
   go_roundg (Dat.all c')
   case measure=>omega
   case rel=>
    refine ⟨ck,cn,cd,cs,cl,co,clen,ccap,U++[32]++Dat.text a' false,HX2.out.set _ _ _ _ _,FR.out.kept (zag _ _ _ _ _ _ _ _ hB),?_,?_,?_,?_,zeW HK2.out qzL hB _ _ _ _ _,?_⟩
    ·rw[<-HCE.out];exact HC'.out
    ·rw[<-HCE.out];exact qzL
    ·omega
    ·have:=zhw HB2.out HX2.out (by omega) (.int .i64 ck) (.int .i64 cn) (.int .i64 cd) (.string cs) (.slice co clen ccap)
     simpa using this
    ·rw[<-HT.out,zeQ,<-HCE.out];simp
  by_cases k4:k=4
  ·subst k4
   rw[zeE] at hTl
   simp only[qzO] at hTl
   go_wp2_with fail
   refine (zaC B b _ [41] _ _ rfl HIB.out (by simp only[List.length_append,qzN,qzO];omega) (by omega)).mono ?_
   rintro e' w1 ⟨rfl,hb1,hk1⟩
   go_wp2
   go_end0
   refine ⟨rfl,?_,HBK.out.trans hk1⟩
   have:=HT.out
   rw[zeE,List.append_nil] at this
   rw[this] at hb1
   simpa using hb1
  ·rw[zfH k n1 d1 s1 l1 k6 k4] at hTl
   simp only[List.length_append,qzN,qzO] at hTl
   have k6':(k==6)=false:=by simpa using k6
   have k4':(k != 4)=true:=by simpa using k4
   go_wp2_with fail
   refine (zaC B b _ [32,46,32] _ _ rfl HIB.out (by simp only[List.length_append,qzN,qzO];omega) (by omega)).mono ?_
   rintro e' w1 ⟨rfl,hb1,hk1⟩
   have hbox:=Box5.bkeep hk1 HX.out (by omega)
   obtain ⟨p0,p1,p2,p3,p4⟩:=hbox.cells
   have HK1:=zh (HBK.out.trans hk1)
   have HR1:=zh (HR.out.kept hk1.1)
   have HB1:=zh hb1
   have hs1:=hk1.size
   clear hb1 hk1 hbox q0 q1 q2 q3 q4
   go_wp2_with fail
   refine (HI.out _ (by omega) HRI.out _ _ _ HB1.out HR1.out (by omega) (HE.out.kept HK1.out.1) (by simp only[List.length_append,qzN,qzO];omega)).mono ?_
   rintro e' w2 ⟨rfl,hb2,hk2⟩
   have HK2:=zh (HK1.out.trans hk2)
   have HB2:=zh hb2
   have hs2:=hk2.size
   clear hb2 hk2
   go_wp2_with fail
   refine (zaC B b _ [41] _ _ rfl HB2.out (by simp only[List.length_append,qzN,qzO];omega) (by omega)).mono ?_
   rintro e' w3 ⟨rfl,hb3,hk3⟩
   go_wp2
   go_end0
   refine ⟨rfl,?_,HK2.out.trans hk3⟩
   have:=HT.out
   rw[zfH k n1 d1 s1 l1 k6 k4] at this
   have e:l0++U++[32,46,32]++Dat.text (.mk k n1 d1 s1 l1) false++[41]=l0++40::(Dat.textP [a,c]++[41]):=by
    rw[show l0++40::(Dat.textP [a,c]++[41])=l0++(40::Dat.textP [a,c])++[41] by simp,<-this];simp
   rw[<-e];exact hb3
end
section
open Go.RowKit
theorem zjl {k n d:Int} {s:List UInt8} {len:Nat} (h:Dat.head k n d s len=true) :
  (k=0∧Num.right n d=true)∨(k=1∧(n=0∨n=1))∨k=2∨k=3∨k=4∨k=5∨(k=6∧len=2)∨k=7:=by
 unfold Dat.head at h
 by_cases k0:k=0
 ·rw[if_pos k0] at h;simp only[Bool.and_eq_true] at h;exact .inl ⟨k0,h.1⟩
 rw[if_neg k0] at h
 by_cases k1:k=1
 ·rw[if_pos k1] at h;simp only[Bool.and_eq_true,decide_eq_true_eq] at h;exact .inr (.inl ⟨k1,h.2.1⟩)
 rw[if_neg k1] at h
 by_cases k2:k=2
 ·exact .inr (.inr (.inl k2))
 rw[if_neg k2] at h
 by_cases k3:k=3
 ·exact .inr (.inr (.inr (.inl k3)))
 rw[if_neg k3] at h
 by_cases k4:k=4
 ·exact .inr (.inr (.inr (.inr (.inl k4))))
 by_cases k5:k=5
 ·exact .inr (.inr (.inr (.inr (.inr (.inl k5)))))
 rw[if_neg (by omega)] at h
 by_cases k6:k=6
 ·rw[if_pos k6] at h;simp only[Bool.and_eq_true,decide_eq_true_eq] at h;exact .inr (.inr (.inr (.inr (.inr (.inr (.inl ⟨k6,h.2.2.2⟩))))))
 rw[if_neg k6] at h
 by_cases k7:k=7
 ·exact .inr (.inr (.inr (.inr (.inr (.inr (.inr k7))))))
 rw[if_neg k7] at h;cases h
theorem zjJ (B b:Nat):∀(N:Nat) (x:Dat),Dat.all x<N->Dat.right x 0=true->Writes B b x:=by
 intro N
 induction N with
 | zero=>intro x h;omega
 | succ N ih=>
  intro x hx hr v l1 W hb hv hB hE hl
  obtain ⟨k,n,d,s,l⟩:=x
  obtain ⟨sl,rfl,bk,bn,bd,bs,hs⟩:=hv.open
  have hr2:=hr
  simp only[Dat.right,Bool.and_eq_true,decide_eq_true_eq] at hr
  have hw:=zjl hr.2.1
  rw[Dat.text] at hl ⊢
  obtain ⟨o,len,cap,rfl,ja⟩:=hs
  have HS:RepS W B l (.slice o len cap):=⟨o,len,cap,rfl,ja⟩
  rcases hw with ⟨rfl,_⟩ | ⟨rfl,rfl | rfl⟩ | rfl | rfl | rfl | rfl | ⟨rfl,h2⟩ | rfl
  ·rw[if_neg (by omega),if_neg (by simp),Dat.textA,if_pos rfl] at hl ⊢
   exact zlp B b l1 n d s o len cap W hb hB hE bn.1 bn.2 bd.1 bd.2 _ rfl hl
  ·rw[if_neg (by omega),if_neg (by simp),Dat.textA,if_neg (by omega),if_pos rfl,if_neg (by omega)] at hl ⊢
   exact zle B b l1 d s o len cap W hb hB hl
  ·rw[if_neg (by omega),if_neg (by simp),Dat.textA,if_neg (by omega),if_pos rfl,if_pos rfl] at hl ⊢
   exact zkP B b l1 d s o len cap W hb hB hl
  ·rw[if_neg (by omega),if_neg (by simp),Dat.textA,if_neg (by omega),if_neg (by omega),if_pos rfl] at hl ⊢
   exact zlF B b l1 n d s o len cap W hb hB hl
  ·rw[if_neg (by omega),if_neg (by simp),Dat.textA,if_neg (by omega),if_neg (by omega),if_neg (by omega),if_pos rfl] at hl ⊢
   exact zlv B b l1 n d s o len cap W hb hB bs hl
  ·rw[if_neg (by omega),if_neg (by simp),Dat.textA,if_neg (by omega),if_neg (by omega),if_neg (by omega),if_neg (by omega),if_pos rfl] at hl ⊢
   exact zly B b l1 n d s o len cap W hb hB hl
  ·rw[if_neg (by omega),if_neg (by simp),Dat.textA,if_neg (by omega),if_neg (by omega),if_neg (by omega),if_neg (by omega),if_neg (by omega),if_pos rfl] at hl ⊢
   exact zlz B b l1 n d s o len cap W hb hB hl
  ·obtain ⟨a,c,rfl,rfl,rfl,rfl,ha,hc⟩:=zeJ hr2
   rw[if_pos rfl,if_neg (by simp)] at hl ⊢
   have hall:Dat.all (.mk 6 0 0 ⟨#[]⟩ [a,c])=1+(Dat.all a+(Dat.all c+0)):=rfl
   exact zln B b l1 0 0 ⟨#[]⟩ a c _ W hb hB hE HS ha hc (fun y hy hyr=>ih y (by omega) hyr) hl
  ·rw[if_neg (by omega),if_neg (by simp),Dat.textA,if_neg (by omega),if_neg (by omega),if_neg (by omega),if_neg (by omega),if_neg (by omega),if_neg (by omega)] at hl ⊢
   have hall:Dat.all (.mk 7 n d s l)=1+Dat.allL l:=rfl
   exact zlj B b l1 n d s l _ W hb hB hE HS (fun y hy=>ih y (by have:=Dat.all_mem hy;omega) (Dat.right_part hr2 hy)) hl
theorem zje (B b:Nat) (x:Dat) (hr:Dat.right x 0=true):Writes B b x:=zjJ B b (Dat.all x+1) x (by omega) hr
def Dat.full (x:Dat):List UInt8:=if Dat.right x 0 then Dat.text x false else []
theorem zjY (x:Dat) (v:Value) (B:Nat) (w:World) (hv:RepD w B x v) (hB:B<=w.heap.size) (hE:Env w) (hl:Dat.right x 0=true->(Dat.text x false).length<=140737488355328) :
  Calls prog 15 #[v] w fun e w'=>e=.returned (.string ⟨(Dat.full x).toArray⟩)∧Below w.heap.size w w':=by
 obtain ⟨k,n,d,s,o,len,cap,rfl⟩:=zae hv
 have HV:=zh hv
 have HE:=zh hE
 have HL:=zh hl
 have HK:=zh (fun X=>(Below.refl w.heap.size w).alloc qzL X)
 have C1:=zh (fun W (hb:Below w.heap.size w W)=>zcl x _ B W (HV.out.kept (hb.mono hB)) (Nat.le_trans hB hb.size))
 clear hv hE hl
 cases hr:Dat.right x 0 with
 | false=>
  have HF:=zh (show Dat.full x=[] by unfold Dat.full;rw[hr];rfl)
  rw[hr] at C1
  clear hr
  go_enter func15,ntmps15
  go_wp2_with fail
  refine (C1.out _ (HK.out _)).mono ?_
  rintro e' w1 ⟨rfl,hb1⟩
  go_wp2
  go_ret
  exact ⟨by rw[HF.out];rfl,zfW hb1⟩
 | true=>
  have HF:=zh (show Dat.full x=Dat.text x false by unfold Dat.full;rw[hr];rfl)
  rw[hr] at C1
  have HR:=zh hr
  clear hr
  go_enter func15,ntmps15
  go_wp2_with fail
  refine (C1.out _ (HK.out _)).mono ?_
  rintro e' w1 ⟨rfl,hb1⟩
  have hz:=zkw hb1
  have z0:w.heap.size<w1.heap.size:=by omega
  obtain ⟨q0,q1,q2,q3,q4⟩:=zk8 hb1
  have HB:=zh (zfW hb1)
  clear hb1
  go_wp2_with fail
  have HW:=zh ((Below.refl w1.heap.size w1).alloc qzL (.cells #[.pointer none,.slice none 0 0] 60))
  refine (zje w1.heap.size w1.heap.size x HR.out _ [] _ (IsB.fresh w1 _ rfl) ((HV.out.kept ((Below.next HB.out HW.out).mono hB)).wider (by omega)) (by simp) ((EnvAt.of (HE.out.below HB.out)).kept HW.out) (by simpa using HL.out HR.out)).mono ?_
  rintro e' w2 ⟨rfl,hb2,hk2⟩
  have HB2:=zh hb2
  have HK2:=zh hk2
  clear hb2 hk2
  go_wp2_with fail
  refine (zgG w1.heap.size w1.heap.size _ w2 HB2.out (by have:=HK2.out.size;simp at this;omega)).mono ?_
  rintro e' w3 ⟨rfl,hb3⟩
  go_wp2
  go_ret
  refine ⟨by rw[HF.out];rfl,?_⟩
  exact HB.out.trans (((HW.out.trans HK2.out.1).trans hb3).mono (by omega))
end
end Go.Proofs.YtnbjhmafnigefaaGreatDoor
