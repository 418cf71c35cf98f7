/-
  What the proofs lean on: Sl, Rows2, Writes, Rights, Facts.
-/
import Derived.Laws.AppendOwn
import Derived.Laws.OwnMore
import Derived.Lib.FrozenHead
import Derived.Lib.FrozenHead2
import Derived.Lib.OthersKept
import Derived.Laws.Externs
import Derived.Laws.EntriesVeiled
import Derived.Test.YtgbibibmpoekiaaGreatDoorShfA04
import Derived.Test.YtgbibibmpoekiaaGreatDoorShfA05
import Derived.Test.YtgbibibmpoekiaaGreatDoorShfA06
import Derived.Test.YtgbibibmpoekiaaGreatDoorShfA07
set_option maxRecDepth 100000
set_option maxHeartbeats 16000000
namespace Go.Proofs.YtgbibibmpoekiaaGreatDoor
section
open Go.RowKit Go.Deep Go.ChangeShapes Go.WideShapes Go.ChangeAt
def SlC {α:Type} (w:World) (B size:Nat) (R:α→List Value→Prop) (l:List α) (v:Value):Prop:=
 ∃(o:Option Addr) (len cap:Nat),v=.slice o len cap∧len=l.length∧len≤cap∧cap≤9223372036854775807 ∧
  (match o with
   | none=>l=[]∧cap=0
   | some a=>(l≠[]→a.spot=none∧a.block<B)∧∀(i:Nat) (x:α),l[i]?=some x→∃cs:List Value,cs.length=size∧(∀j u,cs[j]?=some u→w.cell? ⟨a.block,a.off+i*size+j,none⟩=some u)∧R x cs)
theorem SlC.kept {α:Type} {w w':World} {B size:Nat} {R R':α→List Value→Prop} {l:List α} {v:Value} (h:SlC w B size R l v) (hb:Below B w w') (hR:∀x∈l,∀cs,R x cs→R' x cs):SlC w' B size R' l v:=by
 obtain ⟨o,len,cap,rfl,h1,h2,h3,h4⟩:=h
 refine ⟨o,len,cap,rfl,h1,h2,h3,?_⟩
 cases o with
 | none=>exact h4
 | some a=>
  refine ⟨h4.1,fun i x hx=>?_⟩
  obtain ⟨cs,hl,hc,hr⟩:=h4.2 i x hx
  have hlt:=(h4.1 (by intro h;rw[h] at hx;simp at hx)).2
  exact ⟨cs,hl,fun j u hu=>(hb.cell (p:=⟨a.block,_,none⟩) hlt).trans (hc j u hu),hR x (List.mem_of_getElem? hx) cs hr⟩
theorem SlC.wider {α:Type} {w:World} {B B' size:Nat} {R:α→List Value→Prop} {l:List α} {v:Value} (h:SlC w B size R l v) (hB:B≤B'):SlC w B' size R l v:=by
 obtain ⟨o,len,cap,rfl,h1,h2,h3,h4⟩:=h
 refine ⟨o,len,cap,rfl,h1,h2,h3,?_⟩
 cases o with
 | none=>exact h4
 | some a=>exact ⟨fun hl=>⟨(h4.1 hl).1,Nat.lt_of_lt_of_le (h4.1 hl).2 hB⟩,h4.2⟩
theorem SlC.slice {α:Type} {w:World} {B size:Nat} {R:α→List Value→Prop} {l:List α} {v:Value} (h:SlC w B size R l v):∃o len cap,v=.slice o len cap∧len=l.length∧len≤cap∧cap≤9223372036854775807:=by
 obtain ⟨o,len,cap,h1,h2,h3,h4,_⟩:=h
 exact ⟨o,len,cap,h1,h2,h3,h4⟩
theorem SlC.at {α:Type} {w wr:World} {B size:Nat} {R:α→List Value→Prop} {l:List α} {o:Option Addr} {len cap j:Nat} {x:α} (h:SlC w B size R l (.slice o len cap)) (hb:Below B w wr) (hx:l[j]?=some x) :
  ∃b off cs,o=some ⟨b,off,none⟩∧b<B∧cs.length=size∧(∀q u,cs[q]?=some u→wr.cell? ⟨b,off+j*size+q,none⟩=some u)∧R x cs:=by
 obtain ⟨o2,len2,cap2,he,_,_,_,h4⟩:=h
 simp only[Value.slice.injEq] at he
 obtain ⟨rfl,rfl,rfl⟩:=he
 cases o with
 | none=>rw[h4.1] at hx;simp at hx
 | some a=>
  obtain ⟨cs,hl,hc,hr⟩:=h4.2 j x hx
  obtain ⟨hs,hlt⟩:=h4.1 (by intro h;rw[h] at hx;simp at hx)
  obtain ⟨b,off,sp⟩:=a
  obtain rfl:sp=none:=hs
  exact ⟨b,off,cs,rfl,hlt,hl,fun q u hu=>(hb.cell (p:=⟨b,off+j*size+q,none⟩) hlt).trans (hc q u hu),hr⟩
section
variable {H : Type} {enc : TypeId × Value → H}
theorem list_choice {α:Type} {len:Nat} {P:Nat→α→Prop} (h:∀i,i<len→∃x,P i x):∃l:List α,l.length=len∧∀i x,l[i]?=some x→P i x:=by
 induction len with
 | zero=>exact ⟨[],rfl,fun i x hx=>by simp at hx⟩
 | succ n ih=>
  obtain ⟨l,hl,hP⟩:=ih (fun i hi=>h i (by omega))
  obtain ⟨x,hx⟩:=h n (by omega)
  refine ⟨l++[x],by simp[hl],fun i y hy=>?_⟩
  by_cases hi:i<n
  ·rw[List.getElem?_append_left (by omega)] at hy
   exact hP i y hy
  ·rw[List.getElem?_append_right (by omega)] at hy
   have:i=n:=by
    have:=(List.getElem?_eq_some_iff.1 hy).1
    simp at this;omega
   subst this
   simp[hl] at hy
   rw[←hy];exact hx
end
def IntR (n:Int) (cs:List Value):Prop:=cs=[.int .i64 n]∧-9223372036854775808≤n∧n≤9223372036854775807
section
variable {H : Type} {enc : TypeId × Value → H}
end
end
section
open Go.RowKit Go.Shelf
attribute [local go_sem] Oper.semAt_some
end
section
open Go.RowKit
theorem info_datum:(Tryz.prog.info? 45).map (fun i=>(i.zero,i.size,i.bytes))=some (some (.agg #[.int .i64 0,.int .i64 0,.int .i64 0,.string ⟨#[]⟩,.slice none 0 0]),5,64):=by kernel_rfl
def CellsD (w:World) (B:Nat):List Dat→List Value→Prop
 | [],xs=>xs=[]
 | x::l,xs=>∃c0 c1 c2 c3 c4 r,xs=c0::c1::c2::c3::c4::r∧RepD w B x (.agg #[c0,c1,c2,c3,c4])∧CellsD w B l r
theorem CellsD.length {w:World} {B:Nat}:∀{l:List Dat} {xs:List Value},CellsD w B l xs→xs.length=l.length*5
 | [],_,h=>by rw[CellsD] at h;rw[h];rfl
 | _::l,_,⟨_,_,_,_,_,r,he,_,hr⟩=>by rw[he];simp only[List.length_cons,hr.length];omega
theorem CellsD.mono {w w':World} {B B':Nat} (hk:∀x v,RepD w B x v→RepD w' B' x v):∀{l:List Dat} {xs:List Value},CellsD w B l xs→CellsD w' B' l xs
 | [],_,h=>h
 | _::_,_,⟨c0,c1,c2,c3,c4,r,he,hx,hr⟩=>⟨c0,c1,c2,c3,c4,r,he,hk _ _ hx,hr.mono hk⟩
theorem CellsD.snoc {w:World} {B:Nat} {x:Dat} {c0 c1 c2 c3 c4:Value} (hx:RepD w B x (.agg #[c0,c1,c2,c3,c4])):∀{l:List Dat} {xs:List Value},CellsD w B l xs→CellsD w B (l++[x]) (xs++[c0,c1,c2,c3,c4])
 | [],_,h=>by rw[CellsD] at h;rw[h];exact ⟨c0,c1,c2,c3,c4,[],rfl,hx,rfl⟩
 | _::_,_,⟨a0,a1,a2,a3,a4,r,he,hy,hr⟩=>⟨a0,a1,a2,a3,a4,r++[c0,c1,c2,c3,c4],by rw[he];rfl,hy,hr.snoc hx⟩
theorem CellsD.repC {w:World} {B b:Nat}:∀{l:List Dat} {xs:List Value} {off:Nat},CellsD w B l xs→(∀j u,xs[j]?=some u→w.cell? ⟨b,off+j,none⟩=some u)→RepC w B l b off
 | [],_,_,_,_=>by rw[RepC];trivial
 | x::l,_,off,⟨c0,c1,c2,c3,c4,r,he,hx,hr⟩,hc=>by
  subst he
  rw[RepC]
  refine ⟨⟨c0,c1,c2,c3,c4,hc 0 _ rfl,hc 1 _ rfl,hc 2 _ rfl,hc 3 _ rfl,hc 4 _ rfl,hx⟩,hr.repC fun j u hj=>?_⟩
  have:=hc (j+5) u (by simpa using hj)
  rw[show off+5+j=off+(j+5) by omega];exact this
theorem repS_of_row {w:World} {base B:Nat} {v:Value} {l:List Dat} {xs:List Value} (hown:w.ownsRow base 45 5 v l.length xs) (hc:CellsD w B l xs) (hB:B≤w.heap.size):RepS w w.heap.size l v:=by
 rcases hown.2 with ⟨hv,h0⟩ | ⟨g,cap,cur,hv,hb,hg,hle,hm,hsz,htk⟩
 ·have:l=[]:=List.eq_nil_of_length_eq_zero h0
  subst this
  exact ⟨none,0,0,hv,rfl,by omega,by omega,rfl,rfl⟩
 ·have hlt:=(Array.getElem?_eq_some_iff.1 hg).1
  refine ⟨some ⟨g,0,none⟩,l.length,cap,hv,rfl,hle,by unfold maxLen at hm;omega,fun _=>⟨rfl,hlt⟩,?_⟩
  refine (hc.mono (fun x v h=>h.wider hB)).repC fun j u hj=>?_
  rw[←htk] at hj
  rw[List.getElem?_take] at hj
  split at hj
  ·unfold World.cell?
   rw[hg,Nat.zero_add]
   simpa using hj
  ·cases hj
theorem new_five (w:World) (a0 a1 a2 a3 a4:Value) (t:TypeId):∀(j:Nat) (u:Value),[a0,a1,a2,a3,a4][j]?=some u→(w.alloc (.cells #[a0,a1,a2,a3,a4] t)).cell? ((⟨w.heap.size,0,none⟩:Addr).add j)=some u:=by
 intro j u hj
 have e:(⟨w.heap.size,0,none⟩:Addr).add j=⟨w.heap.size,j,none⟩:=by unfold Addr.add;split<;>simp_all
 rw[e]
 exact box_cell w _ t j (by simpa using hj)
theorem CellsD.set {w:World} {B:Nat} {y:Dat} {d0 d1 d2 d3 d4:Value} (hy:RepD w B y (.agg #[d0,d1,d2,d3,d4])):∀{l:List Dat} {xs:List Value} {i:Nat},i<l.length→CellsD w B l xs →
  CellsD w B (l.set i y) (((((xs.set (i*5) d0).set (i*5+1) d1).set (i*5+2) d2).set (i*5+3) d3).set (i*5+4) d4)
 | [],_,_,hi,_=>by simp at hi
 | _::l,_,0,_,⟨c0,c1,c2,c3,c4,r,he,_,hr⟩=>⟨d0,d1,d2,d3,d4,r,by rw[he];rfl,hy,hr⟩
 | _::l,_,i+1,hi,⟨c0,c1,c2,c3,c4,r,he,hx,hr⟩=>by
  refine ⟨c0,c1,c2,c3,c4,_,?_,hx,CellsD.set hy (i:=i) (by simpa using hi) hr⟩
  rw[he,show (i+1)*5=i*5+5 by omega]
  rfl
theorem CellsD.oneCell {w:World} {B:Nat}:∀{l:List Dat} {xs:List Value},CellsD w B l xs→∀u∈xs,u.oneCell'=true
 | [],_,h,u,hu=>by rw[CellsD] at h;rw[h] at hu;cases hu
 | x::l,_,⟨c0,c1,c2,c3,c4,r,he,hx,hr⟩,u,hu=>by
  obtain ⟨k,n,d,s,o,len,cap,hv⟩:=agg_of hx
  simp only[Value.agg.injEq,Array.mk.injEq,List.cons.injEq,and_true] at hv
  obtain ⟨rfl,rfl,rfl,rfl,rfl⟩:=hv
  subst he
  simp only[List.mem_cons] at hu
  rcases hu with rfl | rfl | rfl | rfl | rfl | hu
  ·rfl
  ·rfl
  ·rfl
  ·rfl
  ·rfl
  ·exact hr.oneCell u hu
abbrev put5 (W:World) (g o:Nat) (d0 d1 d2 d3 d4:Value):World:=((((W.setCell ⟨g,o,none⟩ d0).setCell ⟨g,o+1,none⟩ d1).setCell ⟨g,o+2,none⟩ d2).setCell ⟨g,o+3,none⟩ d3).setCell ⟨g,o+4,none⟩ d4
theorem put5_size (W:World) (g o:Nat) (d0 d1 d2 d3 d4:Value):(put5 W g o d0 d1 d2 d3 d4).heap.size=W.heap.size:=by simp[put5]
end
section
open Go.RowKit
theorem info_builder:(Tryz.prog.info? 121).map (·.size)=some 2:=by kernel_rfl
theorem info_byte:(Tryz.prog.info? 5).map (fun i=>(i.zero,i.size,i.bytes))=some (some (.int .u8 0),1,1):=by kernel_rfl
theorem lies_builder:liesAt Tryz.prog Tryz.prog.depth 121 (2 / Tryz.prog.cellsOf 121) 0 121 1=true:=by kernel_rfl
theorem copy_used (b:Nat) (w:World) (h0:w.cell? ⟨b,0,none⟩=some (.pointer (some ⟨b,0,none⟩))) :
  Calls Tryz.prog 138 #[.pointer (some ⟨b,0,none⟩)] w fun e w'=>e=.returned (.tuple #[])∧w'=w:=by
 obtain ⟨j,hj,_⟩:=Option.map_eq_some_iff.1 info_builder
 go_enter Tryz.func138,Tryz.ntmps138
 go_wp2
 rw[Lib.run_neq_ptr_same w _ Tryz.underlying118 hj]
 go_wp2
 go_end0
 exact ⟨rfl,rfl⟩
theorem copy_fresh (b:Nat) (w:World) (h0:w.cell? ⟨b,0,none⟩=some (.pointer none)) (hsh:w.shape? b=some (121,2)) (hfz:w.frozen? ⟨b,0,none⟩=false) :
  Calls Tryz.prog 138 #[.pointer (some ⟨b,0,none⟩)] w fun e w'=>e=.returned (.tuple #[])∧w'=w.setCell ⟨b,0,none⟩ (.pointer (some ⟨b,0,none⟩)):=by
 obtain ⟨j,hj,hjs⟩:=Option.map_eq_some_iff.1 info_builder
 go_enter Tryz.func138,Tryz.ntmps138
 go_wp2
 rw[Lib.run_to_unsafe w ⟨b,0,none⟩ Tryz.underlying118 Tryz.underlying178 hj (by rw[hjs];decide) hsh (Nat.zero_lt_succ 1)]
 simp only[Result.andThen]
 rw[Oper.upon_value]
 go_wp2
 rw[run_callFunc_extern Tryz.func165 (by kernel_rfl) (by kernel_rfl) (by kernel_rfl) (e:=Extern.AbiNoEscape.same) (by kernel_rfl)]
 rw[Lib.run_noEscape]
 simp only[Result.andThen]
 rw[Oper.upon_value]
 go_wp2
 rw[Lib.run_from_unsafe w ⟨b,0,none⟩ Tryz.underlying178 Tryz.underlying118 hj hsh lies_builder]
 simp only[Result.andThen]
 rw[Oper.upon_value]
 go_wp2
 go_end0
 exact ⟨rfl,rfl⟩
def IsB (B b:Nat) (l:List UInt8) (w:World):Prop:=Lib.IsBuilderF 121 5 B b (Lib.byteCells l) w
def BKeep (B b:Nat) (w w':World):Prop:=Below B w w'∧Lib.OthersKept 5 (some b) w w'
theorem BKeep.refl (B b:Nat) (w:World):BKeep B b w w:=⟨Below.refl _ _,Lib.OthersKept.refl _ _ _⟩
theorem BKeep.trans {B b:Nat} {w1 w2 w3:World} (h:BKeep B b w1 w2) (k:BKeep B b w2 w3):BKeep B b w1 w3:=⟨h.1.trans k.1,h.2.trans k.2⟩
theorem BKeep.of_below {B b:Nat} {w1 w2:World} (hB:B≤w1.heap.size) (h:Below w1.heap.size w1 w2):BKeep B b w1 w2:=
 ⟨h.mono hB,fun k _o hk _ _=>(h.block k (Array.getElem?_eq_some_iff.1 hk).1).trans hk⟩
theorem BKeep.size {B b:Nat} {w1 w2:World} (h:BKeep B b w1 w2):w1.heap.size≤w2.heap.size:=h.1.size
theorem grown_of_below {w w':World} (h:Below w.heap.size w w'):w.grownBy w' none:=⟨h.os,h.tape,h.output,h.size,fun k hk _=>h.block k hk⟩
theorem builder_below {B b:Nat} {p:Value} {bs:List Value} {w w':World} (h:Lib.BuilderAtF 121 5 B b p bs w) (hb:Below w.heap.size w w'):Lib.BuilderAtF 121 5 B b p bs w':=by
 have hlt:=h.lt
 obtain ⟨hB,v,hbk,hown,hne⟩:=h
 exact ⟨hB,v,(hb.block b hlt).trans hbk,hown.kept (grown_of_below hb) (by cases hv:v.ownBlock<;>simp),hne⟩
theorem IsB.below {B b:Nat} {l:List UInt8} {w w':World} (h:IsB B b l w) (hb:Below w.heap.size w w'):IsB B b l w':=
 h.elim (fun x=>.inl (builder_below x hb)) (fun x=>.inr (builder_below x hb))
theorem IsB.lt {B b:Nat} {l:List UInt8} {w:World} (h:IsB B b l w):b<w.heap.size:=h.elim (fun x=>x.lt) (fun x=>x.lt)
theorem IsB.base {B b:Nat} {l:List UInt8} {w:World} (h:IsB B b l w):B≤b:=h.elim (fun x=>x.1) (fun x=>x.1)
theorem copy_any (B b:Nat) (bs:List Value) (w:World) (h:Lib.IsBuilderF 121 5 B b bs w) :
  Calls Tryz.prog 138 #[.pointer (some ⟨b,0,none⟩)] w fun e w'=>e=.returned (.tuple #[])∧(Lib.BuilderAtF 121 5 B b (.pointer (some ⟨b,0,none⟩)) bs w'∧BKeep B b w w'):=by
 rcases h with h | h
 ·refine (copy_fresh b w h.cell0 h.shape h.frozen0).mono ?_
  rintro e w' ⟨rfl,rfl⟩
  exact ⟨rfl,h.used _,(Below.refl B w).setCell (p:=⟨b,0,none⟩) h.1 _,(Lib.OthersKept.refl _ _ w).setCell ⟨b,0,none⟩ rfl _⟩
 ·refine (copy_used b w h.cell0).mono ?_
  rintro e w' ⟨rfl,rfl⟩
  exact ⟨rfl,h,BKeep.refl _ _ _⟩
theorem byteCells_append (l:List UInt8) (s:ByteArray):Lib.byteCells l++Lib.strCells s=Lib.byteCells (l++s.data.toList):=by
 unfold Lib.byteCells Lib.strCells
 simp
theorem byteCells_length (l:List UInt8):(Lib.byteCells l).length=l.length:=by unfold Lib.byteCells;simp
theorem writeString_any (B b:Nat) (l:List UInt8) (s:ByteArray) (w:World) (h:IsB B b l w) (hlen:l.length+s.size≤140737488355328) (hBw:B≤w.heap.size) :
  Calls Tryz.prog 112 #[.pointer (some ⟨b,0,none⟩),.string s] w fun e w'=>e=.returned (.tuple #[.int .i64 s.size,.nilIface])∧(IsB B b (l++s.data.toList) w'∧BKeep B b w w'):=by
 have hlen2:(Lib.byteCells l).length+s.size≤140737488355328:=by rw[byteCells_length];exact hlen
 obtain ⟨i0,hi,hz0,hz1,hz2⟩:=info_parts info_byte
 go_enter Tryz.func112,Tryz.ntmps112
 go_wp2_with (go_at_call 138;refine (copy_any B b (Lib.byteCells l) _ h).mono ?_)
 rintro e w1 ⟨rfl,h1,hk1⟩
 obtain ⟨hB,v,hbk,hown,hne⟩:=h1
 have c0:w1.cell? ⟨b,0,none⟩=some (.pointer (some ⟨b,0,none⟩)):=by rw[Lib.cell_of_heap hbk];rfl
 have c1:w1.cell? ⟨b,1,none⟩=some v:=by rw[Lib.cell_of_heap hbk];rfl
 go_wp2_with (at_builtin;refine Lib.wpList_append_own_stringF _ rfl _ _ 119 9 rfl B 5 i0 Tryz.underlying119 Tryz.underlying9 hi hz0 hz1 hz2 _ _ _ rfl hown s rfl ?c3 ?c4 ?c5 ?_)
 case c3=>unfold maxLen;omega
 case c4=>omega
 case c5=>have:=hk1.size;omega
 intro v' w2 hown' hgrow _
 have hlt:b<w1.heap.size:=(Array.getElem?_eq_some_iff.1 hbk).1
 have hb2:w2.heap[b]?=some (.cells #[.pointer (some ⟨b,0,none⟩),v] 121 (0,0)):=by
  rw[hgrow.block b hlt (fun e=>hne e.symm)]
  exact hbk
 have d0:w2.cell? ⟨b,0,none⟩=some (.pointer (some ⟨b,0,none⟩)):=by rw[Lib.cell_of_heap hb2];rfl
 have d1:w2.cell? ⟨b,1,none⟩=some v:=by rw[Lib.cell_of_heap hb2];rfl
 have f1:w2.frozen? ⟨b,1,none⟩=false:=Lib.frozen_of_heap hb2 1
 obtain ⟨ao,n',cap,rfl⟩:∃ao n' cap,v'=.slice ao n' cap:=by
  rcases hown'.2 with ⟨hv,_⟩ | ⟨g,cap,cur,fz,hv,_⟩
  ·exact ⟨_,_,_,hv⟩
  ·exact ⟨_,_,_,hv⟩
 go_wp2
 go_ret2
 refine ⟨rfl,.inr ?_,?_⟩
 ·rw[←byteCells_append]
  exact Lib.BuilderAtF.put (T:=121) (e:=5) hB hb2 (bs':=Lib.byteCells l++Lib.strCells s) (by simpa[Lib.strCells_length] using hown') (by decide)
 ·exact ⟨(hk1.1.grown hgrow (by have:=hk1.size;omega) (fun k hk=>(hown.lt k hk).1)).setCell (p:=⟨b,1,none⟩) hB _,(hk1.2.grown hgrow (Lib.ownsRowF_kind hown)).setCell ⟨b,1,none⟩ rfl _⟩
theorem bstring_any (B b:Nat) (l:List UInt8) (w:World) (h:IsB B b l w) (hBw:B≤w.heap.size) :
  Calls Tryz.prog 97 #[.pointer (some ⟨b,0,none⟩)] w fun e w'=>e=.returned (.string ⟨l.toArray⟩)∧Below B w w':=
 (Tryz.Builder_String_any_f B b l w h hBw).mono fun _ _ h=>⟨h.1,h.2.2⟩
theorem BKeep.block {B b k:Nat} {w w':World} {cs:Array Value} {t:TypeId} {fz:Nat × Nat} (h:BKeep B b w w') (hk:w.heap[k]?=some (.cells cs t fz)) (hb:k≠b) (ht:t≠5):w'.heap[k]?=some (.cells cs t fz):=
 h.2 k _ hk (by simpa using hb) (fun c f e=>by cases e;exact ht rfl)
theorem IsB.fresh (w:World) (t:Value) (h:t=.pointer none):IsB w.heap.size w.heap.size [] (w.alloc (.cells #[t,.slice none 0 0] 121)):=by
 subst h;exact Lib.IsBuilderF.of (Lib.fresh_isBuilder _ _ w)
end
section
open Go.RowKit
def EnvAt (B:Nat) (w:World):Prop:=Env w∧3<B
theorem EnvAt.of {w:World} (h:Env w):EnvAt w.heap.size w:=by
 refine ⟨h,?_⟩
 have hg : Tryz.prog.globalNamed "internal/strconv.uint64pow10" = some 3 := by kernel_rfl
 exact var_lt hg h
theorem EnvAt.kept {B:Nat} {w w':World} (h:EnvAt B w) (hb:Below B w w'):EnvAt B w':=by
 refine ⟨?_,h.2⟩
 have h1:=h.1
 have hg : Tryz.prog.globalNamed "internal/strconv.uint64pow10" = some 3 := by kernel_rfl
 unfold Env Lib.TabIs World.var? at h1 ⊢
 rw[hg] at h1 ⊢
 simp only[Option.bind_some] at h1 ⊢
 rw[hb.block _ h.2]
 exact h1
def WPost (B b:Nat) (l:List UInt8) (w:World) (e:Ending) (w':World):Prop:=e=.returned (.tuple #[])∧IsB B b l w'∧BKeep B b w w'
theorem Box5.bkeep {B b k:Nat} {w w':World} {c0 c1 c2 c3 c4:Value} (h:BKeep B b w w') (hk:Box5 w k 45 c0 c1 c2 c3 c4) (hb:k≠b):Box5 w' k 45 c0 c1 c2 c3 c4:=h.block hk hb (by decide)
theorem bkeep_alloc {B b:Nat} {w:World} (hB:B≤w.heap.size) (o:Obj):BKeep B b w (w.alloc o):=BKeep.of_below hB ((Below.refl _ _).alloc (Nat.le_refl _) _)
theorem isB_alloc {B b:Nat} {l:List UInt8} {w:World} (h:IsB B b l w) (o:Obj):IsB B b l (w.alloc o):=h.below ((Below.refl _ _).alloc (Nat.le_refl _) _)
theorem writeString_to (B b:Nat) (l T:List UInt8) (s:ByteArray) (w:World) (hT:s.data.toList=T) (h:IsB B b l w) (hlen:l.length+T.length≤140737488355328) (hBw:B≤w.heap.size) :
  Calls Tryz.prog 112 #[.pointer (some ⟨b,0,none⟩),.string s] w fun e w'=>e=.returned (.tuple #[.int .i64 s.size,.nilIface])∧(IsB B b (l++T) w'∧BKeep B b w w'):=by
 subst hT
 exact writeString_any B b l s w h hlen hBw
section
variable (B b : Nat) (l0 : List UInt8) (n d : Int) (s : ByteArray) (o : Option Addr) (len cap : Nat) (w : World)
theorem write_0 (hb:IsB B b l0 w) (hB:B≤w.heap.size) (hE:EnvAt B w) (h0:-9223372036854775808≤n) (h1:n≤9223372036854775807) (h2:-9223372036854775808≤d) (h3:d≤9223372036854775807) (T:List UInt8) (hT:Num.text n d=T) (hl:l0.length+T.length≤140737488355328) :
  Calls Tryz.prog 96 #[.pointer (some ⟨b,0,none⟩),.agg #[.int .i64 0,.int .i64 n,.int .i64 d,.string s,.slice o len cap]] w (WPost B b (l0++T) w):=by
 have HT:=Lib.hid (fun W hE=>text_any n d h0 h1 h2 h3 W hE)
 rw[hT] at HT
 clear hT
 have HK:=Lib.hid (fun X=>bkeep_alloc (b:=b) hB X)
 have HE:=Lib.hid (fun X=>hE.kept (HK.out X).1)
 have HB:=Lib.hid (fun X=>isB_alloc hb X)
 clear hE
 go_enter Tryz.func96,Tryz.ntmps96
 go_wp2_with fail
 refine (HT.out _ (HE.out _).1).mono ?_
 rintro e' w1 ⟨rfl,hb1⟩
 have HB1:=Lib.hid hb1
 clear hb1
 go_wp2_with fail
 refine (writeString_any B b l0 ⟨T.toArray⟩ _ ((HB.out _).below HB1.out) hl (by have:=HB1.out.size;simp at this;omega)).mono ?_
 rintro e' w2 ⟨rfl,hb2,hk2⟩
 go_wp2
 go_end0
 exact ⟨rfl,by simpa using hb2,((HK.out _).trans (BKeep.of_below (by simp;omega) HB1.out)).trans hk2⟩
theorem write_2 (hb:IsB B b l0 w) (hB:B≤w.heap.size) (hl:l0.length+(s.data.toList).length≤140737488355328) :
  Calls Tryz.prog 96 #[.pointer (some ⟨b,0,none⟩),.agg #[.int .i64 2,.int .i64 n,.int .i64 d,.string s,.slice o len cap]] w (WPost B b (l0++(s.data.toList)) w):=by
 have HK:=Lib.hid (fun X=>bkeep_alloc (b:=b) hB X)
 have HB:=Lib.hid (fun X=>isB_alloc hb X)
 go_enter Tryz.func96,Tryz.ntmps96
 go_wp2_with fail
 refine (writeString_any B b l0 s _ (HB.out _) hl (by simp;omega)).mono ?_
 rintro e' w2 ⟨rfl,hb2,hk2⟩
 go_wp2
 go_end0
 exact ⟨rfl,by simpa using hb2,(HK.out _).trans hk2⟩
theorem write_3 (hb:IsB B b l0 w) (hB:B≤w.heap.size) (hs:s.size≤140737488351232) (hl:l0.length+(34::(s.data.toList++[34])).length≤140737488355328) :
  Calls Tryz.prog 96 #[.pointer (some ⟨b,0,none⟩),.agg #[.int .i64 3,.int .i64 n,.int .i64 d,.string s,.slice o len cap]] w (WPost B b (l0++(34::(s.data.toList++[34]))) w):=by
 have HK:=Lib.hid (fun X=>bkeep_alloc (b:=b) hB X)
 have HB:=Lib.hid (fun X=>isB_alloc hb X)
 go_enter Tryz.func96,Tryz.ntmps96
 go_wp2_with fail
 refine (writeString_to B b l0 (34::(s.data.toList++[34])) _ _ ?_ (HB.out _) hl (by simp;omega)).mono ?_
 ·rw[ByteArray.data_append,ByteArray.data_append];simp
 rintro e' w2 ⟨rfl,hb2,hk2⟩
 go_wp2
 go_end0
 exact ⟨rfl,by simpa using hb2,(HK.out _).trans hk2⟩
theorem write_4 (hb:IsB B b l0 w) (hB:B≤w.heap.size) (hl:l0.length+([40,41]).length≤140737488355328) :
  Calls Tryz.prog 96 #[.pointer (some ⟨b,0,none⟩),.agg #[.int .i64 4,.int .i64 n,.int .i64 d,.string s,.slice o len cap]] w (WPost B b (l0++([40,41])) w):=by
 have HK:=Lib.hid (fun X=>bkeep_alloc (b:=b) hB X)
 have HB:=Lib.hid (fun X=>isB_alloc hb X)
 go_enter Tryz.func96,Tryz.ntmps96
 go_wp2_with fail
 refine (writeString_any B b l0 ⟨#[40,41]⟩ _ (HB.out _) hl (by simp;omega)).mono ?_
 rintro e' w2 ⟨rfl,hb2,hk2⟩
 go_wp2
 go_end0
 exact ⟨rfl,by simpa using hb2,(HK.out _).trans hk2⟩
theorem write_5 (hb:IsB B b l0 w) (hB:B≤w.heap.size) (hl:l0.length+([35,118]).length≤140737488355328) :
  Calls Tryz.prog 96 #[.pointer (some ⟨b,0,none⟩),.agg #[.int .i64 5,.int .i64 n,.int .i64 d,.string s,.slice o len cap]] w (WPost B b (l0++([35,118])) w):=by
 have HK:=Lib.hid (fun X=>bkeep_alloc (b:=b) hB X)
 have HB:=Lib.hid (fun X=>isB_alloc hb X)
 go_enter Tryz.func96,Tryz.ntmps96
 go_wp2_with fail
 refine (writeString_any B b l0 ⟨#[35,118]⟩ _ (HB.out _) hl (by simp;omega)).mono ?_
 rintro e' w2 ⟨rfl,hb2,hk2⟩
 go_wp2
 go_end0
 exact ⟨rfl,by simpa using hb2,(HK.out _).trans hk2⟩
theorem write_1a (hb:IsB B b l0 w) (hB:B≤w.heap.size) (hl:l0.length+2≤140737488355328) :
  Calls Tryz.prog 96 #[.pointer (some ⟨b,0,none⟩),.agg #[.int .i64 1,.int .i64 0,.int .i64 d,.string s,.slice o len cap]] w (WPost B b (l0++[35,102]) w):=by
 have HK:=Lib.hid (fun X=>bkeep_alloc (b:=b) hB X)
 have HB:=Lib.hid (fun X=>isB_alloc hb X)
 go_enter Tryz.func96,Tryz.ntmps96
 go_wp2_with fail
 refine (writeString_to B b l0 [35,102] _ _ rfl (isB_alloc (HB.out _) _) hl (by simp;omega)).mono ?_
 rintro e' w2 ⟨rfl,hb2,hk2⟩
 go_wp2
 go_end0
 exact ⟨rfl,by simpa using hb2,((HK.out _).trans (bkeep_alloc (by simp;omega) _)).trans hk2⟩
theorem write_1b (hb:IsB B b l0 w) (hB:B≤w.heap.size) (hl:l0.length+2≤140737488355328) :
  Calls Tryz.prog 96 #[.pointer (some ⟨b,0,none⟩),.agg #[.int .i64 1,.int .i64 1,.int .i64 d,.string s,.slice o len cap]] w (WPost B b (l0++[35,116]) w):=by
 have HK:=Lib.hid (fun X=>bkeep_alloc (b:=b) hB X)
 have HB:=Lib.hid (fun X=>isB_alloc hb X)
 go_enter Tryz.func96,Tryz.ntmps96
 go_wp2_with fail
 refine (writeString_to B b l0 [35,116] _ _ rfl (isB_alloc (HB.out _) _) hl (by simp;omega)).mono ?_
 rintro e' w2 ⟨rfl,hb2,hk2⟩
 go_wp2
 go_end0
 exact ⟨rfl,by simpa using hb2,((HK.out _).trans (bkeep_alloc (by simp;omega) _)).trans hk2⟩
end
end
section
open Go.RowKit
theorem textV_snoc:∀(l:List Dat) (x:Dat) (first:Bool),Dat.textV (l++[x]) first=Dat.textV l first++((if first&&l.isEmpty then [] else [32])++Dat.text x false)
 | [],x,first=>by cases first<;>simp[Dat.textV]
 | y::l,x,first=>by
  rw[List.cons_append,Dat.textV,textV_snoc l x false,Dat.textV]
  simp
theorem textV_step {l:List Dat} {j:Nat} {x:Dat} (h:l[j]?=some x):Dat.textV (l.take (j+1)) true=Dat.textV (l.take j) true++((if j=0 then [] else [32])++Dat.text x false):=by
 have hj:=(List.getElem?_eq_some_iff.1 h).1
 rw[List.take_add_one,h]
 show Dat.textV (l.take j++[x]) true=_
 rw[textV_snoc]
 congr 2
 by_cases h0:j=0
 ·subst h0;simp
 ·have:(l.take j).isEmpty=false:=by
   rw[List.isEmpty_eq_false_iff];intro h1
   have:=congrArg List.length h1
   rw[List.length_take,List.length_nil] at this;omega
  simp[this,h0]
theorem textV_append_le:∀(a c:List Dat) (first:Bool),(Dat.textV a first).length≤(Dat.textV (a++c) first).length
 | [],c,first=>by simp[Dat.textV]
 | y::a,c,first=>by
  have:=textV_append_le a c false
  rw[List.cons_append,Dat.textV,Dat.textV]
  simp only[List.length_append];omega
theorem textV_take_le (l:List Dat) (j:Nat):(Dat.textV (l.take j) true).length≤(Dat.textV l true).length:=by
 have:=textV_append_le (l.take j) (l.drop j) true
 rwa[List.take_append_drop] at this
def WritesAll (B b:Nat) (l:List Dat):Prop:=∀x∈l,∀(v:Value) (l1:List UInt8) (W:World),IsB B b l1 W→RepD W B x v→B≤W.heap.size→EnvAt B W→l1.length+(Dat.text x false).length≤140737488355328 →
 Calls Tryz.prog 96 #[.pointer (some ⟨b,0,none⟩),v] W (WPost B b (l1++Dat.text x false) W)
theorem write_7 (B b:Nat) (l0:List UInt8) (n d:Int) (s:ByteArray) (l:List Dat) (sl:Value) (w:World) (hb:IsB B b l0 w) (hB:B≤w.heap.size) (hE:EnvAt B w) (hv:RepS w B l sl) (IH:WritesAll B b l)
  (hl:l0.length+([35,40]++(Dat.textV l true++[41])).length≤140737488355328) :
  Calls Tryz.prog 96 #[.pointer (some ⟨b,0,none⟩),.agg #[.int .i64 7,.int .i64 n,.int .i64 d,.string s,sl]] w (WPost B b (l0++([35,40]++(Dat.textV l true++[41]))) w):=by
 obtain ⟨o,len,cap,rfl,hlen,hcap,hmax,hc⟩:=hv
 have HK:=Lib.hid (fun X=>bkeep_alloc (b:=b) hB X)
 have HB:=Lib.hid (fun X=>isB_alloc hb X)
 have HE:=Lib.hid hE
 have HV:=Lib.hid hc
 have HL:=Lib.hid hlen
 have HI:=Lib.hid IH
 have hbw:=hb.lt
 have hbB:=hb.base
 have hlen2:l0.length+2+(Dat.textV l true).length+1≤140737488355328:=by simp at hl;omega
 clear hE hc hlen IH hl hb
 go_enter Tryz.func96,Tryz.ntmps96
 go_wp2_with fail
 refine (writeString_to B b l0 [35,40] _ _ rfl (HB.out _) (by simp;omega) (by simp;omega)).mono ?_
 rintro e' w1 ⟨rfl,hb1,hk1⟩
 have hbox:=Box5.bkeep hk1 (Box5.new w 45 _ _ _ _ _) (by omega)
 obtain ⟨q0,q1,q2,q3,q4⟩:=hbox.cells
 have HK1:=Lib.hid ((HK.out _).trans hk1)
 have HB1:=Lib.hid hb1
 have HX:=Lib.hid hbox
 clear hb1 hk1 hbox
 go_wp2_with fail
 go_loopw [4,56] (fun t i wr=>∃(j:Nat),i=.int .i64 j∧t=.string (if j=0 then ⟨#[]⟩ else ⟨#[32]⟩)∧j≤len∧IsB B b (l0++[35,40]++Dat.textV (l.take j) true) wr∧BKeep B b w wr) (fun _ i _=>len-(intOf i).toNat)
 case atStart=>exact ⟨0,rfl,rfl,by omega,by simpa[Dat.textV] using HB1.out,HK1.out⟩
 case round=>
  obtain ⟨j,rfl,rfl,hj,hbj,hkj⟩:=hrel
  have HBJ:=Lib.hid hbj
  have HKJ:=Lib.hid hkj
  have hsz:=hkj.size
  obtain ⟨S,hS⟩:∃S:ByteArray,(if j=0 then ⟨#[]⟩ else ⟨#[32]⟩:ByteArray)=S:=⟨_,rfl⟩
  obtain ⟨U,hU⟩:∃U:List UInt8,(if j=0 then [] else [32]:List UInt8)=U:=⟨_,rfl⟩
  have hSU:S.data.toList=U:=by rw[←hS,←hU];split<;>rfl
  rw[hS]
  have HU:=Lib.hid hU
  have HSU:=Lib.hid hSU
  clear hbj hkj hS hU hSU
  by_cases hjl:j<len
  ·obtain ⟨x,hx⟩:∃x,l[j]?=some x:=⟨_,List.getElem?_eq_getElem (by rw[←HL.out];exact hjl)⟩
   obtain ⟨bb,off,k',n',d',s',l',o',len',cap',ho,hxe,e0,e1,e2,e3,e4,er⟩:=part_at2 HV.out HKJ.out.1 hx
   subst ho hxe
   have HX:=Lib.hid hx
   have ER:=Lib.hid er
   have hbb:=cell_lt e0
   have HS:=Lib.hid (textV_step hx)
   have ht1:=textV_take_le l j
   have ht2:=textV_take_le l (j+1)
   rw[HS.out] at ht2
   simp only[List.length_append] at ht2
   rw[HU.out] at HS ht2
   clear hx er
   go_wp2_with fail
   refine (writeString_to B b _ U _ _ HSU.out (isB_alloc HBJ.out _) (by simp only[List.length_append,List.length_cons,List.length_nil];omega) (by simp;omega)).mono ?_
   rintro e' w2 ⟨rfl,hb2,hk2⟩
   have hbox2:=Box5.bkeep hk2 (Box5.new wr 45 _ _ _ _ _) (by omega)
   obtain ⟨r0,r1,r2,r3,r4⟩:=hbox2.cells
   have HK2:=Lib.hid ((HKJ.out.trans (bkeep_alloc (by omega) _)).trans hk2)
   have HB2:=Lib.hid hb2
   have HER2:=Lib.hid (ER.out.kept (((bkeep_alloc (b:=b) (by omega) _).trans hk2).1))
   clear hb2 hk2 hbox2
   go_wp2_with fail
   have hs2:=HK2.out.size
   refine (HI.out _ (List.mem_of_getElem? HX.out) _ _ _ HB2.out HER2.out (by omega) (HE.out.kept HK2.out.1) (by simp only[List.length_append,List.length_cons,List.length_nil];omega)).mono ?_
   rintro e' w3 ⟨rfl,hb3,hk3⟩
   go_wp2
   go_roundw
   case rel=>
    refine ⟨j+1,by go_num,by simp,by omega,?_,HK2.out.trans hk3⟩
    rw[HS.out]
    simpa using hb3
   case measure=>simp[intOf];omega
  ·have HT:=Lib.hid (show l.take j=l from List.take_of_length_le (by rw[←HL.out];omega))
   go_wp2_with fail
   refine (writeString_to B b _ [41] _ _ rfl HBJ.out (by rw[HT.out];simp only[List.length_append,List.length_cons,List.length_nil];omega) (by omega)).mono ?_
   rintro e' w2 ⟨rfl,hb2,hk2⟩
   go_wp2
   go_end0
   refine ⟨rfl,?_,HKJ.out.trans hk2⟩
   rw[HT.out] at hb2
   simpa using hb2
end
section
open Go.RowKit
theorem any_take_succ {p:Dat→Bool} {l:List Dat} {j:Nat} {x:Dat} (hx:l[j]?=some x) (h:(l.take j).any p=false) (hp:p x=false):(l.take (j+1)).any p=false:=by
 rw[List.take_add_one,hx]
 simp[h,hp]
theorem any_true {p:Dat→Bool} {l:List Dat} {j:Nat} {x:Dat} (hx:l[j]?=some x) (hp:p x=true):l.any p=true:=
 List.any_eq_true.2 ⟨x,List.mem_of_getElem? hx,hp⟩
def IdxPost (b:Bool) (w:World) (e:Ending) (w':World):Prop:=∃r:Int,e=.returned (.int .i64 r)∧decide (0≤r)=b∧Below w.heap.size w w'
theorem indexFunc_any (F:FuncId) (caps:Array Value) (p:Dat→Bool) (l:List Dat) (o:Option Addr) (len cap:Nat) (B:Nat) (w:World) (hl:len=l.length) (hcap:len≤cap) (hmax:cap≤9223372036854775807)
  (hv:match o with | none=>l=[]∧cap=0 | some a=>(l≠[]→a.spot=none∧a.block<B)∧RepC w B l a.block a.off) (hB:B≤w.heap.size)
  (hF:∀(args:Array Value) (w:World),(callFunc F args).run Tryz.prog w=.ok (.enter F args) w)
  (H:∀x∈l,∀v w',RepD w' B x v→Below w.heap.size w w'→Calls Tryz.prog F (#[v]++caps) w' fun e w''=>e=.returned (.bool (p x))∧Below w'.heap.size w' w'') :
  Calls Tryz.prog 89 #[.slice o len cap,.func (.func F) #[] caps] w (IdxPost (l.any p) w):=by
 obtain ⟨r,hr⟩:∃r,l.any p=r:=⟨_,rfl⟩
 rw[hr]
 have HR:=Lib.hid hr
 have HV:=Lib.hid hv
 have HL:=Lib.hid hl
 have HH:=Lib.hid H
 clear hr hv hl H
 go_enter Tryz.func89,Tryz.ntmps89
 go_wp2
 go_loopw [8] (fun i wr=>∃(j:Nat),i=.int .i64 j∧j≤len∧(l.take j).any p=false∧Below w.heap.size w wr) (fun i _=>len-(intOf i).toNat)
 case atStart=>exact ⟨0,rfl,by omega,rfl,Below.refl _ _⟩
 case round=>
  obtain ⟨j,rfl,hj,hany,hb⟩:=hrel
  have HA:=Lib.hid hany
  clear hany
  by_cases hjl:j<len
  ·obtain ⟨x,hx⟩:∃x,l[j]?=some x:=⟨_,List.getElem?_eq_getElem (by rw[←HL.out];exact hjl)⟩
   obtain ⟨b,off,k',n',d',s',l',o',len',cap',ho,hxe,e0,e1,e2,e3,e4,er⟩:=part_at2 HV.out (hb.mono hB) hx
   subst ho hxe
   have HC:=Lib.hid (HH.out _ (List.mem_of_getElem? hx) _ wr er hb)
   have HX:=Lib.hid hx
   clear hx er
   cases hp:p (.mk k' n' d' s' l') with
   | true=>
    rw[hp] at HC
    have HT:=Lib.hid (any_true HX.out hp)
    clear hp
    go_wp2_with (first | ((with_reducible refine HC.out.mono ?_);rintro e' w1 ⟨rfl,hb1⟩))
    go_ret
    exact ⟨j,rfl,by rw[←HR.out,HT.out];simp,Below.next hb hb1⟩
   | false=>
    rw[hp] at HC
    have HT:=Lib.hid (any_take_succ HX.out HA.out hp)
    clear hp
    go_wp2_with (first | ((with_reducible refine HC.out.mono ?_);rintro e' w1 ⟨rfl,hb1⟩))
    go_roundw
    case rel=>exact ⟨j+1,by go_num,by omega,HT.out,Below.next hb hb1⟩
    case measure=>simp[intOf];omega
  ·have HF:=Lib.hid (show l.any p=false by rw[←HA.out,List.take_of_length_le (by rw[←HL.out];omega)])
   go_wp2
   go_ret
   exact ⟨-1,rfl,by rw[←HR.out,HF.out];rfl,hb⟩
theorem containsFunc_any (F:FuncId) (caps:Array Value) (p:Dat→Bool) (r:Bool) (l:List Dat) (o:Option Addr) (len cap:Nat) (B:Nat) (w:World) (hl:len=l.length) (hcap:len≤cap) (hmax:cap≤9223372036854775807)
  (hv:match o with | none=>l=[]∧cap=0 | some a=>(l≠[]→a.spot=none∧a.block<B)∧RepC w B l a.block a.off) (hB:B≤w.heap.size)
  (hF:∀(args:Array Value) (w:World),(callFunc F args).run Tryz.prog w=.ok (.enter F args) w)
  (H:∀x∈l,∀v w',RepD w' B x v→Below w.heap.size w w'→Calls Tryz.prog F (#[v]++caps) w' fun e w''=>e=.returned (.bool (p x))∧Below w'.heap.size w' w'') (hr:l.any p=r) :
  Calls Tryz.prog 58 #[.slice o len cap,.func (.func F) #[] caps] w fun e w'=>e=.returned (.bool r)∧Below w.heap.size w w':=by
 have HI:=Lib.hid (indexFunc_any F caps p l o len cap B w hl hcap hmax hv hB hF H)
 rw[hr] at HI
 clear hr hv hl H hF
 go_enter Tryz.func58,Tryz.ntmps58
 go_wp2_with (first | (go_at_call 89;refine HI.out.mono ?_;rintro e' w1 ⟨q,rfl,hq,hb⟩))
 subst hq
 go_ret
 exact ⟨by simp,hb⟩
theorem containsFunc_S (F:FuncId) (caps:Array Value) (p:Dat→Bool) (r:Bool) (l:List Dat) (sl:Value) (B:Nat) (w:World) (hv:RepS w B l sl) (hB:B≤w.heap.size)
  (hF:∀(args:Array Value) (w:World),(callFunc F args).run Tryz.prog w=.ok (.enter F args) w)
  (H:∀x∈l,∀v w',RepD w' B x v→Below w.heap.size w w'→Calls Tryz.prog F (#[v]++caps) w' fun e w''=>e=.returned (.bool (p x))∧Below w'.heap.size w' w'') (hr:l.any p=r) :
  Calls Tryz.prog 58 #[sl,.func (.func F) #[] caps] w fun e w'=>e=.returned (.bool r)∧Below w.heap.size w w':=by
 obtain ⟨o,len,cap,rfl,hl,hcap,hmax,hv⟩:=hv
 exact containsFunc_any F caps p r l o len cap B w hl hcap hmax hv hB hF H hr
end
section
open Go.RowKit
theorem heap_alloc_size (w:World) (A:Obj):(w.alloc A).heap.size=w.heap.size+1:=by simp
theorem box_cell2 (w:World) (A:Obj) (cs:Array Value) (t:TypeId) (i:Nat) {v:Value} (h:cs[i]?=some v):((w.alloc A).alloc (.cells cs t)).cell? ⟨w.heap.size+1,i,none⟩=some v:=by
 have:=box_cell (w.alloc A) cs t i h
 rw[heap_alloc_size] at this
 exact this
end
section
open Go.RowKit
theorem bare_any (k n d:Int) (s:ByteArray) (o:Option Addr) (len cap:Nat) (hn:-9223372036854775808≤n∧n≤9223372036854775807) (hd:-9223372036854775808≤d∧d≤9223372036854775807) (hs:s.size≤140737488351232) :
  ∃(k' n' d':Int) (s':ByteArray) (o':Option Addr) (len' cap':Nat) (b:Bool),(∀w,Calls Tryz.prog 91 #[.agg #[.int .i64 k,.int .i64 n,.int .i64 d,.string s,.slice o len cap]] w fun e w'=>e=.returned (.tuple #[.agg #[.int .i64 k',.int .i64 n',.int .i64 d',.string s',.slice o' len' cap'],.bool b])∧Below w.heap.size w w') ∧
   Dat.head k n d s.data.toList len=(b&&(decide (n'=n)&&(decide (d'=d)&&(decide (s'=s)&&decide (len'=len))))):=by
 have hz:∀m:Int,decide (0=m)=decide (m=0):=fun m=>by rw[Bool.eq_iff_iff];simp only[decide_eq_true_eq];exact eq_comm
 have hzl:∀m:Nat,decide (0=m)=decide (m=0):=fun m=>by rw[Bool.eq_iff_iff];simp only[decide_eq_true_eq];exact eq_comm
 have he:decide ((⟨#[]⟩:ByteArray)=s)=s.data.toList.isEmpty:=by
  rw[Bool.eq_iff_iff]
  simp only[decide_eq_true_eq,List.isEmpty_iff]
  constructor
  ·rintro rfl;rfl
  ·intro h;apply ByteArray.ext;apply Array.ext';rw[h]
 by_cases k0:k=0
 ·subst k0
  exact ⟨_,_,_,_,_,_,_,_,fun w=>bare_0 n d s o len cap hn.1 hn.2 hd.1 hd.2 w,by rw[Dat.head,if_pos rfl,he,hzl];simp⟩
 by_cases k1:k=1
 ·subst k1
  have hh:Dat.head 1 n d s.data.toList len=(decide (n=0∨n=1)&&(decide (n=n)&&(decide (0=d)&&(decide ((⟨#[]⟩:ByteArray)=s)&&decide (0=len))))):=by
   rw[Dat.head,if_neg (by omega),if_pos rfl,he,hzl,hz];simp only[decide_true,Bool.true_and];rw[←Bool.and_assoc,Bool.and_comm (decide (d=0)),Bool.and_assoc]
  by_cases n0:n=0
  ·exact ⟨_,_,_,_,_,_,_,_,fun w=>bare_1a n d s o len cap (by simp[n0]) w,by rw[hh,decide_eq_true (Or.inl n0)]⟩
  by_cases n1:n=1
  ·exact ⟨_,_,_,_,_,_,_,_,fun w=>bare_1b n d s o len cap (by simp[n0]) (by simp[n1]) w,by rw[hh,decide_eq_true (Or.inr n1)]⟩
  ·exact ⟨_,_,_,_,_,_,_,_,fun w=>bare_1c n d s o len cap (by simp[n0]) (by simp[n1]) w,by rw[hh,decide_eq_false (by omega:¬(n=0∨n=1))]⟩
 have flip:∀a b c e:Bool,(a&&(b&&(c&&e)))=(c&&(b&&(a&&(true&&e)))):=by decide
 by_cases k2:k=2
 ·subst k2
  exact ⟨_,_,_,_,_,_,_,_,fun w=>bare_2 n d s o len cap hs w,by rw[Dat.head,if_neg (by omega),if_neg (by omega),if_pos rfl,hz,hz,hzl,decide_eq_true (rfl:s=s)];exact flip _ _ _ _⟩
 by_cases k3:k=3
 ·subst k3
  exact ⟨_,_,_,_,_,_,_,_,fun w=>bare_3 n d s o len cap hs w,by rw[Dat.head,if_neg (by omega),if_neg (by omega),if_neg (by omega),if_pos rfl,hz,hz,hzl,decide_eq_true (rfl:s=s)];exact flip _ _ _ _⟩
 have flip2:∀a b c e:Bool,(a&&(b&&(c&&e)))=(true&&(b&&(a&&(c&&e)))):=by decide
 by_cases k4:k=4
 ·subst k4
  exact ⟨_,_,_,_,_,_,_,_,fun w=>bare_4 n d s o len cap w,by rw[Dat.head,if_neg (by omega),if_neg (by omega),if_neg (by omega),if_neg (by omega),if_pos (by omega),hz,hz,hzl,he];exact flip2 _ _ _ _⟩
 by_cases k5:k=5
 ·subst k5
  exact ⟨_,_,_,_,_,_,_,_,fun w=>bare_5 n d s o len cap w,by rw[Dat.head,if_neg (by omega),if_neg (by omega),if_neg (by omega),if_neg (by omega),if_pos (by omega),hz,hz,hzl,he];exact flip2 _ _ _ _⟩
 have flip3:∀a b c e:Bool,(a&&(b&&(c&&e)))=(e&&(b&&(a&&(c&&true)))):=by decide
 by_cases k6:k=6
 ·subst k6
  have hh:Dat.head 6 n d s.data.toList len=(decide (len=2)&&(decide (0=n)&&(decide (0=d)&&(decide ((⟨#[]⟩:ByteArray)=s)&&decide (len=len))))):=by
   rw[Dat.head,if_neg (by omega),if_neg (by omega),if_neg (by omega),if_neg (by omega),if_neg (by omega),if_pos rfl,hz,hz,he,decide_eq_true (rfl:len=len)];exact flip3 _ _ _ _
  by_cases l2:len=2
  ·subst l2
   exact ⟨_,_,_,_,_,_,_,_,fun w=>bare_6a n d s o cap w,by rw[hh];rfl⟩
  ·exact ⟨_,_,_,_,_,_,_,_,fun w=>bare_6b n d s o len cap (by simp;omega) w,by rw[hh,decide_eq_false l2]⟩
 have flip4:∀a b c:Bool,(a&&(b&&c))=(true&&(b&&(a&&(c&&true)))):=by decide
 by_cases k7:k=7
 ·subst k7
  exact ⟨_,_,_,_,_,_,_,_,fun w=>bare_7 n d s o len cap w,by rw[Dat.head,if_neg (by omega),if_neg (by omega),if_neg (by omega),if_neg (by omega),if_neg (by omega),if_neg (by omega),if_pos rfl,hz,hz,he,decide_eq_true (rfl:len=len)];exact flip4 _ _ _⟩
 ·exact ⟨_,_,_,_,_,_,_,_,fun w=>bare_8 k n d s o len cap (by omega) w,by rw[Dat.head,if_neg k0,if_neg k1,if_neg k2,if_neg k3,if_neg (by omega),if_neg k6,if_neg k7];rfl⟩
theorem rightL_any (l:List Dat) (deep:Nat):Dat.rightL l deep = !(l.any fun x=>!Dat.right x deep):=by
 induction l with
 | nil=>rfl
 | cons x l ih=>rw[Dat.rightL,ih,List.any_cons];cases Dat.right x deep<;>simp
theorem right11_any (_x:Dat) (v:Value) (deep c pb:Nat) (w:World) (r:Bool) (hfn:w.cell? ⟨c,0,none⟩=some (.func (.func 90) #[] #[.pointer (some ⟨c,0,none⟩)])) (hpb:w.cell? ⟨pb,0,none⟩=some (.int .i64 deep)) (hdeep:deep≤200) (hc:c<w.heap.size) (hp:pb<w.heap.size)
  (hv:∃(k n d:Int) (s:ByteArray) (o:Option Addr) (len cap:Nat),v=.agg #[.int .i64 k,.int .i64 n,.int .i64 d,.string s,.slice o len cap])
  (H:∀w',Below w.heap.size w w'→Calls Tryz.prog 90 #[v,.int .i64 (deep+1:Nat),.pointer (some ⟨c,0,none⟩)] w' fun e w''=>e=.returned (.bool r)∧Below w'.heap.size w' w'') :
  Calls Tryz.prog 92 #[v,.pointer (some ⟨c,0,none⟩),.pointer (some ⟨pb,0,none⟩)] w fun e w'=>e=.returned (.bool !r)∧Below w.heap.size w w':=by
 obtain ⟨k,n,d,s,o,len,cap,rfl⟩:=hv
 have HW:∀X,Below w.heap.size w (w.alloc X):=fun X=>(Below.refl _ _).alloc (Nat.le_refl _) _
 have HWH:=Lib.hid HW
 have HH:=Lib.hid H
 have hcn:¬c=w.heap.size:=by omega
 have hpn:¬pb=w.heap.size:=by omega
 clear HW H
 go_enter Tryz.func92,Tryz.ntmps92
 go_wp2_with (first | (go_at_call 90;refine (HH.out _ (HWH.out _)).mono ?_;rintro e' w1 ⟨rfl,hb⟩))
 go_ret
 exact ⟨rfl,(HWH.out _).trans (hb.mono (by simp))⟩
end
section
open Go.RowKit
theorem right_parts (l:List Dat) (deep c pb B:Nat) (sl:Value) (W:World) (r:Bool) (hr:Dat.rightL l (deep+1)=r) (hv:RepS W B l sl) (hB:B≤W.heap.size) (hc:c<W.heap.size) (hp:pb<W.heap.size) (hfn:W.cell? ⟨c,0,none⟩=some (.func (.func 90) #[] #[.pointer (some ⟨c,0,none⟩)])) (hpb:W.cell? ⟨pb,0,none⟩=some (.int .i64 deep)) (hdeep:deep≤200)
  (IH:∀x∈l,∀(v:Value) (deep c:Nat) (di:Int) (B:Nat) (w:World),di=deep→RepD w B x v→B≤w.heap.size→c<w.heap.size→w.cell? ⟨c,0,none⟩=some (.func (.func 90) #[] #[.pointer (some ⟨c,0,none⟩)])→deep≤201 →
   Calls Tryz.prog 90 #[v,.int .i64 di,.pointer (some ⟨c,0,none⟩)] w fun e w'=>e=.returned (.bool (Dat.right x deep))∧Below w.heap.size w w') :
  Calls Tryz.prog 58 #[sl,.func (.func 92) #[] #[.pointer (some ⟨c,0,none⟩),.pointer (some ⟨pb,0,none⟩)]] W fun e w'=>e=.returned (.bool !r)∧Below W.heap.size W w':=by
 refine containsFunc_S 92 #[.pointer (some ⟨c,0,none⟩),.pointer (some ⟨pb,0,none⟩)] (fun x=>!Dat.right x (deep+1)) (!r) l sl B W hv hB (fun _ _=>by kernel_rfl) ?_ (by rw[←hr,rightL_any,Bool.not_not])
 intro x hx v w' hxv hb
 have hs:=hb.size
 refine right11_any x v deep c pb w' (Dat.right x (deep+1)) ((hb.cell (p:=⟨c,0,none⟩) hc).trans hfn) ((hb.cell (p:=⟨pb,0,none⟩) hp).trans hpb) hdeep (by omega) (by omega) (agg_of hxv) ?_
 intro w'' hb2
 have hs2:=hb2.size
 exact IH x hx v (deep+1) c _ B w'' rfl (hxv.kept (hb2.mono (by omega))) (by omega) (by omega) ((hb2.cell (p:=⟨c,0,none⟩) (by show c<_;omega)).trans ((hb.cell (p:=⟨c,0,none⟩) hc).trans hfn)) (by omega)
theorem right_no {deep:Nat} {n n' d d':Int} {s s':ByteArray} {len len':Nat} {b q r:Bool} (h:(decide (deep≤200)&&((b&&(decide (n'=n)&&(decide (d'=d)&&(decide (s'=s)&&decide (len'=len)))))&&q))=r)
  (hno:¬b=true∨200<(deep:Int)∨¬n'=n∨¬d'=d∨¬s'.toList=s.toList∨((len':Int) != (len:Int))=true):false=r:=by
 rw[←h]
 by_cases h1:deep≤200∧b=true∧n'=n∧d'=d∧s'=s∧len'=len
 ·obtain ⟨a,rfl,rfl,rfl,rfl,rfl⟩:=h1
  rcases hno with h | h | h | h | h | h
  ·exact absurd rfl h
  ·omega
  ·exact absurd rfl h
  ·exact absurd rfl h
  ·exact absurd rfl h
  ·simp at h
 ·symm
  rw[Bool.and_eq_false_iff]
  apply Decidable.byContradiction
  intro h2
  apply h1
  simp only[not_or,Bool.not_eq_false,Bool.and_eq_true,decide_eq_true_eq] at h2
  obtain ⟨a,⟨b,c,d,e,f⟩,_⟩:=h2
  exact ⟨a,b,c,d,e,f⟩
theorem right_yes {deep:Nat} {n n' d d':Int} {s s':ByteArray} {len len':Nat} {b q r:Bool} (h:(decide (deep≤200)&&((b&&(decide (n'=n)&&(decide (d'=d)&&(decide (s'=s)&&decide (len'=len)))))&&q))=r)
  (h0:b=true) (h1:(deep:Int)≤200) (h2:n'=n) (h3:d'=d) (h4:s'.toList=s.toList) (h5:((len':Int) != (len:Int))=false):q=r:=by
 have e:s'=s:=by
  apply ByteArray.ext;apply Array.ext'
  rw[←ByteArray.toList_eq,←ByteArray.toList_eq];exact h4
 have e2:len'=len:=by have:=h5;simp at this;omega
 rw[←h,decide_eq_true (by omega:deep≤200),h0,decide_eq_true h2,decide_eq_true h3,decide_eq_true e,decide_eq_true e2];rfl
theorem right1_any:∀(x:Dat) (v:Value) (deep c:Nat) (di:Int) (B:Nat) (w:World),di=deep→RepD w B x v→B≤w.heap.size→c<w.heap.size→w.cell? ⟨c,0,none⟩=some (.func (.func 90) #[] #[.pointer (some ⟨c,0,none⟩)])→deep≤201 →
    Calls Tryz.prog 90 #[v,.int .i64 di,.pointer (some ⟨c,0,none⟩)] w fun e w'=>e=.returned (.bool (Dat.right x deep))∧Below w.heap.size w w':=by
  intro x
  induction x using Dat.ind with
  | h k n d s l ih=>
    intro v deep c di B w hdi hv hB hc hfn hdeep
    subst hdi
    obtain ⟨sl,rfl,bk,bn,bd,bs,o,len,cap,rfl,hlen,hcap,hmax,hc0⟩:=hv.open
    obtain ⟨k',n',d',s',o',len',cap',b,hbare,hhead⟩:=bare_any k n d s o len cap bn bd bs
    obtain ⟨r,hr⟩:∃r,Dat.right (.mk k n d s l) deep=r:=⟨_,rfl⟩
    rw[hr]
    rw[Dat.right,←hlen,hhead] at hr
    have IH:=Lib.hid ih
    have HV:=Lib.hid hc0
    have HL:=Lib.hid hlen
    have HB:=Lib.hid hbare
    have HR:=Lib.hid hr
    clear ih hv hc0 hlen hbare hhead hr
    have hcn:¬c=w.heap.size:=by omega
    go_enter Tryz.func90,Tryz.ntmps90
    go_wp2_with (first | (go_at_call 91;refine (HB.out _).mono ?_;rintro e' w1 ⟨rfl,hb⟩;have hz:=two_size hb;have z0:w.heap.size<w1.heap.size:=(by omega);have z1:w.heap.size+1<w1.heap.size:=(by omega);have z2:c<w1.heap.size:=(by omega);obtain ⟨q0,q1,q2,q3,q4⟩:=two_five hb;have q5:=two_one2 hb;have q6:=((two_below hb).cell (p:=⟨c,0,none⟩) hc).trans hfn;have HB1:=Lib.hid hb;clear hb))
    all_goals try
      (go_ret
       refine ⟨ret_bool (right_no HR.out ?_),(two_below HB1.out).alloc (by omega) _⟩
       first
       | exact .inl ‹_›
       | exact .inr (.inr (.inr (.inr (.inl ‹_›))))
       | exact .inr (.inr (.inr (.inl ‹_›)))
       | exact .inr (.inr (.inl ‹_›))
       | exact .inr (.inl ‹_›)
       | (rcases ‹200<(deep:Int)∨_› with h | h
          · exact .inr (.inl h)
          · exact .inr (.inr (.inr (.inr (.inr h))))))
    have HQ:=Lib.hid (right_yes HR.out (by assumption) (by assumption) (by assumption) (by assumption) (by assumption) (‹_∧((len':Int) != (len:Int))=false›).2)
    have hd0:deep≤200:=by have:=‹(deep:Int)≤200›;omega
    have HS:RepS w B l (.slice o len cap):=⟨o,len,cap,rfl,HL.out,hcap,hmax,HV.out⟩
    have HS1:=Lib.hid HS
    clear HS
    have HK:=Lib.hid (two_below HB1.out)
    refine (right_parts l deep c (w.heap.size+1) B _ _ r HQ.out (HS1.out.kept ((HK.out.alloc (by omega) _).mono hB)) ?_ ?_ ?_ ?_ ?_ hd0 IH.out).mono ?_
    · simp;omega
    · simp;omega
    · simp;omega
    · rw[World.cell?_alloc_past _ _ _ z2];exact q6
    · rw[World.cell?_alloc_past _ _ _ z1];exact q5
    rintro e2 w2 ⟨rfl,hb2⟩
    go_wp2
    go_ret
    exact ⟨by simp,(HK.out.alloc (by omega) _).trans (hb2.mono (by simp;omega))⟩
theorem dright_any (x:Dat) (v:Value) (B:Nat) (w:World) (hv:RepD w B x v) (hB:B≤w.heap.size) :
  Calls Tryz.prog 60 #[v] w fun e w'=>e=.returned (.bool (Dat.right x 0))∧Below w.heap.size w w':=by
 obtain ⟨k,n,d,s,l⟩:=x
 obtain ⟨sl,rfl,_,_,_,_,o,len,cap,rfl,hx⟩:=hv.open
 clear hx
 have HV:=Lib.hid hv
 clear hv
 have HW:=Lib.hid (fun X Y=>((Below.refl w.heap.size w).alloc (Nat.le_refl _) X).alloc (by simp) Y)
 obtain ⟨y,hy⟩:∃y,Dat.right (.mk k n d s l) 0=y:=⟨_,rfl⟩
 rw[hy]
 have HY:=Lib.hid hy
 clear hy
 go_enter Tryz.func60,Tryz.ntmps60
 go_wp2_with fail
 refine (right1_any (.mk k n d s l) _ 0 (w.heap.size+1) 0 B _ rfl (HV.out.kept ((HW.out _ _).mono hB)) ?_ ?_ (box_cell2 _ _ _ _ 0 rfl) (by omega)).mono ?_
 ·simp;omega
 ·simp
 rw[HY.out]
 rintro e' w1 ⟨rfl,hb1⟩
 go_wp2
 go_ret
 exact ⟨rfl,(HW.out _ _).trans (hb1.mono (by simp;omega))⟩
end
section
open Go.RowKit
theorem extract_table:∀i:Nat,i<31→Value.agg (tableA.extract (i*5) (i*5+5))=factV (Prims.facts i)
 | 0,_=>by kernel_rfl
 | 1,_=>by kernel_rfl
 | 2,_=>by kernel_rfl
 | 3,_=>by kernel_rfl
 | 4,_=>by kernel_rfl
 | 5,_=>by kernel_rfl
 | 6,_=>by kernel_rfl
 | 7,_=>by kernel_rfl
 | 8,_=>by kernel_rfl
 | 9,_=>by kernel_rfl
 | 10,_=>by kernel_rfl
 | 11,_=>by kernel_rfl
 | 12,_=>by kernel_rfl
 | 13,_=>by kernel_rfl
 | 14,_=>by kernel_rfl
 | 15,_=>by kernel_rfl
 | 16,_=>by kernel_rfl
 | 17,_=>by kernel_rfl
 | 18,_=>by kernel_rfl
 | 19,_=>by kernel_rfl
 | 20,_=>by kernel_rfl
 | 21,_=>by kernel_rfl
 | 22,_=>by kernel_rfl
 | 23,_=>by kernel_rfl
 | 24,_=>by kernel_rfl
 | 25,_=>by kernel_rfl
 | 26,_=>by kernel_rfl
 | 27,_=>by kernel_rfl
 | 28,_=>by kernel_rfl
 | 29,_=>by kernel_rfl
 | 30,_=>by kernel_rfl
 | i+31,h=>absurd h (by omega)
theorem index_table (i:Nat) (hi:i<31) (w:World):(Instr.index 133 (.agg tableA) (.int .i64 i)).run Tryz.prog w=.ok (factV (Prims.facts i)) w:=by
 rw[←extract_table i hi]
 have hn:(0:Int)≤i∧(i:Int)<(31:Nat):=by omega
 simp[Instr.index,run_underlying Tryz.underlying133,asIntOf,hn,part,go_sem]
 intro h;omega
theorem facts_any (n:Int) (h0:-9223372036854775808≤n) (h1:n≤9223372036854775807) (w:World) :
  Calls Tryz.prog 93 #[.int .i64 n] w fun e w'=>e=.returned (.tuple #[factV (Prims.facts n),.bool (Prims.has n)])∧Below w.heap.size w w':=by
 by_cases hn:0≤n∧n≤30
 ·obtain ⟨i,rfl⟩:∃i:Nat,n=i:=⟨n.toNat,by omega⟩
  have hi:i<31:=by omega
  have hh:Prims.has (i:Int)=true:=by simp[Prims.has];omega
  rw[hh]
  obtain ⟨F,hF⟩:∃F,Prims.facts (i:Int)=F:=⟨_,rfl⟩
  rw[hF]
  have HF:=Lib.hid hF
  clear hF
  have hix:=fun W=>index_table i hi W
  rw[HF.out] at hix
  unfold factV factC at *
  obtain ⟨f0,f1,f2,f3,f4⟩:=F
  dsimp only at *
  go_enter Tryz.func93,Tryz.ntmps93
  go_wp2_with fail
  refine (table_any _).mono ?_
  rintro e' w1 ⟨rfl,hb1⟩
  have hbox:Box5 w1 w.heap.size 114 (.string ⟨#[]⟩) (.int .i64 0) (.int .i64 0) (.bool false) (.bool false):=(hb1.block _ (by simp)).trans (Box5.new w _ _ _ _ _ _)
  obtain ⟨q0,q1,q2,q3,q4⟩:=hbox.cells
  obtain ⟨z0,z1,z2,z3,z4⟩:=hbox.free
  have hlt:=hbox.lt
  have bN:=hbox.set (.string f0) (.int .i64 f1) (.int .i64 f2) (.bool f3) (.bool f4)
  obtain ⟨r0,r1,r2,r3,r4⟩:=bN.cells
  have HB:=Lib.hid ((one_below hb1).trans (set5_below w1 w.heap.size w.heap.size (.string f0) (.int .i64 f1) (.int .i64 f2) (.bool f3) (.bool f4) (Nat.le_refl _)))
  clear hb1 hbox bN
  go_wp2_with fail
  exact bodyPost_ret (v:=.tuple #[.agg #[.string f0,.int .i64 f1,.int .i64 f2,.bool f3,.bool f4],.bool true]) (by simp[results,Tryz.results93,go_sem,r0,r1,r2,r3,r4]) rfl ⟨rfl,HB.out⟩
 ·have hh:Prims.has n=false:=by simp[Prims.has];omega
  have hf:Prims.facts n=Prims.noFact:=by rw[Prims.facts,if_neg hn]
  rw[hh,hf]
  rcases (by omega:n<0∨0≤n) with hlt | hge
  ·go_enter Tryz.func93,Tryz.ntmps93
   go_wp2_with fail
   exact bodyPost_ret (v:=.tuple #[.agg #[.string ⟨#[]⟩,.int .i64 0,.int .i64 0,.bool false,.bool false],.bool false]) (by simp[results,Tryz.results93,go_sem]) rfl ⟨rfl,(Below.refl _ _).alloc (Nat.le_refl _) _⟩
  ·have hge2:31≤n:=by omega
   go_enter Tryz.func93,Tryz.ntmps93
   go_wp2_with fail
   exact bodyPost_ret (v:=.tuple #[.agg #[.string ⟨#[]⟩,.int .i64 0,.int .i64 0,.bool false,.bool false],.bool false]) (by simp[results,Tryz.results93,go_sem]) rfl ⟨rfl,(Below.refl _ _).alloc (Nat.le_refl _) _⟩
theorem facts_to (n:Int) (f0:ByteArray) (f1 f2:Int) (f3 f4 b:Bool) (hf:Prims.facts n=⟨f0,f1,f2,f3,f4⟩) (hb:Prims.has n=b) (h0:-9223372036854775808≤n) (h1:n≤9223372036854775807) (w:World) :
  Calls Tryz.prog 93 #[.int .i64 n] w fun e w'=>e=.returned (.tuple #[.agg #[.string f0,.int .i64 f1,.int .i64 f2,.bool f3,.bool f4],.bool b])∧Below w.heap.size w w':=by
 have:=facts_any n h0 h1 w
 rw[hf,hb] at this
 exact this
theorem fact_bounds (n:Int):0≤(Prims.facts n).least∧(Prims.facts n).least≤2∧-1≤(Prims.facts n).most∧(Prims.facts n).most≤2:=by
 unfold Prims.facts
 split
 ·have hall:∀i:Nat,i<31→(0≤(Prims.table.getD i Prims.noFact).least∧(Prims.table.getD i Prims.noFact).least≤2∧-1≤(Prims.table.getD i Prims.noFact).most∧(Prims.table.getD i Prims.noFact).most≤2):=by decide +kernel
  exact hall n.toNat (by omega)
 ·decide
theorem takes_any (n k:Int) (h0:-9223372036854775808≤n) (h1:n≤9223372036854775807) (w:World) :
  Calls Tryz.prog 99 #[.int .i64 n,.int .i64 k] w fun e w'=>e=.returned (.bool (Prims.takes n k))∧Below w.heap.size w w':=by
 obtain ⟨b,hb⟩:∃b,Prims.has n=b:=⟨_,rfl⟩
 obtain ⟨F,hF⟩:∃F,Prims.facts n=F:=⟨_,rfl⟩
 have bnd:=fact_bounds n
 rw[hF] at bnd
 obtain ⟨f0,f1,f2,f3,f4⟩:=F
 dsimp only at bnd
 obtain ⟨t,ht⟩:∃t,Prims.takes n k=t:=⟨_,rfl⟩
 rw[ht]
 unfold Prims.takes at ht
 rw[hb,hF] at ht
 dsimp only at ht
 have HT:=Lib.hid ht
 have HC:=Lib.hid (fun W=>facts_to n f0 f1 f2 f3 f4 b hF hb h0 h1 W)
 clear ht hF hb
 have go:∀(q1 q2 q3:Bool),decide (f1≤k)=q1→(f2 == -1)=q2→decide (k≤f2)=q3→Calls Tryz.prog 99 #[.int .i64 n,.int .i64 k] w fun e w'=>e=.returned (.bool t)∧Below w.heap.size w w':=by
  intro q1 q2 q3 e1 e2 e3
  have HR:=Lib.hid (show (b&&(q1&&(q2 || q3)))=t by
   rw[←HT.out,←e1,←e2,←e3]
   congr 2
   rw[show decide (f2<0)=(f2 == -1) from by
    rw[Bool.eq_iff_iff,decide_eq_true_eq,beq_iff_eq];omega])
  clear HT
  cases b<;>cases q1<;>cases q2<;>cases q3
  all_goals
   go_enter Tryz.func99,Tryz.ntmps99
   go_wp2_with (first | (go_at_call 93;refine (HC.out _).mono ?_;rintro e' w1 ⟨rfl,hb1⟩) | fail)
   go_ret
   exact ⟨ret_bool HR.out,by first | exact hb1.alloc hb1.size _ | exact (hb1.alloc hb1.size _).drew | exact Below.drewN (hb1.alloc hb1.size _) _ | fail⟩
 exact go _ _ _ rfl rfl rfl
end
end Go.Proofs.YtgbibibmpoekiaaGreatDoor
