/-
  What the proofs lean on: BulkS, UntRep, Writes2.
-/
import Derived.Deep.LoopGhost
import Derived.Test.YtgbibibmpoekiaaGreatDoorShfA03
import Derived.Test.YtgbibibmpoekiaaGreatDoorShfA07
import Derived.Test.YtgbibibmpoekiaaGreatDoorShfA08
set_option maxRecDepth 100000
set_option maxHeartbeats 16000000
namespace Go.Proofs.YtgbibibmpoekiaaGreatDoor
section
open Go.ChangeShapes Go.WideShapes Go.ChangeAt Go.RowKit
section
variable {H : Type} {enc : TypeId × Value → H}
theorem repS_of_trodB {w:World} (fuel:Nat) (c4:Value) (x4:DataW H × List MemPlace) (g4:DataW.trod enc Tryz.prog w 0 (fun _=>true) true fuel 22 [c4]=some x4) (w4:∀n∈x4.1.weights Tryz.prog 22,n≤reachBytes):∃l,RepS w w.heap.size l c4∧Dat.bulkL l≤Rows.uptoBulk x4.1:=by
 rcases DataW.trod_slice Tryz.underlying22 g4 with ⟨e4,_⟩ | ⟨a,len,cap,elems,rest,n',rfl,e4,hx4,_,hle,_,hel,hget4,hsp,_⟩
 ·have f4:c4=.slice none 0 0:=by simpa using e4
  subst f4
  exact ⟨[],⟨none,0,0,rfl,rfl,by omega,by omega,rfl,rfl⟩,Nat.zero_le _⟩
 ·have f4:c4=.slice (some a) len cap:=by simpa using e4
  subst f4 hx4
  have hrest:=(hsp rfl).1
  have hcap:cap≤9223372036854775807:=by
   have:=w4 ((elems.length+rest.length)*64) (by simp[DataW.weights,Tryz.underlying22,bytes_datum])
   have h9:(elems.length+rest.length)*64≤140737488351232:=this
   omega
  by_cases h0:len=0
  ·subst h0
   exact ⟨[],⟨some a,0,cap,rfl,rfl,by omega,hcap,fun h=>absurd rfl h,by rw[RepC];trivial⟩,Nat.zero_le _⟩
  have hat:∀i (hi:i<len),∃cs',w.cells? 0 (a.add (i*5)) 5=some cs'∧DataW.trod enc Tryz.prog w 0 (fun _=>true) true n' 45 cs'=some (elems[i]'(by omega)):=by
   intro i hi
   have hb:=hget4 i hi
   rw[cells_datum,List.getElem?_eq_getElem (by omega)] at hb
   exact Option.bind_eq_some_iff.1 hb
  obtain ⟨hspot,hblk⟩:a.spot=none∧a.block<w.heap.size:=by
   obtain ⟨cs',hc1,_⟩:=hat 0 (by omega)
   obtain ⟨_,hl5,hcs⟩:=World.cells?_some hc1
   have h00:=hcs 0 (by omega)
   rw[List.getElem?_eq_getElem (by omega)] at h00
   have:=cell_spot h00
   simpa[Addr.add] using this
  have hcell:∀i (hi:i<(elems.map Prod.fst).length),∃x c0 c1 c2 c3 c4,w.cell? ⟨a.block,a.off+i*5,none⟩=some c0∧w.cell? ⟨a.block,a.off+i*5+1,none⟩=some c1∧w.cell? ⟨a.block,a.off+i*5+2,none⟩=some c2∧w.cell? ⟨a.block,a.off+i*5+3,none⟩=some c3∧w.cell? ⟨a.block,a.off+i*5+4,none⟩=some c4∧RepD w w.heap.size x (.agg #[c0,c1,c2,c3,c4])∧Dat.bulk x≤Rows.uptoBulk (elems.map Prod.fst)[i]:=by
   intro i hi'
   have hi:i<len:=by simpa[hel] using hi'
   obtain ⟨cs',hc1,hc2⟩:=hat i hi
   obtain ⟨_,hl5,hcs⟩:=World.cells?_some hc1
   rw[add_none hspot] at hcs
   have hcs2:∀j,j<5→w.cell? ⟨a.block,a.off+i*5+j,none⟩=cs'[j]?:=by
    intro j hj
    have:=hcs j hj
    rw[add_none rfl] at this
    exact this
   match cs',hl5 with
   | [a0,a1,a2,a3,a4],_=>
    obtain ⟨x,hx,hxb⟩:=rep_of_trodB n' _ _ hc2 (fun q hq=>w4 q (by
     simp only[DataW.weights,Tryz.underlying22,List.mem_cons,List.mem_append]
     refine Or.inr (Or.inl (weightsAll_mem (d:=(elems[i]'(by omega)).1) ?_ q hq))
     exact List.mem_map_of_mem (List.getElem_mem _)))
    exact ⟨x,a0,a1,a2,a3,a4,hcs2 0 (by omega),hcs2 1 (by omega),hcs2 2 (by omega),hcs2 3 (by omega),hcs2 4 (by omega),hx,by simpa using hxb⟩
  obtain ⟨l,hl,hr,hlb⟩:=repC_buildB (elems.map Prod.fst) a.off hcell
  exact ⟨l,⟨some a,len,cap,rfl,by rw[hl];simp[hel],hle,hcap,fun _=>⟨hspot,hblk⟩,hr⟩,Nat.le_trans hlb (by show Rows.uptoBulkAll (elems.map fun x=>x.1)≤_;simp only[Rows.uptoBulk];omega)⟩
end
end
section
open Go.RowKit Go.Deep Go.ChangeShapes Go.WideShapes Go.ChangeAt
def CellsG {α:Type} (size:Nat) (R:α→List Value→Prop):List α→List Value→Prop
 | [],xs=>xs=[]
 | x::l,xs=>∃cs r,xs=cs++r∧cs.length=size∧R x cs∧CellsG size R l r
theorem CellsG.length {α:Type} {size:Nat} {R:α→List Value→Prop}:∀{l:List α} {xs:List Value},CellsG size R l xs→xs.length=l.length*size
 | [],_,h=>by rw[CellsG] at h;rw[h];simp
 | _::l,_,⟨cs,r,he,hs,_,hr⟩=>by rw[he,List.length_append,hs,hr.length,List.length_cons,Nat.add_mul];omega
theorem CellsG.mono {α:Type} {size:Nat} {R R':α→List Value→Prop}:∀{l:List α} {xs:List Value},CellsG size R l xs→(∀x∈l,∀cs,R x cs→R' x cs)→CellsG size R' l xs
 | [],_,h,_=>h
 | x::l,_,⟨cs,r,he,hs,hx,hr⟩,hk=>⟨cs,r,he,hs,hk x (by simp) _ hx,hr.mono fun y hy=>hk y (by simp[hy])⟩
theorem CellsG.snoc {α:Type} {size:Nat} {R:α→List Value→Prop} {x:α} {cs:List Value} (hs:cs.length=size) (hx:R x cs):∀{l:List α} {xs:List Value},CellsG size R l xs→CellsG size R (l++[x]) (xs++cs)
 | [],_,h=>by rw[CellsG] at h;subst h;exact ⟨cs,[],by simp,hs,hx,rfl⟩
 | _::l,_,⟨cs',r,he,hs',hx',hr⟩=>⟨cs',r++cs,by rw[he,List.append_assoc],hs',hx',hr.snoc hs hx⟩
theorem CellsG.at {α:Type} {size:Nat} {R:α→List Value→Prop}:∀{l:List α} {xs:List Value} {i:Nat} {x:α},CellsG size R l xs→l[i]?=some x→∃cs,cs.length=size∧R x cs∧∀j u,cs[j]?=some u→xs[i*size+j]?=some u
 | [],_,i,x,_,hx=>by simp at hx
 | y::l,xs,0,x,⟨cs,r,he,hs,hy,hr⟩,hx=>by
  simp only[List.getElem?_cons_zero,Option.some.injEq] at hx
  subst hx
  refine ⟨cs,hs,hy,fun j u hj=>?_⟩
  have:=(List.getElem?_eq_some_iff.1 hj).1
  rw[he,Nat.zero_mul,Nat.zero_add,List.getElem?_append_left this]
  exact hj
 | y::l,xs,i+1,x,⟨cs,r,he,hs,hy,hr⟩,hx=>by
  obtain ⟨cs',h1,h2,h3⟩:=hr.at (i:=i) (by simpa using hx)
  refine ⟨cs',h1,h2,fun j u hj=>?_⟩
  rw[he,List.getElem?_append_right (by rw[hs,Nat.add_mul];omega),hs,show (i+1)*size+j-size=i*size+j by rw[Nat.add_mul];omega]
  exact h3 j u hj
theorem slC_of_row {α:Type} {w:World} {base size:Nat} {te:TypeId} {R:α→List Value→Prop} {v:Value} {l:List α} {xs:List Value} (hown:w.ownsRow base te size v l.length xs) (hc:CellsG size R l xs):SlC w w.heap.size size R l v:=by
 rcases hown.2 with ⟨hv,h0⟩ | ⟨g,cap,cur,hv,hb,hg,hle,hm,hsz,htk⟩
 ·have:l=[]:=List.eq_nil_of_length_eq_zero h0
  subst this
  exact ⟨none,0,0,hv,rfl,by omega,by omega,rfl,rfl⟩
 ·have hlt:=(Array.getElem?_eq_some_iff.1 hg).1
  refine ⟨some ⟨g,0,none⟩,l.length,cap,hv,rfl,hle,by unfold maxLen at hm;omega,fun _=>⟨rfl,hlt⟩,?_⟩
  intro i x hx
  obtain ⟨cs,h1,h2,h3⟩:=hc.at hx
  refine ⟨cs,h1,fun j u hj=>?_,h2⟩
  have:=h3 j u hj
  rw[←htk,List.getElem?_take] at this
  split at this
  ·unfold World.cell?
   simp only[hg,Nat.zero_add]
   simpa using this
  ·cases this
section
variable {H : Type} {enc : TypeId × Value → H}
end
end
section
open Go.RowKit
theorem set5_isB {B b H:Nat} {l:List UInt8} {W:World} {c0 c1 c2 c3 c4:Value} (h:IsB B b l W) (hx:Box5 W H 45 c0 c1 c2 c3 c4) (hH:H≠b) (d0 d1 d2 d3 d4:Value):IsB B b l (set5 W H d0 d1 d2 d3 d4):=by
 have hg:W.grownBy (set5 W H d0 d1 d2 d3 d4) (some H):=⟨(set5_below W H H d0 d1 d2 d3 d4 (Nat.le_refl _)).os,(set5_below W H H d0 d1 d2 d3 d4 (Nat.le_refl _)).tape,(set5_below W H H d0 d1 d2 d3 d4 (Nat.le_refl _)).output,(set5_below W H H d0 d1 d2 d3 d4 (Nat.le_refl _)).size,fun k _ hk=>set5_heap _ _ _ _ _ _ _ (by simpa using hk)⟩
 have one:∀p,Lib.BuilderAtF 121 5 B b p (Lib.byteCells l) W→Lib.BuilderAtF 121 5 B b p (Lib.byteCells l) (set5 W H d0 d1 d2 d3 d4):=by
  rintro p ⟨hB,v,hb,hown,hne⟩
  exact ⟨hB,v,(set5_heap _ _ _ _ _ _ _ (Ne.symm hH)).trans hb,hown.kept hg (.inr (Lib.ownBlock_neF hown hx (by decide))),hne⟩
 exact h.elim (fun x=>.inl (one _ x)) (fun x=>.inr (one _ x))
theorem set5_bkeep {B b H:Nat} {w W:World} (h:BKeep B b w W) (hH:w.heap.size≤H) (hB:B≤H) (d0 d1 d2 d3 d4:Value):BKeep B b w (set5 W H d0 d1 d2 d3 d4):=
 ⟨h.1.trans (set5_below _ _ _ _ _ _ _ _ hB),fun k o hk hb ho=>(set5_heap _ _ _ _ _ _ _ (by have:=(Array.getElem?_eq_some_iff.1 hk).1;omega)).trans (h.2 k o hk hb ho)⟩
def Writes (B b:Nat) (x:Dat):Prop:=∀(v:Value) (l1:List UInt8) (W:World),IsB B b l1 W→RepD W B x v→B≤W.heap.size→EnvAt B W→l1.length+(Dat.text x false).length≤140737488355328 →
 Calls Tryz.prog 96 #[.pointer (some ⟨b,0,none⟩),v] W (WPost B b (l1++Dat.text x false) W)
theorem right_pair {n d:Int} {s:ByteArray} {l:List Dat} {deep:Nat} (h:Dat.right (.mk 6 n d s l) deep=true):∃a c,l=[a,c]∧n=0∧d=0∧s=⟨#[]⟩∧Dat.right a 0=true∧Dat.right c 0=true:=by
 have h2:=h
 simp[Dat.right,Dat.head] at h
 obtain ⟨_,⟨hd,hn,hs,hl⟩,_⟩:=h
 match l,hl with
 | [a,c],_=>
  refine ⟨a,c,rfl,hn,hd,?_,Dat.right_part h2 (by simp[Dat.l]),Dat.right_part h2 (by simp[Dat.l])⟩
  exact ByteArray.ext hs
theorem part_0 {w wr:World} {B:Nat} {a c:Dat} {o:Option Addr} {len cap:Nat} (h:RepS w B [a,c] (.slice o len cap)) (hb:Below B w wr) :
  ∃b off k n d s l' o' len' cap',o=some ⟨b,off,none⟩∧a=.mk k n d s l'∧wr.cell? ⟨b,off,none⟩=some (.int .i64 k)∧wr.cell? ⟨b,off+1,none⟩=some (.int .i64 n)∧wr.cell? ⟨b,off+2,none⟩=some (.int .i64 d) ∧
   wr.cell? ⟨b,off+3,none⟩=some (.string s)∧wr.cell? ⟨b,off+4,none⟩=some (.slice o' len' cap')∧RepD wr B (.mk k n d s l') (.agg #[.int .i64 k,.int .i64 n,.int .i64 d,.string s,.slice o' len' cap']):=by
 obtain ⟨o2,len2,cap2,he,_,_,_,h2⟩:=h
 simp only[Value.slice.injEq] at he
 obtain ⟨rfl,rfl,rfl⟩:=he
 have:=part_at2 (j:=0) (x:=a) h2 hb rfl
 simpa using this
theorem part_1 {w wr:World} {B:Nat} {a c:Dat} {o:Option Addr} {len cap:Nat} (h:RepS w B [a,c] (.slice o len cap)) (hb:Below B w wr) :
  ∃b off k n d s l' o' len' cap',o=some ⟨b,off,none⟩∧c=.mk k n d s l'∧wr.cell? ⟨b,off+5,none⟩=some (.int .i64 k)∧wr.cell? ⟨b,off+6,none⟩=some (.int .i64 n)∧wr.cell? ⟨b,off+7,none⟩=some (.int .i64 d) ∧
   wr.cell? ⟨b,off+8,none⟩=some (.string s)∧wr.cell? ⟨b,off+9,none⟩=some (.slice o' len' cap')∧RepD wr B (.mk k n d s l') (.agg #[.int .i64 k,.int .i64 n,.int .i64 d,.string s,.slice o' len' cap']):=by
 obtain ⟨o2,len2,cap2,he,_,_,_,h2⟩:=h
 simp only[Value.slice.injEq] at he
 obtain ⟨rfl,rfl,rfl⟩:=he
 have:=part_at2 (j:=1) (x:=c) h2 hb rfl
 simpa using this
def PairI (B b H:Nat) (l0:List UInt8) (w:World) (N:Nat) (T:List UInt8) (g:Nat) (wr:World):Prop:=
 ∃(k n d:Int) (s:ByteArray) (l:List Dat) (o:Option Addr) (len cap:Nat) (U:List UInt8),Box5 wr H 45 (.int .i64 k) (.int .i64 n) (.int .i64 d) (.string s) (.slice o len cap)∧RepD wr B (.mk k n d s l) (.agg #[.int .i64 k,.int .i64 n,.int .i64 d,.string s,.slice o len cap]) ∧
  Dat.right (.mk k n d s l) 0=true∧Dat.all (.mk k n d s l)≤g∧g<N∧IsB B b (l0++U) wr∧BKeep B b w wr∧U++Dat.text (.mk k n d s l) true=T
theorem text_tail6 (n d:Int) (s:ByteArray) (a c:Dat):Dat.text (.mk 6 n d s [a,c]) true=32::(Dat.text a false++Dat.text c true):=by
 rw[Dat.text,if_pos rfl,Dat.textP];rfl
theorem text_tail4 (n d:Int) (s:ByteArray) (l:List Dat):Dat.text (.mk 4 n d s l) true=[]:=by
 rw[Dat.text,if_neg (by omega)];rfl
theorem text_tail (k n d:Int) (s:ByteArray) (l:List Dat) (h6:¬k=6) (h4:¬k=4):Dat.text (.mk k n d s l) true=[32,46,32]++Dat.text (.mk k n d s l) false:=by
 rw[Dat.text,Dat.text,if_neg h6,if_neg h6,if_pos rfl,if_neg h4];rfl
theorem write_6 (B b:Nat) (l0:List UInt8) (n d:Int) (s:ByteArray) (a c:Dat) (sl:Value) (w:World) (hb:IsB B b l0 w) (hB:B≤w.heap.size) (hE:EnvAt B w) (hv:RepS w B [a,c] sl) (ha:Dat.right a 0=true) (hc:Dat.right c 0=true)
  (IH:∀x,Dat.all x<Dat.all a+Dat.all c+1→Dat.right x 0=true→Writes B b x)
  (hl:l0.length+(40::(Dat.textP [a,c]++[41])).length≤140737488355328) :
  Calls Tryz.prog 96 #[.pointer (some ⟨b,0,none⟩),.agg #[.int .i64 6,.int .i64 n,.int .i64 d,.string s,sl]] w (WPost B b (l0++(40::(Dat.textP [a,c]++[41]))) w):=by
 obtain ⟨o,len,cap,rfl,hlen,hcap,hmax,hcc⟩:=hv
 obtain rfl:len=2:=hlen
 replace hcc:RepS w B [a,c] (.slice o 2 cap):=⟨o,2,cap,rfl,rfl,hcap,hmax,hcc⟩
 obtain ⟨bb,off,ak,an,ad,ast,al,ao,alen,acap,rfl,hae,e0,e1,e2,e3,e4,er⟩:=part_0 hcc (Below.refl B w)
 have HK:=Lib.hid (fun X=>bkeep_alloc (b:=b) hB X)
 have HB:=Lib.hid (fun X=>isB_alloc hb X)
 have HE:=Lib.hid hE
 have HV:=Lib.hid hcc
 have HI:=Lib.hid IH
 have HA:=Lib.hid ha
 have HC:=Lib.hid hc
 have hbw:=hb.lt
 have hbB:=hb.base
 have hlen2:l0.length+1+(Dat.textP [a,c]).length+1≤140737488355328:=by simp at hl;omega
 have hTP:Dat.textP [a,c]=Dat.text a false++Dat.text c true:=by rw[Dat.textP]
 have HTP:=Lib.hid hTP
 have hlt:(Dat.textP [a,c]).length=(Dat.text a false).length+(Dat.text c true).length:=by rw[hTP,List.length_append]
 clear hE hcc IH hl hb ha hc hTP e0 e1 e2 e3 e4 er
 go_enter Tryz.func96,Tryz.ntmps96
 go_wp2_with fail
 refine (writeString_to B b l0 [40] _ _ rfl (HB.out _) (by simp;omega) (by simp;omega)).mono ?_
 rintro e' w1 ⟨rfl,hb1,hk1⟩
 have hbox:=Box5.bkeep hk1 (Box5.new w 45 _ _ _ _ _) (by omega)
 obtain ⟨q0,q1,q2,q3,q4⟩:=hbox.cells
 have HK1:=Lib.hid ((HK.out _).trans hk1)
 obtain ⟨bb',off',ak',an',ad',ast',al',ao',alen',acap',hoo,hae',e0,e1,e2,e3,e4,er⟩:=part_0 HV.out HK1.out.1
 simp only[Option.some.injEq,Addr.mk.injEq,and_true] at hoo
 obtain ⟨rfl,rfl⟩:=hoo
 have ER:=Lib.hid er
 have HAE:=Lib.hid hae'
 have HB1:=Lib.hid hb1
 have HX:=Lib.hid hbox
 clear hb1 hk1 hbox er hae' hae
 go_wp2_with fail
 have hs1:=HK1.out.size
 refine (HI.out a (by omega) HA.out _ _ _ HB1.out (by rw[HAE.out];exact ER.out) (by omega) (HE.out.kept HK1.out.1) (by simp only[List.length_append,List.length_cons,List.length_nil];omega)).mono ?_
 rintro e' w2 ⟨rfl,hb2,hk2⟩
 have hbox:=Box5.bkeep hk2 HX.out (by omega)
 obtain ⟨p0,p1,p2,p3,p4⟩:=hbox.cells
 obtain ⟨z0,z1,z2,z3,z4⟩:=hbox.free
 have HK2:=Lib.hid (HK1.out.trans hk2)
 obtain ⟨bb',off',ck,cn,cd,cs,cl,co,clen,ccap,hoo,hce,f0,f1,f2,f3,f4,fr⟩:=part_1 HV.out HK2.out.1
 simp only[Option.some.injEq,Addr.mk.injEq,and_true] at hoo
 obtain ⟨rfl,rfl⟩:=hoo
 have FR:=Lib.hid fr
 have HCE:=Lib.hid hce
 have HB2:=Lib.hid hb2
 have HX2:=Lib.hid hbox
 clear hb2 hk2 hbox fr hce q0 q1 q2 q3 q4 e0 e1 e2 e3 e4
 go_wp2_with fail
 obtain ⟨W3,hW3⟩:∃W3,set5 w2 w.heap.size (.int .i64 ck) (.int .i64 cn) (.int .i64 cd) (.string cs) (.slice co clen ccap)=W3:=⟨_,rfl⟩
 have hs2:=HK2.out.size
 have hI:PairI B b w.heap.size l0 w (Dat.all a+Dat.all c+1) (40::Dat.textP [a,c]) (Dat.all c) W3:=by
  refine ⟨ck,cn,cd,cs,cl,co,clen,ccap,[40]++Dat.text a false,?_,?_,?_,?_,?_,?_,?_,?_⟩
  ·rw[←hW3];exact HX2.out.set _ _ _ _ _
  ·rw[←hW3];exact FR.out.kept (set5_below _ _ _ _ _ _ _ _ hB)
  ·rw[←HCE.out];exact HC.out
  ·rw[←HCE.out];exact Nat.le_refl _
  ·have:=Dat.all_pos a;omega
  ·rw[←hW3]
   have:=set5_isB HB2.out HX2.out (by omega) (.int .i64 ck) (.int .i64 cn) (.int .i64 cd) (.string cs) (.slice co clen ccap)
   simpa using this
  ·rw[←hW3];exact set5_bkeep HK2.out (Nat.le_refl _) hB _ _ _ _ _
  ·rw[HTP.out,←HCE.out];simp
 unfold set5 at hW3
 rw[hW3]
 have HI0:=Lib.hid hI
 clear hI hW3 p0 p1 p2 p3 p4 z0 z1 z2 z3 z4 f0 f1 f2 f3 f4 HB2 HX2 FR HCE HAE ER HX HB1
 go_loopg [] (Dat.all c) (fun g wr=>PairI B b w.heap.size l0 w (Dat.all a+Dat.all c+1) (40::Dat.textP [a,c]) g wr)
 case atStart=>exact HI0.out
 case round=>
  obtain ⟨k,n1,d1,s1,l1,o1,len1,cap1,U,hbox,hrep,hri,hle,hN,hib,hbk,hT⟩:=hrel
  obtain ⟨q0,q1,q2,q3,q4⟩:=hbox.cells
  have hTl:U.length+(Dat.text (.mk k n1 d1 s1 l1) true).length=1+(Dat.textP [a,c]).length:=by
   have:=congrArg List.length hT
   simp at this;omega
  have hszr:=hbk.size
  have hlt1:=hbox.lt
  have HX:=Lib.hid hbox
  have HR:=Lib.hid hrep
  have HRI:=Lib.hid hri
  have HIB:=Lib.hid hib
  have HBK:=Lib.hid hbk
  have HT:=Lib.hid hT
  clear hbox hrep hri hib hbk hT
  by_cases k6:k=6
  ·subst k6
   obtain ⟨a',c',rfl,rfl,rfl,rfl,ha',hc'⟩:=right_pair HRI.out
   have HA':=Lib.hid ha'
   have HC':=Lib.hid hc'
   clear ha' hc'
   have hall:Dat.all (.mk 6 0 0 ⟨#[]⟩ [a',c'])=1+(Dat.all a'+(Dat.all c'+0)):=rfl
   rw[text_tail6] at hTl
   simp only[List.length_cons,List.length_append] at hTl
   obtain ⟨sl,hv,_,_,_,_,hs⟩:=HR.out.open
   simp only[Value.agg.injEq,Array.mk.injEq,List.cons.injEq,and_true,true_and] at hv
   obtain rfl:=hv
   have hl2:len1=2:=by obtain ⟨_,_,_,he,h2,_⟩:=hs;simp only[Value.slice.injEq] at he;rw[he.2.1,h2];rfl
   subst hl2
   have hcp:2≤cap1∧cap1≤9223372036854775807:=by obtain ⟨_,_,_,he,h2,h3,h4,_⟩:=hs;simp only[Value.slice.injEq] at he;omega
   have HS:=Lib.hid hs
   obtain ⟨bb,off,ho⟩:∃bb off,o1=some ⟨bb,off,none⟩:=by
    obtain ⟨bb,off,_,_,_,_,_,_,_,_,ho,_⟩:=part_0 hs (Below.refl B wr);exact ⟨bb,off,ho⟩
   subst ho
   clear hs
   go_wp2_with fail
   refine (writeString_to B b _ [32] _ _ rfl HIB.out (by simp only[List.length_append,List.length_cons,List.length_nil];omega) (by omega)).mono ?_
   rintro e' w1 ⟨rfl,hb1,hk1⟩
   have hbox:=Box5.bkeep hk1 HX.out (by omega)
   obtain ⟨p0,p1,p2,p3,p4⟩:=hbox.cells
   obtain ⟨bb',off',ak',an',ad',ast',al',ao',alen',acap',hoo,hae',e0,e1,e2,e3,e4,er⟩:=part_0 HS.out hk1.1
   simp only[Option.some.injEq,Addr.mk.injEq,and_true] at hoo
   obtain ⟨rfl,rfl⟩:=hoo
   have HK1:=Lib.hid (HBK.out.trans hk1)
   have HKr:=Lib.hid hk1
   have ER:=Lib.hid er
   have HAE:=Lib.hid hae'
   have HB1:=Lib.hid hb1
   have HX1:=Lib.hid hbox
   have hs1:=hk1.size
   clear hb1 hk1 hbox er hae' q0 q1 q2 q3 q4
   go_wp2_with fail
   refine (HI.out a' (by omega) HA'.out _ _ _ HB1.out (by rw[HAE.out];exact ER.out) (by omega) (HE.out.kept HK1.out.1) (by simp only[List.length_append,List.length_cons,List.length_nil];omega)).mono ?_
   rintro e' w2 ⟨rfl,hb2,hk2⟩
   have hbox:=Box5.bkeep hk2 HX1.out (by omega)
   obtain ⟨r0,r1,r2,r3,r4⟩:=hbox.cells
   obtain ⟨z0,z1,z2,z3,z4⟩:=hbox.free
   obtain ⟨bb',off',ck,cn,cd,cs,cl,co,clen,ccap,hoo,hce,f0,f1,f2,f3,f4,fr⟩:=part_1 HS.out (HKr.out.trans hk2).1
   simp only[Option.some.injEq,Addr.mk.injEq,and_true] at hoo
   obtain ⟨rfl,rfl⟩:=hoo
   have HK2:=Lib.hid (HK1.out.trans hk2)
   have FR:=Lib.hid fr
   have HCE:=Lib.hid hce
   have HB2:=Lib.hid hb2
   have HX2:=Lib.hid hbox
   have hs2:=hk2.size
   clear hb2 hk2 hbox fr hce e0 e1 e2 e3 e4 p0 p1 p2 p3 p4
   go_wp2_with fail
   go_roundg (Dat.all c')
   case measure=>omega
   case rel=>
    refine ⟨ck,cn,cd,cs,cl,co,clen,ccap,U++[32]++Dat.text a' false,HX2.out.set _ _ _ _ _,FR.out.kept (set5_below _ _ _ _ _ _ _ _ hB),?_,?_,?_,?_,set5_bkeep HK2.out (Nat.le_refl _) hB _ _ _ _ _,?_⟩
    ·rw[←HCE.out];exact HC'.out
    ·rw[←HCE.out];exact Nat.le_refl _
    ·omega
    ·have:=set5_isB HB2.out HX2.out (by omega) (.int .i64 ck) (.int .i64 cn) (.int .i64 cd) (.string cs) (.slice co clen ccap)
     simpa using this
    ·rw[←HT.out,text_tail6,←HCE.out];simp
  by_cases k4:k=4
  ·subst k4
   rw[text_tail4] at hTl
   simp only[List.length_nil] at hTl
   go_wp2_with fail
   refine (writeString_to B b _ [41] _ _ rfl HIB.out (by simp only[List.length_append,List.length_cons,List.length_nil];omega) (by omega)).mono ?_
   rintro e' w1 ⟨rfl,hb1,hk1⟩
   go_wp2
   go_end0
   refine ⟨rfl,?_,HBK.out.trans hk1⟩
   have:=HT.out
   rw[text_tail4,List.append_nil] at this
   rw[this] at hb1
   simpa using hb1
  ·rw[text_tail k n1 d1 s1 l1 k6 k4] at hTl
   simp only[List.length_append,List.length_cons,List.length_nil] at hTl
   have k6':(k==6)=false:=by simpa using k6
   have k4':(k != 4)=true:=by simpa using k4
   go_wp2_with fail
   refine (writeString_to B b _ [32,46,32] _ _ rfl HIB.out (by simp only[List.length_append,List.length_cons,List.length_nil];omega) (by omega)).mono ?_
   rintro e' w1 ⟨rfl,hb1,hk1⟩
   have hbox:=Box5.bkeep hk1 HX.out (by omega)
   obtain ⟨p0,p1,p2,p3,p4⟩:=hbox.cells
   have HK1:=Lib.hid (HBK.out.trans hk1)
   have HR1:=Lib.hid (HR.out.kept hk1.1)
   have HB1:=Lib.hid hb1
   have hs1:=hk1.size
   clear hb1 hk1 hbox q0 q1 q2 q3 q4
   go_wp2_with fail
   refine (HI.out _ (by omega) HRI.out _ _ _ HB1.out HR1.out (by omega) (HE.out.kept HK1.out.1) (by simp only[List.length_append,List.length_cons,List.length_nil];omega)).mono ?_
   rintro e' w2 ⟨rfl,hb2,hk2⟩
   have HK2:=Lib.hid (HK1.out.trans hk2)
   have HB2:=Lib.hid hb2
   have hs2:=hk2.size
   clear hb2 hk2
   go_wp2_with fail
   refine (writeString_to B b _ [41] _ _ rfl HB2.out (by simp only[List.length_append,List.length_cons,List.length_nil];omega) (by omega)).mono ?_
   rintro e' w3 ⟨rfl,hb3,hk3⟩
   go_wp2
   go_end0
   refine ⟨rfl,?_,HK2.out.trans hk3⟩
   have:=HT.out
   rw[text_tail k n1 d1 s1 l1 k6 k4] at this
   have e:l0++U++[32,46,32]++Dat.text (.mk k n1 d1 s1 l1) false++[41]=l0++40::(Dat.textP [a,c]++[41]):=by
    rw[show l0++40::(Dat.textP [a,c]++[41])=l0++(40::Dat.textP [a,c])++[41] by simp,←this];simp
   rw[←e];exact hb3
end
section
open Go.RowKit
theorem head_ways {k n d:Int} {s:List UInt8} {len:Nat} (h:Dat.head k n d s len=true) :
  (k=0∧Num.right n d=true)∨(k=1∧(n=0∨n=1))∨k=2∨k=3∨k=4∨k=5∨(k=6∧len=2)∨k=7:=by
 unfold Dat.head at h
 by_cases k0:k=0
 ·rw[if_pos k0] at h;simp only[Bool.and_eq_true] at h;exact .inl ⟨k0,h.1⟩
 rw[if_neg k0] at h
 by_cases k1:k=1
 ·rw[if_pos k1] at h;simp only[Bool.and_eq_true,decide_eq_true_eq] at h;exact .inr (.inl ⟨k1,h.2.1⟩)
 rw[if_neg k1] at h
 by_cases k2:k=2
 ·exact .inr (.inr (.inl k2))
 rw[if_neg k2] at h
 by_cases k3:k=3
 ·exact .inr (.inr (.inr (.inl k3)))
 rw[if_neg k3] at h
 by_cases k4:k=4
 ·exact .inr (.inr (.inr (.inr (.inl k4))))
 by_cases k5:k=5
 ·exact .inr (.inr (.inr (.inr (.inr (.inl k5)))))
 rw[if_neg (by omega)] at h
 by_cases k6:k=6
 ·rw[if_pos k6] at h;simp only[Bool.and_eq_true,decide_eq_true_eq] at h;exact .inr (.inr (.inr (.inr (.inr (.inr (.inl ⟨k6,h.2.2.2⟩))))))
 rw[if_neg k6] at h
 by_cases k7:k=7
 ·exact .inr (.inr (.inr (.inr (.inr (.inr (.inr k7))))))
 rw[if_neg k7] at h;cases h
theorem write_all (B b:Nat):∀(N:Nat) (x:Dat),Dat.all x<N→Dat.right x 0=true→Writes B b x:=by
 intro N
 induction N with
 | zero=>intro x h;omega
 | succ N ih=>
  intro x hx hr v l1 W hb hv hB hE hl
  obtain ⟨k,n,d,s,l⟩:=x
  obtain ⟨sl,rfl,bk,bn,bd,bs,hs⟩:=hv.open
  have hr2:=hr
  simp only[Dat.right,Bool.and_eq_true,decide_eq_true_eq] at hr
  have hw:=head_ways hr.2.1
  rw[Dat.text] at hl ⊢
  obtain ⟨o,len,cap,rfl,hrest⟩:=hs
  have HS:RepS W B l (.slice o len cap):=⟨o,len,cap,rfl,hrest⟩
  rcases hw with ⟨rfl,_⟩ | ⟨rfl,rfl | rfl⟩ | rfl | rfl | rfl | rfl | ⟨rfl,h2⟩ | rfl
  ·rw[if_neg (by omega),if_neg (by simp),Dat.textA,if_pos rfl] at hl ⊢
   exact write_0 B b l1 n d s o len cap W hb hB hE bn.1 bn.2 bd.1 bd.2 _ rfl hl
  ·rw[if_neg (by omega),if_neg (by simp),Dat.textA,if_neg (by omega),if_pos rfl,if_neg (by omega)] at hl ⊢
   exact write_1a B b l1 d s o len cap W hb hB hl
  ·rw[if_neg (by omega),if_neg (by simp),Dat.textA,if_neg (by omega),if_pos rfl,if_pos rfl] at hl ⊢
   exact write_1b B b l1 d s o len cap W hb hB hl
  ·rw[if_neg (by omega),if_neg (by simp),Dat.textA,if_neg (by omega),if_neg (by omega),if_pos rfl] at hl ⊢
   exact write_2 B b l1 n d s o len cap W hb hB hl
  ·rw[if_neg (by omega),if_neg (by simp),Dat.textA,if_neg (by omega),if_neg (by omega),if_neg (by omega),if_pos rfl] at hl ⊢
   exact write_3 B b l1 n d s o len cap W hb hB bs hl
  ·rw[if_neg (by omega),if_neg (by simp),Dat.textA,if_neg (by omega),if_neg (by omega),if_neg (by omega),if_neg (by omega),if_pos rfl] at hl ⊢
   exact write_4 B b l1 n d s o len cap W hb hB hl
  ·rw[if_neg (by omega),if_neg (by simp),Dat.textA,if_neg (by omega),if_neg (by omega),if_neg (by omega),if_neg (by omega),if_neg (by omega),if_pos rfl] at hl ⊢
   exact write_5 B b l1 n d s o len cap W hb hB hl
  ·obtain ⟨a,c,rfl,rfl,rfl,rfl,ha,hc⟩:=right_pair hr2
   rw[if_pos rfl,if_neg (by simp)] at hl ⊢
   have hall:Dat.all (.mk 6 0 0 ⟨#[]⟩ [a,c])=1+(Dat.all a+(Dat.all c+0)):=rfl
   exact write_6 B b l1 0 0 ⟨#[]⟩ a c _ W hb hB hE HS ha hc (fun y hy hyr=>ih y (by omega) hyr) hl
  ·rw[if_neg (by omega),if_neg (by simp),Dat.textA,if_neg (by omega),if_neg (by omega),if_neg (by omega),if_neg (by omega),if_neg (by omega),if_neg (by omega)] at hl ⊢
   have hall:Dat.all (.mk 7 n d s l)=1+Dat.allL l:=rfl
   exact write_7 B b l1 n d s l _ W hb hB hE HS (fun y hy=>ih y (by have:=Dat.all_mem hy;omega) (Dat.right_part hr2 hy)) hl
theorem write_any (B b:Nat) (x:Dat) (hr:Dat.right x 0=true):Writes B b x:=write_all B b (Dat.all x+1) x (by omega) hr
def Dat.full (x:Dat):List UInt8:=if Dat.right x 0 then Dat.text x false else []
theorem dtext_any (x:Dat) (v:Value) (B:Nat) (w:World) (hv:RepD w B x v) (hB:B≤w.heap.size) (hE:Env w) (hl:Dat.right x 0=true→(Dat.text x false).length≤140737488355328) :
  Calls Tryz.prog 70 #[v] w fun e w'=>e=.returned (.string ⟨(Dat.full x).toArray⟩)∧Below w.heap.size w w':=by
 obtain ⟨k,n,d,s,o,len,cap,rfl⟩:=agg_of hv
 have HV:=Lib.hid hv
 have HE:=Lib.hid hE
 have HL:=Lib.hid hl
 have HK:=Lib.hid (fun X=>(Below.refl w.heap.size w).alloc (Nat.le_refl _) X)
 have C1:=Lib.hid (fun W (hb:Below w.heap.size w W)=>dright_any x _ B W (HV.out.kept (hb.mono hB)) (Nat.le_trans hB hb.size))
 clear hv hE hl
 cases hr:Dat.right x 0 with
 | false=>
  have HF:=Lib.hid (show Dat.full x=[] by unfold Dat.full;rw[hr];rfl)
  rw[hr] at C1
  clear hr
  go_enter Tryz.func70,Tryz.ntmps70
  go_wp2_with fail
  refine (C1.out _ (HK.out _)).mono ?_
  rintro e' w1 ⟨rfl,hb1⟩
  go_wp2
  go_ret
  exact ⟨by rw[HF.out];rfl,one_below hb1⟩
 | true=>
  have HF:=Lib.hid (show Dat.full x=Dat.text x false by unfold Dat.full;rw[hr];rfl)
  rw[hr] at C1
  have HR:=Lib.hid hr
  clear hr
  go_enter Tryz.func70,Tryz.ntmps70
  go_wp2_with fail
  refine (C1.out _ (HK.out _)).mono ?_
  rintro e' w1 ⟨rfl,hb1⟩
  have hz:=one_size hb1
  have z0:w.heap.size<w1.heap.size:=by omega
  obtain ⟨q0,q1,q2,q3,q4⟩:=one_five hb1
  have HB:=Lib.hid (one_below hb1)
  clear hb1
  go_wp2_with fail
  have HW:=Lib.hid ((Below.refl w1.heap.size w1).alloc (Nat.le_refl _) (.cells #[.pointer none,.slice none 0 0] 121))
  refine (write_any w1.heap.size w1.heap.size x HR.out _ [] _ (IsB.fresh w1 _ rfl) ((HV.out.kept ((Below.next HB.out HW.out).mono hB)).wider (by omega)) (by simp) ((EnvAt.of (HE.out.below HB.out)).kept HW.out) (by simpa using HL.out HR.out)).mono ?_
  rintro e' w2 ⟨rfl,hb2,hk2⟩
  have HB2:=Lib.hid hb2
  have HK2:=Lib.hid hk2
  clear hb2 hk2
  go_wp2_with fail
  refine (bstring_any w1.heap.size w1.heap.size _ w2 HB2.out (by have:=HK2.out.size;simp at this;omega)).mono ?_
  rintro e' w3 ⟨rfl,hb3⟩
  go_wp2
  go_ret
  refine ⟨by rw[HF.out];rfl,?_⟩
  exact HB.out.trans (((HW.out.trans HK2.out.1).trans hb3).mono (by omega))
end
end Go.Proofs.YtgbibibmpoekiaaGreatDoor
