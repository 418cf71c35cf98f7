/- .. -/
import Derived.Deep.LoopGhost
import Derived.OwnWalk
import Derived.IntWalk
import Derived.Laws.OwnMore
import Derived.BigRegion
import Derived.Test.YtnbjhmafnigefaaGreatDoorSmkA04
open Go.Proofs.Tryz
set_option maxRecDepth 100000
set_option maxHeartbeats 16000000
namespace Go.Proofs.YtnbjhmafnigefaaGreatDoor
section
open Go.RowKit
theorem zh4 {B b H:Nat} {l:List UInt8} {W:World} {c0 c1 c2 c3 c4:Value} (h:IsB B b l W) (hx:Box5 W H 26 c0 c1 c2 c3 c4) (hH:H≠b) (d0 d1 d2 d3 d4:Value):IsB B b l (set5 W H d0 d1 d2 d3 d4):=by
 have hg:W.grownBy (set5 W H d0 d1 d2 d3 d4) (some H):=⟨(zah W H H d0 d1 d2 d3 d4 (Nat.le_refl _)).os,(zah W H H d0 d1 d2 d3 d4 (Nat.le_refl _)).tape,(zah W H H d0 d1 d2 d3 d4 (Nat.le_refl _)).output,(zah W H H d0 d1 d2 d3 d4 (Nat.le_refl _)).size,fun k _ hk=>zal _ _ _ _ _ _ _ (by simpa using hk)⟩
 have one:∀p,Lib.BuilderAtF 60 5 B b p (Lib.byteCells l) W→Lib.BuilderAtF 60 5 B b p (Lib.byteCells l) (set5 W H d0 d1 d2 d3 d4):=by
  rintro p ⟨hB,v,hb,hown,hne⟩
  exact ⟨hB,v,(zal _ _ _ _ _ _ _ (Ne.symm hH)).trans hb,hown.kept hg (.inr (Lib.ownBlock_neF hown hx (by decide))),hne⟩
 exact h.elim (fun x=>.inl (one _ x)) (fun x=>.inr (one _ x))
theorem zeN {B b H:Nat} {w W:World} (h:BKeep B b w W) (hH:w.heap.size≤H) (hB:B≤H) (d0 d1 d2 d3 d4:Value):BKeep B b w (set5 W H d0 d1 d2 d3 d4):=
 ⟨h.1.trans (zah _ _ _ _ _ _ _ _ hB),fun k o hk hb ho=>(zal _ _ _ _ _ _ _ (by have:=(Array.getElem?_eq_some_iff.1 hk).1;omega)).trans (h.2 k o hk hb ho)⟩
def Writes (B b:Nat) (x:Dat):Prop:=∀(v:Value) (l1:List UInt8) (W:World),IsB B b l1 W→RepD W B x v→B≤W.heap.size→EnvAt B W→l1.length+(Dat.text x false).length≤140737488355328 →
 Calls prog 38 #[.pointer (some ⟨b,0,none⟩),v] W (WPost B b (l1++Dat.text x false) W)
theorem zeQ {n d:Int} {s:ByteArray} {l:List Dat} {deep:Nat} (h:Dat.right (.mk 6 n d s l) deep=true):∃a c,l=[a,c]∧n=0∧d=0∧s=⟨#[]⟩∧Dat.right a 0=true∧Dat.right c 0=true:=by
 have h2:=h
 simp[Dat.right,Dat.head] at h
 obtain ⟨_,⟨hd,hn,hs,hl⟩,_⟩:=h
 match l,hl with
 | [a,c],_=>
  refine ⟨a,c,rfl,hn,hd,?_,Dat.right_part h2 (by simp[Dat.l]),Dat.right_part h2 (by simp[Dat.l])⟩
  exact ByteArray.ext hs
theorem zhN {w wr:World} {B:Nat} {a c:Dat} {o:Option Addr} {len cap:Nat} (h:RepS w B [a,c] (.slice o len cap)) (hb:Below B w wr) :
  ∃b off k n d s l' o' len' cap',o=some ⟨b,off,none⟩∧a=.mk k n d s l'∧wr.cell? ⟨b,off,none⟩=some (.int .i64 k)∧wr.cell? ⟨b,off+1,none⟩=some (.int .i64 n)∧wr.cell? ⟨b,off+2,none⟩=some (.int .i64 d) ∧
   wr.cell? ⟨b,off+3,none⟩=some (.string s)∧wr.cell? ⟨b,off+4,none⟩=some (.slice o' len' cap')∧RepD wr B (.mk k n d s l') (.agg #[.int .i64 k,.int .i64 n,.int .i64 d,.string s,.slice o' len' cap']):=by
 obtain ⟨o2,len2,cap2,he,_,_,_,h2⟩:=h
 simp only[Value.slice.injEq] at he
 obtain ⟨rfl,rfl,rfl⟩:=he
 have:=zay (j:=0) (x:=a) h2 hb rfl
 simpa using this
theorem zlO {w wr:World} {B:Nat} {a c:Dat} {o:Option Addr} {len cap:Nat} (h:RepS w B [a,c] (.slice o len cap)) (hb:Below B w wr) :
  ∃b off k n d s l' o' len' cap',o=some ⟨b,off,none⟩∧c=.mk k n d s l'∧wr.cell? ⟨b,off+5,none⟩=some (.int .i64 k)∧wr.cell? ⟨b,off+6,none⟩=some (.int .i64 n)∧wr.cell? ⟨b,off+7,none⟩=some (.int .i64 d) ∧
   wr.cell? ⟨b,off+8,none⟩=some (.string s)∧wr.cell? ⟨b,off+9,none⟩=some (.slice o' len' cap')∧RepD wr B (.mk k n d s l') (.agg #[.int .i64 k,.int .i64 n,.int .i64 d,.string s,.slice o' len' cap']):=by
 obtain ⟨o2,len2,cap2,he,_,_,_,h2⟩:=h
 simp only[Value.slice.injEq] at he
 obtain ⟨rfl,rfl,rfl⟩:=he
 have:=zay (j:=1) (x:=c) h2 hb rfl
 simpa using this
def PairI (B b H:Nat) (l0:List UInt8) (w:World) (N:Nat) (T:List UInt8) (g:Nat) (wr:World):Prop:=
 ∃(k n d:Int) (s:ByteArray) (l:List Dat) (o:Option Addr) (len cap:Nat) (U:List UInt8),Box5 wr H 26 (.int .i64 k) (.int .i64 n) (.int .i64 d) (.string s) (.slice o len cap)∧RepD wr B (.mk k n d s l) (.agg #[.int .i64 k,.int .i64 n,.int .i64 d,.string s,.slice o len cap]) ∧
  Dat.right (.mk k n d s l) 0=true∧Dat.all (.mk k n d s l)≤g∧g<N∧IsB B b (l0++U) wr∧BKeep B b w wr∧U++Dat.text (.mk k n d s l) true=T
theorem zeL (n d:Int) (s:ByteArray) (a c:Dat):Dat.text (.mk 6 n d s [a,c]) true=32::(Dat.text a false++Dat.text c true):=by
 rw[Dat.text,if_pos rfl,Dat.textP];rfl
theorem ze7 (n d:Int) (s:ByteArray) (l:List Dat):Dat.text (.mk 4 n d s l) true=[]:=by
 rw[Dat.text,if_neg (by omega)];rfl
theorem zgx (k n d:Int) (s:ByteArray) (l:List Dat) (h6:¬k=6) (h4:¬k=4):Dat.text (.mk k n d s l) true=[32,46,32]++Dat.text (.mk k n d s l) false:=by
 rw[Dat.text,Dat.text,if_neg h6,if_neg h6,if_pos rfl,if_neg h4];rfl
theorem zl3 (B b:Nat) (l0:List UInt8) (n d:Int) (s:ByteArray) (a c:Dat) (sl:Value) (w:World) (hb:IsB B b l0 w) (hB:B≤w.heap.size) (hE:EnvAt B w) (hv:RepS w B [a,c] sl) (ha:Dat.right a 0=true) (hc:Dat.right c 0=true)
  (IH:∀x,Dat.all x<Dat.all a+Dat.all c+1→Dat.right x 0=true→Writes B b x)
  (hl:l0.length+(40::(Dat.textP [a,c]++[41])).length≤140737488355328) :
  Calls prog 38 #[.pointer (some ⟨b,0,none⟩),.agg #[.int .i64 6,.int .i64 n,.int .i64 d,.string s,sl]] w (WPost B b (l0++(40::(Dat.textP [a,c]++[41]))) w):=by
 obtain ⟨o,len,cap,rfl,hlen,hcap,hmax,hcc⟩:=hv
 obtain rfl:len=2:=hlen
 replace hcc:RepS w B [a,c] (.slice o 2 cap):=⟨o,2,cap,rfl,rfl,hcap,hmax,hcc⟩
 obtain ⟨bb,off,ak,an,ad,ast,al,ao,alen,acap,rfl,hae,e0,e1,e2,e3,e4,er⟩:=zhN hcc (Below.refl B w)
 have HK:=zh (fun X=>zaH (b:=b) hB X)
 have HB:=zh (fun X=>za1 hb X)
 have HE:=zh hE
 have HV:=zh hcc
 have HI:=zh IH
 have HA:=zh ha
 have HC:=zh hc
 have hbw:=hb.lt
 have hbB:=hb.base
 have hlen2:l0.length+1+(Dat.textP [a,c]).length+1≤140737488355328:=by simp at hl;omega
 have hTP:Dat.textP [a,c]=Dat.text a false++Dat.text c true:=by rw[Dat.textP]
 have HTP:=zh hTP
 have hlt:(Dat.textP [a,c]).length=(Dat.text a false).length+(Dat.text c true).length:=by rw[hTP,List.length_append]
 clear hE hcc IH hl hb ha hc hTP e0 e1 e2 e3 e4 er
 go_enter func38,ntmps38
 go_wp2_with fail
 refine (zax B b l0 [40] _ _ rfl (HB.out _) (by simp;omega) (by simp;omega)).mono ?_
 rintro e' w1 ⟨rfl,hb1,hk1⟩
 have hbox:=Box5.bkeep hk1 (Box5.new w 26 _ _ _ _ _) (by omega)
 obtain ⟨q0,q1,q2,q3,q4⟩:=hbox.cells
 have HK1:=zh ((HK.out _).trans hk1)
 obtain ⟨bb',off',ak',an',ad',ast',al',ao',alen',acap',hoo,hae',e0,e1,e2,e3,e4,er⟩:=zhN HV.out HK1.out.1
 simp only[Option.some.injEq,Addr.mk.injEq,and_true] at hoo
 obtain ⟨rfl,rfl⟩:=hoo
 have ER:=zh er
 have HAE:=zh hae'
 have HB1:=zh hb1
 have HX:=zh hbox
 clear hb1 hk1 hbox er hae' hae
 go_wp2_with fail
 have hs1:=HK1.out.size
 refine (HI.out a (by omega) HA.out _ _ _ HB1.out (by rw[HAE.out];exact ER.out) (by omega) (HE.out.kept HK1.out.1) (by simp only[List.length_append,List.length_cons,List.length_nil];omega)).mono ?_
 rintro e' w2 ⟨rfl,hb2,hk2⟩
 have hbox:=Box5.bkeep hk2 HX.out (by omega)
 obtain ⟨p0,p1,p2,p3,p4⟩:=hbox.cells
 obtain ⟨z0,z1,z2,z3,z4⟩:=hbox.free
 have HK2:=zh (HK1.out.trans hk2)
 obtain ⟨bb',off',ck,cn,cd,cs,cl,co,clen,ccap,hoo,hce,f0,f1,f2,f3,f4,fr⟩:=zlO HV.out HK2.out.1
 simp only[Option.some.injEq,Addr.mk.injEq,and_true] at hoo
 obtain ⟨rfl,rfl⟩:=hoo
 have FR:=zh fr
 have HCE:=zh hce
 have HB2:=zh hb2
 have HX2:=zh hbox
 clear hb2 hk2 hbox fr hce q0 q1 q2 q3 q4 e0 e1 e2 e3 e4
 go_wp2_with fail
 obtain ⟨W3,hW3⟩:∃W3,set5 w2 w.heap.size (.int .i64 ck) (.int .i64 cn) (.int .i64 cd) (.string cs) (.slice co clen ccap)=W3:=⟨_,rfl⟩
 have hs2:=HK2.out.size
 have hI:PairI B b w.heap.size l0 w (Dat.all a+Dat.all c+1) (40::Dat.textP [a,c]) (Dat.all c) W3:=by
  refine ⟨ck,cn,cd,cs,cl,co,clen,ccap,[40]++Dat.text a false,?_,?_,?_,?_,?_,?_,?_,?_⟩
  ·rw[←hW3];exact HX2.out.set _ _ _ _ _
  ·rw[←hW3];exact FR.out.kept (zah _ _ _ _ _ _ _ _ hB)
  ·rw[←HCE.out];exact HC.out
  ·rw[←HCE.out];exact Nat.le_refl _
  ·have:=Dat.all_pos a;omega
  ·rw[←hW3]
   have:=zh4 HB2.out HX2.out (by omega) (.int .i64 ck) (.int .i64 cn) (.int .i64 cd) (.string cs) (.slice co clen ccap)
   simpa using this
  ·rw[←hW3];exact zeN HK2.out (Nat.le_refl _) hB _ _ _ _ _
  ·rw[HTP.out,←HCE.out];simp
 unfold set5 at hW3
 rw[hW3]
 have HI0:=zh hI
 clear hI hW3 p0 p1 p2 p3 p4 z0 z1 z2 z3 z4 f0 f1 f2 f3 f4 HB2 HX2 FR HCE HAE ER HX HB1
 go_loopg [] (Dat.all c) (fun g wr=>PairI B b w.heap.size l0 w (Dat.all a+Dat.all c+1) (40::Dat.textP [a,c]) g wr)
 case atStart=>exact HI0.out
 case round=>
  obtain ⟨k,n1,d1,s1,l1,o1,len1,cap1,U,hbox,hrep,hri,hle,hN,hib,hbk,hT⟩:=hrel
  obtain ⟨q0,q1,q2,q3,q4⟩:=hbox.cells
  have hTl:U.length+(Dat.text (.mk k n1 d1 s1 l1) true).length=1+(Dat.textP [a,c]).length:=by
   have:=congrArg List.length hT
   simp at this;omega
  have hszr:=hbk.size
  have hlt1:=hbox.lt
  have HX:=zh hbox
  have HR:=zh hrep
  have HRI:=zh hri
  have HIB:=zh hib
  have HBK:=zh hbk
  have HT:=zh hT
  clear hbox hrep hri hib hbk hT
  by_cases k6:k=6
  ·subst k6
   obtain ⟨a',c',rfl,rfl,rfl,rfl,ha',hc'⟩:=zeQ HRI.out
   have HA':=zh ha'
   have HC':=zh hc'
   clear ha' hc'
   have hall:Dat.all (.mk 6 0 0 ⟨#[]⟩ [a',c'])=1+(Dat.all a'+(Dat.all c'+0)):=rfl
   rw[zeL] at hTl
   simp only[List.length_cons,List.length_append] at hTl
   obtain ⟨sl,hv,_,_,_,_,hs⟩:=HR.out.open
   simp only[Value.agg.injEq,Array.mk.injEq,List.cons.injEq,and_true,true_and] at hv
   obtain rfl:=hv
   have hl2:len1=2:=by obtain ⟨_,_,_,he,h2,_⟩:=hs;simp only[Value.slice.injEq] at he;rw[he.2.1,h2];rfl
   subst hl2
   have hcp:2≤cap1∧cap1≤9223372036854775807:=by obtain ⟨_,_,_,he,h2,h3,h4,_⟩:=hs;simp only[Value.slice.injEq] at he;omega
   have HS:=zh hs
   obtain ⟨bb,off,ho⟩:∃bb off,o1=some ⟨bb,off,none⟩:=by
    obtain ⟨bb,off,_,_,_,_,_,_,_,_,ho,_⟩:=zhN hs (Below.refl B wr);exact ⟨bb,off,ho⟩
   subst ho
   clear hs
   go_wp2_with fail
   refine (zax B b _ [32] _ _ rfl HIB.out (by simp only[List.length_append,List.length_cons,List.length_nil];omega) (by omega)).mono ?_
   rintro e' w1 ⟨rfl,hb1,hk1⟩
   have hbox:=Box5.bkeep hk1 HX.out (by omega)
   obtain ⟨p0,p1,p2,p3,p4⟩:=hbox.cells
   obtain ⟨bb',off',ak',an',ad',ast',al',ao',alen',acap',hoo,hae',e0,e1,e2,e3,e4,er⟩:=zhN HS.out hk1.1
   simp only[Option.some.injEq,Addr.mk.injEq,and_true] at hoo
   obtain ⟨rfl,rfl⟩:=hoo
   have HK1:=zh (HBK.out.trans hk1)
   have HKr:=zh hk1
   have ER:=zh er
   have HAE:=zh hae'
   have HB1:=zh hb1
   have HX1:=zh hbox
   have hs1:=hk1.size
   clear hb1 hk1 hbox er hae' q0 q1 q2 q3 q4
   go_wp2_with fail
   refine (HI.out a' (by omega) HA'.out _ _ _ HB1.out (by rw[HAE.out];exact ER.out) (by omega) (HE.out.kept HK1.out.1) (by simp only[List.length_append,List.length_cons,List.length_nil];omega)).mono ?_
   rintro e' w2 ⟨rfl,hb2,hk2⟩
   have hbox:=Box5.bkeep hk2 HX1.out (by omega)
   obtain ⟨r0,r1,r2,r3,r4⟩:=hbox.cells
   obtain ⟨z0,z1,z2,z3,z4⟩:=hbox.free
   obtain ⟨bb',off',ck,cn,cd,cs,cl,co,clen,ccap,hoo,hce,f0,f1,f2,f3,f4,fr⟩:=zlO HS.out (HKr.out.trans hk2).1
   simp only[Option.some.injEq,Addr.mk.injEq,and_true] at hoo
   obtain ⟨rfl,rfl⟩:=hoo
   have HK2:=zh (HK1.out.trans hk2)
   have FR:=zh fr
   have HCE:=zh hce
   have HB2:=zh hb2
   have HX2:=zh hbox
   have hs2:=hk2.size
   clear hb2 hk2 hbox fr hce e0 e1 e2 e3 e4 p0 p1 p2 p3 p4
   go_wp2_with fail
   go_roundg (Dat.all c')
   case measure=>omega
   case rel=>
    refine ⟨ck,cn,cd,cs,cl,co,clen,ccap,U++[32]++Dat.text a' false,HX2.out.set _ _ _ _ _,FR.out.kept (zah _ _ _ _ _ _ _ _ hB),?_,?_,?_,?_,zeN HK2.out (Nat.le_refl _) hB _ _ _ _ _,?_⟩
    ·rw[←HCE.out];exact HC'.out
    ·rw[←HCE.out];exact Nat.le_refl _
    ·omega
    ·have:=zh4 HB2.out HX2.out (by omega) (.int .i64 ck) (.int .i64 cn) (.int .i64 cd) (.string cs) (.slice co clen ccap)
     simpa using this
    ·rw[←HT.out,zeL,←HCE.out];simp
  by_cases k4:k=4
  ·subst k4
   rw[ze7] at hTl
   simp only[List.length_nil] at hTl
   go_wp2_with fail
   refine (zax B b _ [41] _ _ rfl HIB.out (by simp only[List.length_append,List.length_cons,List.length_nil];omega) (by omega)).mono ?_
   rintro e' w1 ⟨rfl,hb1,hk1⟩
   go_wp2
   go_end0
   refine ⟨rfl,?_,HBK.out.trans hk1⟩
   have:=HT.out
   rw[ze7,List.append_nil] at this
   rw[this] at hb1
   simpa using hb1
  ·rw[zgx k n1 d1 s1 l1 k6 k4] at hTl
   simp only[List.length_append,List.length_cons,List.length_nil] at hTl
   have k6':(k==6)=false:=by simpa using k6
   have k4':(k != 4)=true:=by simpa using k4
   go_wp2_with fail
   refine (zax B b _ [32,46,32] _ _ rfl HIB.out (by simp only[List.length_append,List.length_cons,List.length_nil];omega) (by omega)).mono ?_
   rintro e' w1 ⟨rfl,hb1,hk1⟩
   have hbox:=Box5.bkeep hk1 HX.out (by omega)
   obtain ⟨p0,p1,p2,p3,p4⟩:=hbox.cells
   have HK1:=zh (HBK.out.trans hk1)
   have HR1:=zh (HR.out.kept hk1.1)
   have HB1:=zh hb1
   have hs1:=hk1.size
   clear hb1 hk1 hbox q0 q1 q2 q3 q4
   go_wp2_with fail
   refine (HI.out _ (by omega) HRI.out _ _ _ HB1.out HR1.out (by omega) (HE.out.kept HK1.out.1) (by simp only[List.length_append,List.length_cons,List.length_nil];omega)).mono ?_
   rintro e' w2 ⟨rfl,hb2,hk2⟩
   have HK2:=zh (HK1.out.trans hk2)
   have HB2:=zh hb2
   have hs2:=hk2.size
   clear hb2 hk2
   go_wp2_with fail
   refine (zax B b _ [41] _ _ rfl HB2.out (by simp only[List.length_append,List.length_cons,List.length_nil];omega) (by omega)).mono ?_
   rintro e' w3 ⟨rfl,hb3,hk3⟩
   go_wp2
   go_end0
   refine ⟨rfl,?_,HK2.out.trans hk3⟩
   have:=HT.out
   rw[zgx k n1 d1 s1 l1 k6 k4] at this
   have e:l0++U++[32,46,32]++Dat.text (.mk k n1 d1 s1 l1) false++[41]=l0++40::(Dat.textP [a,c]++[41]):=by
    rw[show l0++40::(Dat.textP [a,c]++[41])=l0++(40::Dat.textP [a,c])++[41] by simp,←this];simp
   rw[←e];exact hb3
end
section
open Go.RowKit
theorem zkB {k n d:Int} {s:List UInt8} {len:Nat} (h:Dat.head k n d s len=true) :
  (k=0∧Num.right n d=true)∨(k=1∧(n=0∨n=1))∨k=2∨k=3∨k=4∨k=5∨(k=6∧len=2)∨k=7:=by
 unfold Dat.head at h
 by_cases k0:k=0
 ·rw[if_pos k0] at h;simp only[Bool.and_eq_true] at h;exact .inl ⟨k0,h.1⟩
 rw[if_neg k0] at h
 by_cases k1:k=1
 ·rw[if_pos k1] at h;simp only[Bool.and_eq_true,decide_eq_true_eq] at h;exact .inr (.inl ⟨k1,h.2.1⟩)
 rw[if_neg k1] at h
 by_cases k2:k=2
 ·exact .inr (.inr (.inl k2))
 rw[if_neg k2] at h
 by_cases k3:k=3
 ·exact .inr (.inr (.inr (.inl k3)))
 rw[if_neg k3] at h
 by_cases k4:k=4
 ·exact .inr (.inr (.inr (.inr (.inl k4))))
 by_cases k5:k=5
 ·exact .inr (.inr (.inr (.inr (.inr (.inl k5)))))
 rw[if_neg (by omega)] at h
 by_cases k6:k=6
 ·rw[if_pos k6] at h;simp only[Bool.and_eq_true,decide_eq_true_eq] at h;exact .inr (.inr (.inr (.inr (.inr (.inr (.inl ⟨k6,h.2.2.2⟩))))))
 rw[if_neg k6] at h
 by_cases k7:k=7
 ·exact .inr (.inr (.inr (.inr (.inr (.inr (.inr k7))))))
 rw[if_neg k7] at h;cases h
theorem zjF (B b:Nat):∀(N:Nat) (x:Dat),Dat.all x<N→Dat.right x 0=true→Writes B b x:=by
 intro N
 induction N with
 | zero=>intro x h;omega
 | succ N ih=>
  intro x hx hr v l1 W hb hv hB hE hl
  obtain ⟨k,n,d,s,l⟩:=x
  obtain ⟨sl,rfl,bk,bn,bd,bs,hs⟩:=hv.open
  have hr2:=hr
  simp only[Dat.right,Bool.and_eq_true,decide_eq_true_eq] at hr
  have hw:=zkB hr.2.1
  rw[Dat.text] at hl ⊢
  obtain ⟨o,len,cap,rfl,hrest⟩:=hs
  have HS:RepS W B l (.slice o len cap):=⟨o,len,cap,rfl,hrest⟩
  rcases hw with ⟨rfl,_⟩ | ⟨rfl,rfl | rfl⟩ | rfl | rfl | rfl | rfl | ⟨rfl,h2⟩ | rfl
  ·rw[if_neg (by omega),if_neg (by simp),Dat.textA,if_pos rfl] at hl ⊢
   exact zlU B b l1 n d s o len cap W hb hB hE bn.1 bn.2 bd.1 bd.2 _ rfl hl
  ·rw[if_neg (by omega),if_neg (by simp),Dat.textA,if_neg (by omega),if_pos rfl,if_neg (by omega)] at hl ⊢
   exact zk2 B b l1 d s o len cap W hb hB hl
  ·rw[if_neg (by omega),if_neg (by simp),Dat.textA,if_neg (by omega),if_pos rfl,if_pos rfl] at hl ⊢
   exact zk8 B b l1 d s o len cap W hb hB hl
  ·rw[if_neg (by omega),if_neg (by simp),Dat.textA,if_neg (by omega),if_neg (by omega),if_pos rfl] at hl ⊢
   exact zlX B b l1 n d s o len cap W hb hB hl
  ·rw[if_neg (by omega),if_neg (by simp),Dat.textA,if_neg (by omega),if_neg (by omega),if_neg (by omega),if_pos rfl] at hl ⊢
   exact zlY B b l1 n d s o len cap W hb hB bs hl
  ·rw[if_neg (by omega),if_neg (by simp),Dat.textA,if_neg (by omega),if_neg (by omega),if_neg (by omega),if_neg (by omega),if_pos rfl] at hl ⊢
   exact zlW B b l1 n d s o len cap W hb hB hl
  ·rw[if_neg (by omega),if_neg (by simp),Dat.textA,if_neg (by omega),if_neg (by omega),if_neg (by omega),if_neg (by omega),if_neg (by omega),if_pos rfl] at hl ⊢
   exact zl0 B b l1 n d s o len cap W hb hB hl
  ·obtain ⟨a,c,rfl,rfl,rfl,rfl,ha,hc⟩:=zeQ hr2
   rw[if_pos rfl,if_neg (by simp)] at hl ⊢
   have hall:Dat.all (.mk 6 0 0 ⟨#[]⟩ [a,c])=1+(Dat.all a+(Dat.all c+0)):=rfl
   exact zl3 B b l1 0 0 ⟨#[]⟩ a c _ W hb hB hE HS ha hc (fun y hy hyr=>ih y (by omega) hyr) hl
  ·rw[if_neg (by omega),if_neg (by simp),Dat.textA,if_neg (by omega),if_neg (by omega),if_neg (by omega),if_neg (by omega),if_neg (by omega),if_neg (by omega)] at hl ⊢
   have hall:Dat.all (.mk 7 n d s l)=1+Dat.allL l:=rfl
   exact zmf B b l1 n d s l _ W hb hB hE HS (fun y hy=>ih y (by have:=Dat.all_mem hy;omega) (Dat.right_part hr2 hy)) hl
theorem zkh (B b:Nat) (x:Dat) (hr:Dat.right x 0=true):Writes B b x:=zjF B b (Dat.all x+1) x (by omega) hr
def Dat.full (x:Dat):List UInt8:=if Dat.right x 0 then Dat.text x false else []
theorem zgk (x:Dat) (v:Value) (B:Nat) (w:World) (hv:RepD w B x v) (hB:B≤w.heap.size) (hE:Env w) (hl:Dat.right x 0=true→(Dat.text x false).length≤140737488355328) :
  Calls prog 15 #[v] w fun e w'=>e=.returned (.string ⟨(Dat.full x).toArray⟩)∧Below w.heap.size w w':=by
 obtain ⟨k,n,d,s,o,len,cap,rfl⟩:=zae hv
 have HV:=zh hv
 have HE:=zh hE
 have HL:=zh hl
 have HK:=zh (fun X=>(Below.refl w.heap.size w).alloc (Nat.le_refl _) X)
 have C1:=zh (fun W (hb:Below w.heap.size w W)=>zbz x _ B W (HV.out.kept (hb.mono hB)) (Nat.le_trans hB hb.size))
 clear hv hE hl
 cases hr:Dat.right x 0 with
 | false=>
  have HF:=zh (show Dat.full x=[] by unfold Dat.full;rw[hr];rfl)
  rw[hr] at C1
  clear hr
  go_enter func15,ntmps15
  go_wp2_with fail
  refine (C1.out _ (HK.out _)).mono ?_
  rintro e' w1 ⟨rfl,hb1⟩
  go_wp2
  go_ret
  exact ⟨by rw[HF.out];rfl,zgh hb1⟩
 | true=>
  have HF:=zh (show Dat.full x=Dat.text x false by unfold Dat.full;rw[hr];rfl)
  rw[hr] at C1
  have HR:=zh hr
  clear hr
  go_enter func15,ntmps15
  go_wp2_with fail
  refine (C1.out _ (HK.out _)).mono ?_
  rintro e' w1 ⟨rfl,hb1⟩
  have hz:=zlv hb1
  have z0:w.heap.size<w1.heap.size:=by omega
  obtain ⟨q0,q1,q2,q3,q4⟩:=zkW hb1
  have HB:=zh (zgh hb1)
  clear hb1
  go_wp2_with fail
  have HW:=zh ((Below.refl w1.heap.size w1).alloc (Nat.le_refl _) (.cells #[.pointer none,.slice none 0 0] 60))
  refine (zkh w1.heap.size w1.heap.size x HR.out _ [] _ (IsB.fresh w1 _ rfl) ((HV.out.kept ((Below.next HB.out HW.out).mono hB)).wider (by omega)) (by simp) ((EnvAt.of (HE.out.below HB.out)).kept HW.out) (by simpa using HL.out HR.out)).mono ?_
  rintro e' w2 ⟨rfl,hb2,hk2⟩
  have HB2:=zh hb2
  have HK2:=zh hk2
  clear hb2 hk2
  go_wp2_with fail
  refine (zhv w1.heap.size w1.heap.size _ w2 HB2.out (by have:=HK2.out.size;simp at this;omega)).mono ?_
  rintro e' w3 ⟨rfl,hb3⟩
  go_wp2
  go_ret
  refine ⟨by rw[HF.out];rfl,?_⟩
  exact HB.out.trans (((HW.out.trans HK2.out.1).trans hb3).mono (by omega))
end
section
open Go.RowKit
theorem zgH:∀(l:List Dat) (left:Int),0≤left→(0≤Dat.fewL l left↔(Dat.allL l:Int)≤left)
 | [],left,h=>by simp[Dat.fewL,Dat.allL,h]
 | x::l,left,h=>by
  have hb:=Dat.few_both x left
  have hi:=Dat.few_iff x left
  rw[Dat.fewL,if_pos h,Dat.allL]
  by_cases hf:0≤Dat.few x left
  ·rw[zgH l _ hf,hb.1 (hi.1 hf)]
   omega
  ·have h1:¬(Dat.all x:Int)≤left:=fun hh=>hf (hi.2 hh)
   rw[zfH _ hf]
   constructor
   ·intro hh;exact absurd hh hf
   ·intro hh;omega
theorem zir (l:List Dat) (sl:Value) (left:Int) (B:Nat) (w:World) (hv:RepS w B l sl) (hB:B≤w.heap.size) (h0:0≤left) (h1:left≤100000) (r:Bool) (hr:decide ((Dat.allL l:Int)≤left)=r) :
  Calls prog 23 #[sl,.int .i64 left] w fun e w'=>e=.returned (.bool r)∧Below w.heap.size w w':=by
 obtain ⟨o,len,cap,rfl,hl,hcap,hmax,hc⟩:=hv
 have HV:=zh hc
 have HL:=zh hl
 have HR:=zh (show decide (0≤Dat.fewL l left)=r by rw[←hr,Bool.eq_iff_iff];simp only[decide_eq_true_eq];exact zgH l left h0)
 clear hc hl hr
 go_enter func23,ntmps23
 go_wp2_with fail
 go_loopg [1,5] len (fun g a i wr=>∃(cur:Int) (j:Nat),g=len-j∧a=.int .i64 cur∧i=.int .i64 j∧j≤len∧-1≤cur∧cur≤100000∧Hid (Dat.fewL (l.drop j) cur=Dat.fewL l left)∧Below w.heap.size w wr)
 case atStart=>exact ⟨left,0,rfl,rfl,rfl,by omega,by omega,by omega,rfl,Below.refl _ _⟩
 case round=>
  obtain ⟨cur,j,rfl,rfl,rfl,hj,hc1,hc2,HF,hb⟩:=hrel
  have HB:=zh hb
  have hsz:=hb.size
  clear hb
  by_cases hjl:j<len
  ·by_cases hcur:0≤cur
   ·obtain ⟨x,hx⟩:∃x,l[j]?=some x:=⟨_,List.getElem?_eq_getElem (by rw[←HL.out];exact hjl)⟩
    obtain ⟨b1,off1,k1,n1,d1,s1,l1,o1,len1,cap1,ho1,hx1,e0,e1,e2,e3,e4,er⟩:=zay HV.out (HB.out.mono hB) hx
    subst ho1 hx1
    have HX:=zh hx
    have ER:=zh er
    have HF2:=zh ((zgF hx hcur).symm.trans HF.out)
    have g1:=zlL (.mk k1 n1 d1 s1 l1) cur hcur
    have g2:=Dat.few_le (.mk k1 n1 d1 s1 l1) cur
    obtain ⟨y,hy⟩:∃y,Dat.few (.mk k1 n1 d1 s1 l1) cur=y:=⟨_,rfl⟩
    rw[hy] at g1 g2 HF2
    have HC:=zh (zlA _ _ cur B wr ER.out (by omega) hcur (by omega))
    rw[hy] at HC
    clear hx er hy
    go_wp2_with fail
    refine HC.out.mono ?_
    rintro e1 w1 ⟨rfl,hb1⟩
    have HB1:=zh (Below.next HB.out hb1)
    clear hb1
    go_wp2_with fail
    go_roundg (len-(j+1))
    case measure=>omega
    case rel=>exact ⟨y,j+1,rfl,rfl,by go_num,by omega,by omega,by omega,HF2,HB1.out⟩
   ·have HQ:=zh (show decide (0≤cur)=r by rw[←HR.out,←HF.out,zfH _ hcur])
    obtain rfl:false=r:=by rw[←HQ.out,decide_eq_false hcur]
    go_wp2_with fail
    go_ret
    exact ⟨rfl,HB.out⟩
  ·obtain rfl:len=j:=by omega
   have HQ:=zh (show decide (0≤cur)=r by
     rw[←HR.out,←HF.out,List.drop_eq_nil_of_le (by rw[←HL.out];exact Nat.le_refl _)];rfl)
   by_cases hcur:0≤cur
   ·obtain rfl:true=r:=by rw[←HQ.out,decide_eq_true hcur]
    go_wp2_with fail
    go_ret
    exact ⟨rfl,HB.out⟩
   ·obtain rfl:false=r:=by rw[←HQ.out,decide_eq_false hcur]
    go_wp2_with fail
    go_ret
    exact ⟨rfl,HB.out⟩
end
section
open Go Go.RowKit
noncomputable def hide (W:World) (S:Nat→Prop):World:={ W with heap:=W.heap.mapIdx fun i o=>@ite _ (S i) (Classical.propDecidable _) (.deferred none) o }
theorem zd0 {W:World} {S:Nat→Prop} {c:Nat} (h:¬S c):(hide W S).heap[c]?=W.heap[c]?:=by
 simp only[hide,Array.getElem?_mapIdx]
 simp only[if_neg h,Option.map_id_fun',id]
theorem za3 (W:World) (S:Nat→Prop):(hide W S).heap.size=W.heap.size:=by simp[hide]
theorem zaV {W:World} {S:Nat→Prop} {c o:Nat} (h:¬S c):(hide W S).cell? ⟨c,o,none⟩=W.cell? ⟨c,o,none⟩:=by
 unfold World.cell?
 rw[show (hide W S).heap[({ block:=c,off:=o,spot:=none }:Addr).block]?=W.heap[c]? from zd0 h]
theorem zko {W:World} {S:Nat→Prop} {c o:Nat} (h:S c):(hide W S).cell? ⟨c,o,none⟩=none:=by
 have e:(hide W S).heap[c]?=W.heap[c]?.map fun _=>.deferred none:=by
  simp only[hide,Array.getElem?_mapIdx]
  simp only[if_pos h]
 unfold World.cell?
 rw[show (hide W S).heap[({ block:=c,off:=o,spot:=none }:Addr).block]?=W.heap[c]?.map fun _=>.deferred none from e]
 cases W.heap[c]?<;>rfl
theorem zac {W:World} {S:Nat→Prop} {c o:Nat} {v:Value} (h:(hide W S).cell? ⟨c,o,none⟩=some v):¬S c∧W.cell? ⟨c,o,none⟩=some v:=by
 by_cases hc:S c
 ·rw[zko hc] at h;cases h
 ·exact ⟨hc,by rwa[zaV hc] at h⟩
def Shown (W:World) (S:Nat→Prop) (W':World) (S':Nat→Prop):Prop:=∀c o u,¬S c→W.cell? ⟨c,o,none⟩=some u→¬S' c∧W'.cell? ⟨c,o,none⟩=some u
theorem Shown.cells {W W':World} {S S':Nat→Prop} (h:Shown W S W' S'):∀c o u,(hide W S).cell? ⟨c,o,none⟩=some u→(hide W' S').cell? ⟨c,o,none⟩=some u:=fun c o u hc=>by
 obtain ⟨h1,h2⟩:=zac hc
 obtain ⟨h3,h4⟩:=h c o u h1 h2
 rw[zaV h3];exact h4
theorem Shown.trans {A B C:World} {S T U:Nat→Prop} (h:Shown A S B T) (h':Shown B T C U):Shown A S C U:=fun c o u hc hu=>(h c o u hc hu).elim fun h1 h2=>h' c o u h1 h2
theorem Shown.less (W:World) {S S':Nat→Prop} (h:∀b,b<W.heap.size→S' b→S b):Shown W S W S':=fun c _o _u hc hu=>⟨fun hs=>hc (h c (zai hu) hs),hu⟩
theorem Shown.turned {W W':World} {S T:Nat→Prop} (h:Turned T W W') (hT:∀b,b<W.heap.size→T b→S b):Shown W S W' S:=fun c o u hc hu=>by
 have hlt:=zai hu
 refine ⟨hc,?_⟩
 unfold World.cell? at hu ⊢
 rw[show W'.heap[({ block:=c,off:=o,spot:=none }:Addr).block]?=W.heap[c]? from h.block c hlt fun ht=>hc (hT c hlt ht)]
 exact hu
theorem Shown.below {W W':World} {S:Nat→Prop} (h:Below W.heap.size W W'):Shown W S W' S:=Shown.turned (T:=fun _=>False) (Turned.of_below h) fun _ _ h=>h.elim
theorem Shown.five (W:World) {S:Nat→Prop} {B:Nat} (hB:S B) (d0 d1 d2 d3 d4:Value):Shown W S (set5 W B d0 d1 d2 d3 d4) S:=fun c o u hc hu=>⟨hc,by rw[zct _ _ _ _ _ _ _ (fun e=>hc (by subst e;exact hB))];exact hu⟩
theorem RepD.shown {W W':World} {S S':Nat→Prop} {B B':Nat} {x:Dat} {v:Value} (h:RepD (hide W S) B x v) (hs:Shown W S W' S') (hB:B≤B'):RepD (hide W' S') B' x v:=((zfx hs.cells).1 _ _ h).wider hB
theorem RepS.shown {W W':World} {S S':Nat→Prop} {B B':Nat} {l:List Dat} {v:Value} (h:RepS (hide W S) B l v) (hs:Shown W S W' S') (hB:B≤B'):RepS (hide W' S') B' l v:=(RepS.mono hs.cells h).wider hB
theorem CellsD.shown {W W':World} {S S':Nat→Prop} {B B':Nat} {l:List Dat} {xs:List Value} (h:CellsD (hide W S) B l xs) (hs:Shown W S W' S') (hB:B≤B'):CellsD (hide W' S') B' l xs:=h.mono fun _ _ hx=>hx.shown hs hB
theorem RepD.unhide {W:World} {S:Nat→Prop} {B:Nat} {x:Dat} {v:Value} (h:RepD (hide W S) B x v):RepD W B x v:=(zfx fun _ _ _ h=>(zac h).2).1 _ _ h
theorem RepS.unhide {W:World} {S:Nat→Prop} {B:Nat} {l:List Dat} {v:Value} (h:RepS (hide W S) B l v):RepS W B l v:=RepS.mono (fun _ _ _ h=>(zac h).2) h
theorem RepD.dug {W:World} {S:Nat→Prop} {B:Nat} {x:Dat} {v:Value} (h:RepD W B x v) (hS:∀b,S b→B≤b):RepD (hide W S) B x v:=
 (zfD fun c o hc=>zaV fun hs=>by have:=hS c hs;omega).1 _ _ h
theorem zdJ {W:World} {S:Nat→Prop} {base n size:Nat} {e:TypeId} {v:Value} {xs:List Value} (h:W.ownsRow base e size v n xs) (hS:∀g,v.ownBlock=some g→¬S g):(hide W S).ownsRow base e size v n xs:=by
 refine ⟨h.1,?_⟩
 rcases h.2 with h' | ⟨g,cap,cur,rfl,h2,h3,h4⟩
 ·exact .inl h'
 ·exact .inr ⟨g,cap,cur,rfl,h2,by rw[zd0 (hS g rfl)];exact h3,h4⟩
end
section
open Go.RowKit
def all2 (q:Dat→Dat→Bool):List Dat→List Dat→Bool
 | [],[]=>true
 | x::l,y::m=>q x y&&all2 q l m
 | _,_=>false
theorem zid {q:Dat→Dat→Bool}:∀{l m:List Dat},all2 q l m=true→l.length=m.length
 | [],[],_=>rfl
 | x::l,y::m,h=>by
  rw[all2,Bool.and_eq_true] at h
  simp[zid h.2]
 | [],_::_,h=>by cases h
 | _::_,[],h=>by cases h
theorem zeW {q:Dat→Dat→Bool}:∀{l m:List Dat} {i:Nat} {x y:Dat},l[i]?=some x→m[i]?=some y→q x y=false→all2 q l m=false
 | [],_,i,x,y,h,_,_=>by simp at h
 | _::_,[],i,x,y,_,h,_=>by simp at h
 | a::l,b::m,0,x,y,h,h',hq=>by
  simp only[List.getElem?_cons_zero,Option.some.injEq] at h h'
  subst h h'
  simp[all2,hq]
 | a::l,b::m,i+1,x,y,h,h',hq=>by
  rw[all2,zeW (l:=l) (m:=m) (i:=i) (by simpa using h) (by simpa using h') hq,Bool.and_false]
theorem zh7 {q:Dat→Dat→Bool}:∀{l m:List Dat},l.length=m.length→(∀(i:Nat) (x y:Dat),l[i]?=some x→m[i]?=some y→q x y=true)→all2 q l m=true
 | [],[],_,_=>rfl
 | x::l,y::m,h,H=>by
  rw[all2,H 0 x y rfl rfl,zh7 (by simpa using h) (fun i a b ha hb=>H (i+1) a b (by simpa using ha) (by simpa using hb))];rfl
 | [],_::_,h,_=>by simp at h
 | _::_,[],h,_=>by simp at h
theorem zex:∀l m:List Dat,Dat.alikeL l m=all2 Dat.alike l m
 | [],[]=>rfl
 | x::l,y::m=>by rw[Dat.alikeL,all2,zex l m]
 | [],_::_=>rfl
 | _::_,[]=>rfl
theorem zfj (F:FuncId) (caps:Array Value) (q:Dat→Dat→Bool) (r:Bool) (l m:List Dat) (sl sm:Value) (B:Nat) (w:World) (hl:RepS w B l sl) (hm:RepS w B m sm) (hB:B≤w.heap.size)
  (hF:∀(args:Array Value) (w:World),(callFunc F args).run prog w=.ok (.enter F args) w)
  (H:∀x∈l,∀y∈m,∀v u w',RepD w' B x v→RepD w' B y u→Below w.heap.size w w'→Calls prog F (#[v,u]++caps) w' fun e w''=>e=.returned (.bool (q x y))∧Below w'.heap.size w' w'') (hr:all2 q l m=r) :
  Calls prog 80 #[sl,sm,.func (.func F) #[] caps] w fun e w'=>e=.returned (.bool r)∧Below w.heap.size w w':=by
 obtain ⟨o,len,cap,rfl,hl1,hcap,hmax,hv⟩:=hl
 obtain ⟨o2,len2,cap2,rfl,hm1,hcap2,hmax2,hv2⟩:=hm
 have HR:=zh hr
 have HV:=zh hv
 have HV2:=zh hv2
 have HL:=zh hl1
 have HM:=zh hm1
 have HH:=zh H
 clear hr hv hv2 hl1 hm1 H
 by_cases hne:len=len2
 ·subst hne
  have hnn:((len:Int) != (len:Int))=false:=by simp
  go_enter func80,ntmps80
  go_wp2
  go_loopw [17] (fun i wr=>∃(j:Nat),i=.int .i64 j∧j≤len∧Hid (∀(i:Nat) (x y:Dat),i<j→l[i]?=some x→m[i]?=some y→q x y=true)∧Below w.heap.size w wr) (fun i _=>len-(intOf i).toNat)
  case atStart=>exact ⟨0,rfl,by omega,zh (fun i x y h=>absurd h (Nat.not_lt_zero _)),Below.refl _ _⟩
  case round=>
   obtain ⟨j,rfl,hj,HA,hb⟩:=hrel
   by_cases hjl:j<len
   ·obtain ⟨x,hx⟩:∃x,l[j]?=some x:=⟨_,List.getElem?_eq_getElem (by rw[←HL.out];exact hjl)⟩
    obtain ⟨y,hy⟩:∃y,m[j]?=some y:=⟨_,List.getElem?_eq_getElem (by rw[←HM.out];exact hjl)⟩
    obtain ⟨b,off,k',n',d',s',l',o',len',cap',ho,hxe,e0,e1,e2,e3,e4,er⟩:=zay HV.out (hb.mono hB) hx
    obtain ⟨b2,off2,k2,n2,d2,s2,l2,o2',len2,cap2',ho2,hye,f0,f1,f2,f3,f4,fr⟩:=zay HV2.out (hb.mono hB) hy
    subst ho hxe ho2 hye
    have HX:=zh hx
    have HY:=zh hy
    have ER:=zh er
    have FR:=zh fr
    clear hx hy er fr
    have hs:=hb.size
    have hw1:b<wr.heap.size:=zai e0
    have hw2:b2<wr.heap.size:=zai f0
    have hw1':b<wr.heap.size+1:=by omega
    have hw2':b2<wr.heap.size+1:=by omega
    have HK:=zh (fun X Y=>((Below.refl wr.heap.size wr).alloc (Nat.le_refl _) X).alloc (by simp) Y)
    have HC:=zh (fun X Y=>HH.out _ (List.mem_of_getElem? HX.out) _ (List.mem_of_getElem? HY.out) _ _ ((wr.alloc X).alloc Y) (ER.out.kept ((HK.out X Y).mono (by omega))) (FR.out.kept ((HK.out X Y).mono (by omega))) (Below.next hb (HK.out X Y)))
    cases hq:q (.mk k' n' d' s' l') (.mk k2 n2 d2 s2 l2) with
    | true=>
     rw[hq] at HC
     have HT:=zh hq
     clear hq
     go_wp2_with (first | ((with_reducible refine (HC.out _ _).mono ?_);rintro e' w1 ⟨rfl,hb1⟩))
     go_roundw
     case rel=>
      refine ⟨j+1,by go_num,by omega,zh ?_,(Below.next hb (HK.out _ _)).trans (hb1.mono (by simp;omega))⟩
      intro i x y hi hx hy
      by_cases hij:i<j
      ·exact HA.out i x y hij hx hy
      ·obtain rfl:i=j:=by omega
       have h1:=HX.out.symm.trans hx
       have h2:=HY.out.symm.trans hy
       simp only[Option.some.injEq] at h1 h2
       rw[←h1,←h2];exact HT.out
     case measure=>simp[intOf];omega
    | false=>
     rw[hq] at HC
     have HT:=zh (zeW HX.out HY.out hq)
     clear hq
     go_wp2_with (first | ((with_reducible refine (HC.out _ _).mono ?_);rintro e' w1 ⟨rfl,hb1⟩))
     go_ret
     exact ⟨zan (by rw[←HR.out,HT.out]),(Below.next hb (HK.out _ _)).trans (hb1.mono (by simp;omega))⟩
   ·have HT:=zh (zh7 (q:=q) (l:=l) (m:=m) (by rw[←HL.out,←HM.out]) (fun i x y hx hy=>HA.out i x y (by
     have:=(List.getElem?_eq_some_iff.1 hx).1;rw[←HL.out] at this;omega) hx hy))
    go_wp2
    go_ret
    exact ⟨zan (by rw[←HR.out,HT.out]),hb⟩
 ·have hnn:((len:Int) != (len2:Int))=true:=by simp;omega
  have HT:=zh (show all2 q l m=false by
   cases h:all2 q l m with
   | false=>rfl
   | true=>exact absurd (zid h) (by rw[←HL.out,←HM.out];exact hne))
  go_enter func80,ntmps80
  go_wp2
  go_ret
  exact ⟨zan (by rw[←HR.out,HT.out]),Below.self _⟩
theorem zkS {k n d k' n' d':Int} {s s':ByteArray} {q r:Bool} (h:((decide (k=k')&&(decide (n=n')&&(decide (d=d')&&decide (s=s'))))&&q)=r)
  (hno:¬k=k'∨¬n=n'∨¬d=d'∨¬s.toList=s'.toList):false=r:=by
 rw[←h]
 by_cases h1:k=k'∧n=n'∧d=d'∧s=s'
 ·obtain ⟨rfl,rfl,rfl,rfl⟩:=h1
  rcases hno with h | h | h | h<;>exact absurd rfl h
 ·symm
  rw[Bool.and_eq_false_iff]
  apply Decidable.byContradiction
  intro h2
  apply h1
  simp only[not_or,Bool.not_eq_false,Bool.and_eq_true,decide_eq_true_eq] at h2
  exact h2.1
theorem zjQ {k n d k' n' d':Int} {s s':ByteArray} {q r:Bool} (h:((decide (k=k')&&(decide (n=n')&&(decide (d=d')&&decide (s=s'))))&&q)=r)
  (h0:k=k') (h1:n=n') (h2:d=d') (h3:s.toList=s'.toList):q=r:=by
 have e:s=s':=by
  apply ByteArray.ext;apply Array.ext'
  rw[←ByteArray.toList_eq,←ByteArray.toList_eq];exact h3
 rw[←h,decide_eq_true h0,decide_eq_true h1,decide_eq_true h2,decide_eq_true e];rfl
theorem zjT:∀(x y:Dat) (v u:Value) (B:Nat) (w:World),RepD w B x v→RepD w B y u→B≤w.heap.size →
  Calls prog 42 #[v,u] w fun e w'=>e=.returned (.bool (Dat.alike x y))∧Below w.heap.size w w':=by
 intro x
 induction x using Dat.ind with
 | h k n d s l ih=>
  intro y v u B w hv hu hB
  obtain ⟨k',n',d',s',l'⟩:=y
  obtain ⟨r,hr⟩:∃r,Dat.alike (.mk k n d s l) (.mk k' n' d' s' l')=r:=⟨_,rfl⟩
  rw[hr]
  rw[Dat.alike,zex] at hr
  have HR:=zh hr
  obtain ⟨sl,rfl,_,_,_,_,hs⟩:=hv.open
  obtain ⟨sm,rfl,_,_,_,_,hs'⟩:=hu.open
  have HS:=zh hs
  have HS':=zh hs'
  have IH:=zh ih
  clear ih hv hu hr hs hs'
  have HK:=zh (fun X Y=>((Below.refl w.heap.size w).alloc (Nat.le_refl _) X).alloc (by simp) Y)
  go_enter func42,ntmps42
  go_wp2_with fail
  ·refine (zfj 42 #[] Dat.alike r l l' sl sm B _ (HS.out.kept ((HK.out _ _).mono hB)) (HS'.out.kept ((HK.out _ _).mono hB)) (by simp;omega) (fun _ _=>by kernel_rfl)
    (fun x hx y _ v u w' hxv hyu hb=>IH.out x hx y v u B w' hxv hyu (by have:=hb.size;simp at this;omega)) (zjQ HR.out (by assumption) (by assumption) (by assumption) (by assumption))).mono ?_
   rintro e' w1 ⟨rfl,hb1⟩
   go_wp2
   go_ret
   exact ⟨rfl,(HK.out _ _).trans (hb1.mono (by simp;omega))⟩
  all_goals
   go_ret
   refine ⟨zan (zkS HR.out ?_),HK.out _ _⟩
   first
   | exact .inr (.inr (.inr ‹_›))
   | exact .inr (.inr (.inl ‹_›))
   | exact .inr (.inl ‹_›)
   | exact .inl ‹_›
theorem zkV (x y:Dat) (v u:Value) (B:Nat) (w:World) (hv:RepD w B x v) (hu:RepD w B y u) (hB:B≤w.heap.size) :
  Calls prog 22 #[v,u] w fun e w'=>e=.returned (.bool (Dat.right x 0&&(Dat.right y 0&&Dat.alike x y)))∧Below w.heap.size w w':=by
 obtain ⟨r,hr⟩:∃r,(Dat.right x 0&&(Dat.right y 0&&Dat.alike x y))=r:=⟨_,rfl⟩
 rw[hr]
 have HR:=zh hr
 obtain ⟨k,n,d,s,o,len,cap,rfl⟩:=zae hv
 obtain ⟨k',n',d',s',o',len',cap',rfl⟩:=zae hu
 have HV:=zh hv
 have HU:=zh hu
 clear hv hu hr
 have HK:=zh (fun X Y=>((Below.refl w.heap.size w).alloc (Nat.le_refl _) X).alloc (by simp) Y)
 have C1:=zh (fun W (hb:Below w.heap.size w W)=>zbz x _ B W (HV.out.kept (hb.mono hB)) (Nat.le_trans hB hb.size))
 have C2:=zh (fun W (hb:Below w.heap.size w W)=>zbz y _ B W (HU.out.kept (hb.mono hB)) (Nat.le_trans hB hb.size))
 have C3:=zh (fun W (hb:Below w.heap.size w W)=>zjT x y _ _ B W (HV.out.kept (hb.mono hB)) (HU.out.kept (hb.mono hB)) (Nat.le_trans hB hb.size))
 go_enter func22,ntmps22
 go_wp2_with fail
 refine (C1.out _ (HK.out _ _)).mono ?_
 cases hx:Dat.right x 0 with
 | false=>
  have H1:=zh (show r=false by rw[←HR.out,hx];rfl)
  clear hx
  rintro e' w1 ⟨rfl,hb⟩
  go_wp2
  go_ret
  exact ⟨zan H1.out.symm,zcd hb⟩
 | true=>
  have H1:=zh (show r=(Dat.right y 0&&Dat.alike x y) by rw[←HR.out,hx];rfl)
  clear hx
  rintro e' w1 ⟨rfl,hb⟩
  have hz:=zif hb
  have z0:w.heap.size<w1.heap.size:=(by omega)
  have z1:w.heap.size+1<w1.heap.size:=(by omega)
  obtain ⟨q0,q1,q2,q3,q4⟩:=zig hb
  obtain ⟨p0,p1,p2,p3,p4⟩:=zjI hb
  have HB:=zh (zcd hb)
  clear hb
  go_wp2_with fail
  refine (C2.out _ HB.out).mono ?_
  cases hx:Dat.right y 0 with
  | false=>
   have H2:=zh (show r=false by rw[H1.out,hx];rfl)
   clear hx
   rintro e' w2 ⟨rfl,hb2⟩
   go_wp2
   go_ret
   exact ⟨zan H2.out.symm,Below.next HB.out hb2⟩
  | true=>
   have H2:=zh (show r=Dat.alike x y by rw[H1.out,hx];rfl)
   clear hx
   rintro e' w2 ⟨rfl,hb2⟩
   have g:∀b i,b<w1.heap.size→w2.cell? ⟨b,i,none⟩=w1.cell? ⟨b,i,none⟩:=fun b i h=>hb2.cell (p:=⟨b,i,none⟩) h
   have q0':=(g _ 0 z0).trans q0
   have q1':=(g _ 1 z0).trans q1
   have q2':=(g _ 2 z0).trans q2
   have q3':=(g _ 3 z0).trans q3
   have q4':=(g _ 4 z0).trans q4
   have p0':=(g _ 0 z1).trans p0
   have p1':=(g _ 1 z1).trans p1
   have p2':=(g _ 2 z1).trans p2
   have p3':=(g _ 3 z1).trans p3
   have p4':=(g _ 4 z1).trans p4
   have HB2:=zh (Below.next HB.out hb2)
   clear hb2 g
   go_wp2_with fail
   refine (C3.out _ HB2.out).mono ?_
   rintro e' w3 ⟨rfl,hb3⟩
   go_wp2
   go_ret
   exact ⟨zan H2.out.symm,Below.next HB2.out hb3⟩
end
section
open Go.RowKit
end
section
open Go
section
variable {P : Program} {ops : Array Oper} {md : Region.Mode}
def backB (md:Region.Mode) (ops:Array Oper):Bool:=(List.range ops.size).all fun i=>((ops[i]?).map (·.after.all fun e=>!Region.binds md e || decide (e.on<i))).getD true
theorem zgX {n:Nat} {listed:Array Bool} (hb:backB md ops=true) (hs:listed.size=ops.size) (h:∃i,i<n∧i<ops.size∧listed.getD i true=false):Region.ready md ops listed≠[]:=by
 obtain ⟨i,hi⟩:=h
 induction i using Nat.strongRecOn with
 | _ i ih=>
  by_cases hr:i∈Region.ready md ops listed
  ·intro h0;rw[h0] at hr;cases hr
  ·obtain ⟨o,ho⟩:∃o,ops[i]?=some o:=⟨_,Array.getElem?_eq_getElem hi.2.1⟩
   have:∃e∈o.after,Region.binds md e=true∧listed.getD e.on false=false:=by
    apply Classical.byContradiction
    intro hn
    exact hr (mem_ready.2 ⟨hi.2.2,o,ho,fun e he hb'=>by
     cases hl:listed.getD e.on false with
     | true=>rfl
     | false=>exact absurd ⟨e,he,hb',hl⟩ hn⟩)
   obtain ⟨e,he,hbe,hl⟩:=this
   have hlt:e.on<i:=by
    have:=List.all_eq_true.1 hb i (List.mem_range.2 hi.2.1)
    rw[ho] at this
    simp only[Option.map_some,Option.getD_some] at this
    have:=Array.all_eq_true_iff_forall_mem.1 this e he
    simpa[hbe] using this
   exact ih e.on hlt ⟨by omega,by omega,getD_in (by rw[hs];omega) hl⟩
theorem zdQ {n g:Nat} {I:Array Bool→Act→World→Prop} {Q:Exit→Act→World→Prop} (hb:backB md ops=true) (hs:Region.sinkB md ops n=true) (hc:Region.chainB md ops n=true) (hn:n<ops.size)
  (hstep:∀listed a w i,I listed a w→i<n→i∈Region.ready md ops listed→wpOp P ops Q i (fun a' w'=>I (listed.setIfInBounds i true) a' w') a w)
  (hend:∀listed a w,I listed a w→HeadInv md ops n listed→(∀i,i<n→listed.getD i true=true)→wpAny P md ops Q g listed a w) :
  ∀(f:Nat) (listed:Array Bool) (a:Act) (w:World),((List.range n).filter fun i=>!listed.getD i true).length=f→HeadInv md ops n listed→I listed a w→wpAny P md ops Q (f+g) listed a w
 | 0,listed,a,w,hf,inv,h=>by
  rw[Nat.zero_add]
  refine hend listed a w h inv fun i hi=>?_
  have h0:=List.eq_nil_of_length_eq_zero hf
  rw[List.filter_eq_nil_iff] at h0
  have:=h0 i (List.mem_range.2 hi)
  simpa using this
 | f+1,listed,a,w,hf,inv,h=>by
  rw[show f+1+g=(f+g)+1 by omega]
  have hex:∃i,i<n∧i<ops.size∧listed.getD i true=false:=by
   obtain ⟨i,hi⟩:=List.exists_mem_of_length_pos (by rw[hf];omega)
   rw[List.mem_filter,List.mem_range] at hi
   exact ⟨i,hi.1,by omega,by simpa using hi.2⟩
  refine ⟨fun h0=>absurd h0 (zgX hb inv.size hex),fun i hi=>?_⟩
  have hin:i<n:=by
   rcases Nat.lt_or_ge i n with h' | h'
   ·exact h'
   ·obtain ⟨j,hj,_,hjl⟩:=hex
    exact absurd hi (tail_waits hs hc hn inv _ j rfl hj hjl i h')
  refine wpOp_mono (fun a' w' h'=>zdQ hb hs hc hn hstep hend f _ a' w' ?_ (inv.set hi hin) h') (hstep listed a w i h hin hi)
  have hun:=(mem_ready.1 hi).1
  have hlt:i<listed.size:=by rw[inv.size];omega
  have e:((List.range n).filter fun k=>!listed.getD k true)=((List.range n).filter fun k=>!listed.getD k true):=rfl
  have key:((List.range n).filter fun k=>!(listed.setIfInBounds i true).getD k true)=(((List.range n).filter fun k=>!listed.getD k true)).erase i:=by
   rw[List.Nodup.erase_eq_filter (List.nodup_range.sublist List.filter_sublist),List.filter_filter]
   apply List.filter_congr
   intro k hk
   by_cases hki:k=i
   ·subst hki
    simp[hlt]
   ·rw[getD_set_ne true (Ne.symm hki)]
    simp[hki]
  rw[key,List.length_erase_of_mem (by rw[List.mem_filter,List.mem_range];exact ⟨hin,by simpa using hun⟩),hf]
  rfl
def slotsB (ops:Array Oper) (n m:Nat):Bool:=(List.range n).all fun i=>(List.range n).all fun j=>match ops[i]?,ops[j]? with
 | some oi,some oj=>(match oi.dst,oj.dst with | some d,some e=>decide (d<m)&&(decide (i=j) || decide (d≠e)) | _,_=>true)
 | _,_=>true
def guardsB (md:Region.Mode) (ops:Array Oper) (n m:Nat) (gs:List Nat):Bool:=(List.range n).all fun i=>match ops[i]? with
 | some oi=>(match oi.guard with
  | none=>true
  | some (g,b)=>b&&(gs.contains g&&(decide (g<n)&&((match ops[g]? with | some og=>(match og.dst with | some d=>decide (d<m) | none=>false) | none=>false)&&oi.after.any fun e=>Region.binds md e&&e.on==g))))
 | none=>true
def MonoI (ops:Array Oper) (n:Nat) (Ext:World→World→Prop) (R:Nat→Value→World→Prop) (w0:World) (a0:Act) (listed:Array Bool) (a:Act) (w:World):Prop:=
 a.defers=a0.defers∧a.tmps.size=a0.tmps.size∧Ext w0 w∧(∀i o d,i<n→ops[i]?=some o→listed.getD i false=true→o.dst=some d→R i (a.tmps.getD d undef) w) ∧
  (∀t,(∀i o,i<n→ops[i]?=some o→o.dst≠some t)→a.tmps.getD t undef=a0.tmps.getD t undef)
theorem zaI {a:Act} {d t:Nat} {v:Value} (hd:d<a.tmps.size):(a.put (some d) v).tmps.getD t undef=if d=t then v else a.tmps.getD t undef:=by
 show (a.tmps.setIfInBounds d v).getD t undef=_
 by_cases h:d=t
 ·subst h
  simp[hd]
 ·rw[if_neg h]
  simp[Array.getElem?_setIfInBounds_ne h]
def OneStep (P:Program) (ops:Array Oper) (n:Nat) (Ext:World→World→Prop) (R:Nat→Value→World→Prop) (w0:World) (a0:Act) (Q:Exit→Act→World→Prop) (i:Nat) (o:Oper):Prop:=
 ∀(a:Act) (w:World) (K:Act→World→Prop),a.defers=a0.defers→a.tmps.size=a0.tmps.size→Ext w0 w→(∀j oj d,j<n→ops[j]?=some oj→(∃e∈o.after,Region.binds md e=true∧e.on=j)→oj.dst=some d→R j (a.tmps.getD d undef) w) →
  (∀t,(∀i o,i<n→ops[i]?=some o→o.dst≠some t)→a.tmps.getD t undef=a0.tmps.getD t undef)→(∀v w',R i v w'→Ext w w'→K (a.put o.dst v) w')→o.wp P a w K Q
theorem zb2 {n m:Nat} {gs:List Nat} {R:Nat→Value→World→Prop} {a:Act} {w:World} {i:Nat} {o:Oper} (hgd:guardsB md ops n m gs=true) (hG:∀g∈gs,∀v w,R g v w→v=.bool true) (hi:i<n) (ho:ops[i]?=some o) (hm:m≤a.tmps.size)
  (hdep:∀j oj d,j<n→ops[j]?=some oj→(∃e∈o.after,Region.binds md e=true∧e.on=j)→oj.dst=some d→R j (a.tmps.getD d undef) w):Region.wanted o (yielded ops a.tmps)=true:=by
 have h1:=List.all_eq_true.1 hgd i (List.mem_range.2 hi)
 simp only[ho] at h1
 unfold Region.wanted
 cases hg:o.guard with
 | none=>rfl
 | some p=>
  obtain ⟨g,b⟩:=p
  rw[hg] at h1
  simp only[Bool.and_eq_true,decide_eq_true_eq] at h1
  obtain ⟨rfl,h2,h3,h4,h5⟩:=h1
  cases hog:ops[g]? with
  | none=>rw[hog] at h4;cases h4
  | some og=>
   rw[hog] at h4
   simp only at h4
   cases hd:og.dst with
   | none=>rw[hd] at h4;cases h4
   | some d=>
    rw[hd] at h4
    simp only[decide_eq_true_eq] at h4
    rw[Array.any_eq_true'] at h5
    obtain ⟨e,he,hb⟩:=h5
    simp only[Bool.and_eq_true,beq_iff_eq] at hb
    have hv:=hG g (List.contains_iff_mem.1 h2) _ _ (hdep g og d h3 hog ⟨e,he,hb.1,hb.2⟩ hd)
    have hlt:d<a.tmps.size:=Nat.lt_of_lt_of_le h4 hm
    have hv2:a.tmps[d]?=some (.bool true):=by
     rw[Array.getElem?_eq_getElem hlt]
     simpa[Array.getD,hlt] using hv
    simp[yielded,hog,hd,hv2]
theorem zik {n:Nat} {Ext:World→World→Prop} {R:Nat→Value→World→Prop} {w0:World} {a0:Act} {Q:Exit→Act→World→Prop} (l:List Oper) (hl:l.toArray=ops) (hb:backB md ops=true) (hs:Region.sinkB md ops n=true) (hc:Region.chainB md ops n=true) (hn:n<ops.size) (hd:slotsB ops n a0.tmps.size=true) (gs:List Nat) (hgd:guardsB md ops n a0.tmps.size gs=true) (hG:∀g∈gs,∀v w,R g v w→v=.bool true)
  (hseq:∀listed,HeadInv md ops n listed→(∀i,i<n→listed.getD i true=true)→Region.seqB md ops (ops.size-n) n listed=true)
  (htr:∀{A B C:World},Ext A B→Ext B C→Ext A C) (h0:Ext w0 w0) (hR:∀i v A B,i<n→R i v A→Ext A B→R i v B)
  (hops:∀i o,i<n→ops[i]?=some o→OneStep (md:=md) P ops n Ext R w0 a0 Q i o)
  (hend:∀a w,a.defers=a0.defers→a.tmps.size=a0.tmps.size→Ext w0 w→(∀i o d,i<n→ops[i]?=some o→o.dst=some d→R i (a.tmps.getD d undef) w)→(∀t,(∀i o,i<n→ops[i]?=some o→o.dst≠some t)→a.tmps.getD t undef=a0.tmps.getD t undef)→wpList P ops Q (l.drop n) a w) :
  wpAny P md ops Q ops.size (Array.replicate ops.size false) a0 w0:=by
 have hslot:∀i j oi oj d,i<n→j<n→ops[i]?=some oi→ops[j]?=some oj→oi.dst=some d→d<a0.tmps.size∧(oj.dst=some d→i=j):=by
  intro i j oi oj d hi hj hoi hoj hdi
  have h1:=List.all_eq_true.1 (List.all_eq_true.1 hd i (List.mem_range.2 hi)) i (List.mem_range.2 hi)
  have h2:=List.all_eq_true.1 (List.all_eq_true.1 hd i (List.mem_range.2 hi)) j (List.mem_range.2 hj)
  simp only[hoi,hoj,hdi,Bool.and_eq_true,decide_eq_true_eq] at h1 h2
  refine ⟨h1.1,fun he=>?_⟩
  rw[he] at h2
  have h3:=h2
  simp at h3
  exact h3.2
 have inv0:HeadInv md ops n (Array.replicate ops.size false):=
  ⟨by simp,fun j oj _ hl=>(by rw[getD_replicate_false] at hl;cases hl),fun t _ ht=>getD_in (by simpa using ht) (getD_replicate_false _ _)⟩
 have hcount:((List.range n).filter fun i=>!(Array.replicate ops.size false).getD i true).length=n:=by
  rw[List.filter_eq_self.2]
  ·simp
  ·intro i hi
   have:i<ops.size:=by have:=List.mem_range.1 hi;omega
   simp[this]
 have:=zdQ (P:=P) (Q:=Q) (g:=ops.size-n) (I:=MonoI ops n Ext R w0 a0) hb hs hc hn ?_ ?_ n _ a0 w0 hcount inv0
  ⟨rfl,rfl,h0,fun i o d _ _ hl=>(by rw[getD_replicate_false] at hl;cases hl),fun _ _=>rfl⟩
 ·rwa[show n+(ops.size-n)=ops.size by omega] at this
 ·rintro listed a w i ⟨hdf,hsz,hex,hval,hoth⟩ hi hr
  obtain ⟨hun,o,ho,hdeps⟩:=mem_ready.1 hr
  unfold wpOp
  simp only[ho]
  have hdep2:=(fun j oj d hj hoj (h:∃e∈o.after,Region.binds md e=true∧e.on=j) hd'=>by
   obtain ⟨e,he,hbe,hon⟩:=h
   exact hval j oj d hj hoj (by rw[←hon];exact hdeps e he hbe) hd':∀j oj d,j<n→ops[j]?=some oj→(∃e∈o.after,Region.binds md e=true∧e.on=j)→oj.dst=some d→R j (a.tmps.getD d undef) w)
  rw[if_pos (zb2 hgd hG hi ho (by rw[hsz];exact Nat.le_refl _) hdep2)]
  left
  refine hops i o hi ho a w _ hdf hsz hex hdep2 hoth ?_
  intro v w' hRv hEx
  refine ⟨?_,?_,htr hex hEx,?_,?_⟩
  ·cases o.dst<;>exact hdf
  ·cases hdst:o.dst with
   | none=>exact hsz
   | some d=>simpa[Act.put] using hsz
  ·intro k ok d hk hok hlk hdk
   by_cases hki:k=i
   ·subst hki
    obtain rfl:o=ok:=Option.some.inj (ho.symm.trans hok)
    rw[hdk,zaI (by rw[hsz];exact (hslot k k o o d hk hk ho ho hdk).1),if_pos rfl]
    exact hRv
   ·rw[getD_set_ne false (Ne.symm hki)] at hlk
    have hv:=hR k _ w w' hk (hval k ok d hk hok hlk hdk) hEx
    cases hdst:o.dst with
    | none=>exact hv
    | some d'=>
     rw[zaI (by rw[hsz];exact (hslot i i o o d' hi hi ho ho hdst).1),if_neg ?_]
     ·exact hv
     ·rintro rfl
      exact hki ((hslot k i ok o d' hk hi hok ho hdk).2 hdst)
  ·intro t ht
   cases hdst:o.dst with
   | none=>exact hoth t ht
   | some d'=>
    rw[zaI (by rw[hsz];exact (hslot i i o o d' hi hi ho ho hdst).1),if_neg ?_]
    ·exact hoth t ht
    ·rintro rfl;exact ht i o hi ho hdst
 ·rintro listed a w ⟨hdf,hsz,hex,hval,hoth⟩ inv hall
  subst hl
  have hdl:(l.drop n).length=l.toArray.size-n:=by simp
  have h1:=wpAny_of_seq (md:=md) (Q':=Q) (l.drop n) n listed a w (fun j=>by simp[List.getElem?_drop]) (by rw[hdl];exact hseq listed inv hall)
   (hend a w hdf hsz hex (fun i o d hi ho hd'=>hval i o d hi ho (by
    have:=hall i hi
    have hlt:i<listed.size:=by rw[inv.size];omega
    simpa[hlt] using this) hd') hoth)
  rwa[hdl] at h1
theorem ziI {o:Oper} {a:Act} {w:World} {K:Act→World→Prop} {Q:Exit→Act→World→Prop} (h:o.wp P a w K (fun _ _ _=>False)):o.wp P a w K Q:=by
  unfold Oper.wp at *
  generalize (execOp a.eval o).run P w=r at *
  cases r with
  | ok n w'=>
    cases n<;>simp only[Oper.upon] at h ⊢ <;>
      first
        | exact h
        | (refine Calls.mono h (fun e w'' he=>?_)
           cases e with
           | returned v=>exact he
           | panicked c=>exact he.elim
           | outgrown=>obtain ⟨_,_,hf⟩:=he;exact hf.elim)
  | halt x w'=>cases x<;>simp only[Oper.upon] at h ⊢<;>exact h.elim
theorem zc9 {o:Oper} {a:Act} {w:World} {K:Act→World→Prop} {Q:Exit→Act→World→Prop} (hg:Region.wanted o (yielded ops a.tmps)=true)
    (h:wpList P ops (fun e a' w'=>e=.normal∧K a' w') [o] a w):o.wp P a w K Q:=by
  unfold wpList at h
  rw[if_pos hg] at h
  rcases h with h | ⟨_,_,_,hf,_⟩
  · refine ziI (Oper.wp_mono (K:=wpList P ops (fun e a' w'=>e=.normal∧K a' w') []) (fun a' w' h'=>(show (Exit.normal=Exit.normal∧K a' w') from h').2) ?_)
    have h2:o.wp P a w (wpList P ops (fun e a' w'=>e=.normal∧K a' w') []) (fun e a' w'=>e=.normal∧K a' w'):=h
    clear h
    unfold Oper.wp at *
    generalize (execOp a.eval o).run P w=r at *
    cases r with
    | ok n w'=>
      cases n<;>simp only[Oper.upon] at h2 ⊢ <;>
        first
          | exact h2
          | (refine Calls.mono h2 (fun e w'' he=>?_)
             cases e with
             | returned v=>exact he
             | panicked c=>cases he.1
             | outgrown=>obtain ⟨_,_,hf,_⟩:=he;cases hf)
          | exact Rows.mono h2 (fun _ _ he=>he)
    | halt x w'=>cases x<;>simp only[Oper.upon] at h2 ⊢<;>first | (cases h2.1) | exact h2
  · cases hf
def headDone (n m:Nat):Array Bool:=(List.replicate n true++List.replicate (m-n) false).toArray
theorem zbX {n:Nat} {listed:Array Bool} (hn:n<ops.size) (inv:HeadInv md ops n listed) (h:∀i,i<n→listed.getD i true=true):listed=headDone n ops.size:=by
 apply Array.ext
 ·rw[inv.size];simp[headDone];omega
 ·intro i h1 h2
  simp only[headDone,List.getElem_toArray]
  by_cases hi:i<n
  ·rw[List.getElem_append_left (by simpa using hi)]
   have:=h i hi
   simpa[h1] using this
  ·rw[List.getElem_append_right (by simpa using (by omega:n≤i))]
   have:=inv.tail i (by omega) (by rw[←inv.size];exact h1)
   simpa[h1] using this
def monoG (ops:Array Oper) (n m:Nat):Bool:=
 backB .any ops&&(Region.sinkB .any ops n&&(Region.chainB .any ops n&&(decide (n<ops.size)&&(slotsB ops n m&&Region.seqB .any ops (ops.size-n) n (headDone n ops.size)))))
def monoB (ops:Array Oper) (n m:Nat):Bool:=monoG ops n m&&guardsB .any ops n m []
def Rest (ops:Array Oper) (n:Nat) (a0 a:Act):Prop:=∀t,(∀i o,i<n→ops[i]?=some o→o.dst≠some t)→a.tmps.getD t undef=a0.tmps.getD t undef
def StepPost (R:Nat→Value→World→Prop) (Ext:World→World→Prop) (i:Nat) (o:Oper) (a:Act) (w1:World) (e:Exit) (a':Act) (w':World):Prop:=e=.normal∧∃v,a'=a.put o.dst v∧R i v w'∧Ext w1 w'
theorem zdC {id:Nat} {Q:Exit→Act→World→Prop} {a0:Act} {w:World} {l:List Oper} (n:Nat) (R:Nat→Value→World→Prop) (Ext:World→World→Prop) (hm:P.follows .mixedOrders=true) (gs:List Nat) (hB:monoG l.toArray n a0.tmps.size=true) (hgd:guardsB .any l.toArray n a0.tmps.size gs=true) (hG:∀g∈gs,∀v w,R g v w→v=.bool true)
  (htr:∀{A B C:World},Ext A B→Ext B C→Ext A C) (h0:Ext w.drew w.drew) (hR:∀i v A B,i<n→R i v A→Ext A B→R i v B)
  (hops:∀i o,i<n→l.toArray[i]?=some o→∀(a:Act) (w1:World),a.defers=a0.defers→a.tmps.size=a0.tmps.size→Ext w.drew w1→(∀j oj d,j<n→l.toArray[j]?=some oj→(∃e∈o.after,Region.binds .any e=true∧e.on=j)→oj.dst=some d→R j (a.tmps.getD d undef) w1)→Rest l.toArray n a0 a →
   wpList P l.toArray (StepPost R Ext i o a w1) [o] a w1)
  (hend:∀a w1,a.defers=a0.defers→a.tmps.size=a0.tmps.size→Ext w.drew w1→(∀i o d,i<n→l.toArray[i]?=some o→o.dst=some d→R i (a.tmps.getD d undef) w1)→Rest l.toArray n a0 a→wpList P l.toArray Q (l.drop n) a w1) :
  (Code.region id l.toArray true).wp P Q a0 w:=by
 simp only[monoG,Bool.and_eq_true,decide_eq_true_eq] at hB
 obtain ⟨h1,h2,h3,h4,h5,h6⟩:=hB
 refine wp_region_any hm ?_
 refine zik (Ext:=Ext) (R:=R) l rfl h1 h2 h3 h4 h5 gs hgd hG (fun listed inv hall=>by rw[zbX h4 inv hall];exact h6) htr h0 hR ?_ hend
 intro i o hi ho a w1 K hdf hsz hex hdep hoth hK
 have hg:=zb2 hgd hG hi ho (by rw[hsz];exact Nat.le_refl _) hdep
 refine Oper.wp_mono ?_ (zc9 (ops:=l.toArray) hg (hops i o hi ho a w1 hdf hsz hex hdep hoth))
 rintro a' w' ⟨v,rfl,hRv,hEx⟩
 exact hK v w' hRv hEx
theorem zeK {id:Nat} {Q:Exit→Act→World→Prop} {a0:Act} {w:World} {l:List Oper} (n:Nat) (R:Nat→Value→World→Prop) (Ext:World→World→Prop) (hm:P.follows .mixedOrders=true) (hB:monoB l.toArray n a0.tmps.size=true)
  (htr:∀{A B C:World},Ext A B→Ext B C→Ext A C) (h0:Ext w.drew w.drew) (hR:∀i v A B,i<n→R i v A→Ext A B→R i v B)
  (hops:∀i o,i<n→l.toArray[i]?=some o→∀(a:Act) (w1:World),a.defers=a0.defers→a.tmps.size=a0.tmps.size→Ext w.drew w1→(∀j oj d,j<n→l.toArray[j]?=some oj→(∃e∈o.after,Region.binds .any e=true∧e.on=j)→oj.dst=some d→R j (a.tmps.getD d undef) w1)→Rest l.toArray n a0 a →
   wpList P l.toArray (StepPost R Ext i o a w1) [o] a w1)
  (hend:∀a w1,a.defers=a0.defers→a.tmps.size=a0.tmps.size→Ext w.drew w1→(∀i o d,i<n→l.toArray[i]?=some o→o.dst=some d→R i (a.tmps.getD d undef) w1)→Rest l.toArray n a0 a→wpList P l.toArray Q (l.drop n) a w1) :
  (Code.region id l.toArray true).wp P Q a0 w:=by
 simp only[monoB,Bool.and_eq_true] at hB
 exact zdC n R Ext hm [] hB.1 hB.2 (fun _ h=>by cases h) htr h0 hR hops hend
def restB (ops:Array Oper) (n t:Nat):Bool:=(List.range n).all fun i=>match ops[i]? with | some o=>o.dst != some t | none=>true
theorem Rest.at {n:Nat} {a0 a:Act} (h:Rest ops n a0 a) (t:Nat) (hB:restB ops n t=true):a.tmps.getD t undef=a0.tmps.getD t undef:=
 h t fun i o hi ho=>by
  have:=List.all_eq_true.1 hB i (List.mem_range.2 hi)
  simpa[ho] using this
def depB (ops:Array Oper) (n:Nat) (o:Oper) (j d:Nat):Bool:=decide (j<n)&&((match ops[j]? with | some oj=>oj.dst==some d | none=>false)&&o.after.any fun e=>Region.binds .any e&&e.on==j)
theorem zaT {n:Nat} {o:Oper} {R:Nat→Value→World→Prop} {a:Act} {w1:World} (h:∀j oj d,j<n→ops[j]?=some oj→(∃e∈o.after,Region.binds .any e=true∧e.on=j)→oj.dst=some d→R j (a.tmps.getD d undef) w1) (j d:Nat) (hB:depB ops n o j d=true):R j (a.tmps.getD d undef) w1:=by
 simp only[depB,Bool.and_eq_true,decide_eq_true_eq] at hB
 obtain ⟨h1,h2,h3⟩:=hB
 cases hj:ops[j]? with
 | none=>rw[hj] at h2;cases h2
 | some oj=>
  rw[hj] at h2
  rw[Array.any_eq_true'] at h3
  obtain ⟨e,he,hb⟩:=h3
  simp only[Bool.and_eq_true,beq_iff_eq] at hb
  exact h j oj d h1 hj ⟨e,he,hb.1,hb.2⟩ (by simpa using h2)
end
end
section
open Go.RowKit
theorem ziT {W:World} {b n:Nat} {l:List Dat} {cs:List Value} (hn:n=l.length) (hm:n≤1000) (hb:b<W.heap.size) (h:CellsD W W.heap.size l cs) (hc:∀j u,cs[j]?=some u→W.cell? ⟨b,j,none⟩=some u):RepS W W.heap.size l (.slice (some ⟨b,0,none⟩) n n):=
 ⟨some ⟨b,0,none⟩,n,n,rfl,hn,Nat.le_refl _,by omega,fun _=>⟨rfl,hb⟩,h.repC fun j u hj=>by rw[Nat.zero_add];exact hc j u hj⟩
theorem zkw {W:World} {b:Nat} {cs:Array Value} {t:TypeId} {fz:Nat × Nat} (h:W.heap[b]?=some (.cells cs t fz)) (j:Nat) {u:Value} (hj:cs[j]?=some u):W.cell? ⟨b,j,none⟩=some u:=by
 unfold World.cell?;rw[h];simpa using hj
theorem zjv {W:World} {b n:Nat} {l:List Dat} {cs:List Value} {t:TypeId} {fz:Nat × Nat} (hn:n=l.length) (hm:n≤1000) (hb:W.heap[b]?=some (.cells cs.toArray t fz)) (h:CellsD W W.heap.size l cs):RepS W W.heap.size l (.slice (some ⟨b,0,none⟩) n n):=
 ziT hn hm (Array.getElem?_eq_some_iff.1 hb).1 h fun j u hj=>zkw hb j (by simpa using hj)
theorem zbT {w w':World} (h:Env w) (hb:Below w.heap.size w w'):Env w':=((EnvAt.of h).kept hb).1
end
section
open Go Go.RowKit
def Rd.At (s:ByteArray) (a:Nat) (r:List UInt8):Prop:=a+r.length=s.size∧s.data.toList.drop a=r
theorem Rd.At.suf {s:ByteArray} {a:Nat} {r q:List UInt8} (h:Rd.At s a r) (hq:q <:+ r):Rd.At s (s.size-q.length) q:=by
 have hl:=hq.length_le
 refine ⟨by have:=h.1;omega,?_⟩
 obtain ⟨u,hu⟩:=hq
 have e:s.size-q.length=a+u.length:=by
  have:=h.1
  rw[←hu,List.length_append] at this
  omega
 rw[e,←List.drop_drop,h.2,←hu,List.drop_left]
theorem Rd.At.pos {s:ByteArray} {a:Nat} {r:List UInt8} (h:Rd.At s a r):a=s.size-r.length:=by have:=h.1;omega
theorem Rd.At.cons {s:ByteArray} {a:Nat} {b:UInt8} {r:List UInt8} (h:Rd.At s a (b::r)):Rd.At s (a+1) r:=by
 have h1:=h.1
 simp only[List.length_cons] at h1
 exact ⟨by omega,by rw[←List.drop_drop,h.2];rfl⟩
theorem Rd.At.zero (s:ByteArray):Rd.At s 0 s.data.toList:=⟨by rw[Nat.zero_add];rfl,rfl⟩
theorem Rd.At.get {s:ByteArray} {a:Nat} {b:UInt8} {r:List UInt8} (h:Rd.At s a (b::r)):∃hlt:a<s.size,s[a]=b:=by
 have h1:=h.1
 simp only[List.length_cons] at h1
 refine ⟨by omega,?_⟩
 have:=congrArg (·[0]?) h.2
 simp only[List.getElem?_drop,Nat.add_zero,List.getElem?_cons_zero] at this
 have h3:=(List.getElem?_eq_some_iff.1 this).2
 rw[←h3]
 rfl
end
section
open Go.RowKit
end
section
open Go.RowKit
end
section
open Go.RowKit
def Five (w:World) (b:Nat) (v0 v1 v2 v3 v4:Value):Prop:=
 w.cell? ⟨b,0,none⟩=some v0∧w.cell? ⟨b,1,none⟩=some v1∧w.cell? ⟨b,2,none⟩=some v2∧w.cell? ⟨b,3,none⟩=some v3∧w.cell? ⟨b,4,none⟩=some v4
theorem zi1 {x:Dat} (h:Dat.right x 0=true):Dat.full x=Dat.text x false:=by unfold Dat.full;rw[h];rfl
end
section
open Go.RowKit
theorem zfN {l:List Dat} {j:Nat} {x:Dat} (h:l[j]?=some x):Dat.list (l.drop j)=Dat.pair x (Dat.list (l.drop (j+1))):=by
 obtain ⟨hj,he⟩:=List.getElem?_eq_some_iff.1 h
 rw[←he,List.drop_eq_getElem_cons hj,Dat.list]
end
section
open Go.RowKit Go.Shelf
attribute [local go_sem] Oper.semAt_some
def SB (S:Nat→Prop) (H b:Nat):Prop:=S b∨(H≤b∧b<H+2)
theorem zdb {W:World} {S:Nat→Prop} {B:Nat} {x y:Dat} {a0 a1 a2 a3 a4 b0 b1 b2 b3 b4 d0 d1 d2 d3 d4:Value} (hB:S B) (hS:∀b,S b→b<W.heap.size) (hx:RepD (hide W S) W.heap.size x (.agg #[a0,a1,a2,a3,a4])) (hy:RepD (hide W S) W.heap.size y (.agg #[b0,b1,b2,b3,b4])) (t:TypeId) :
  RepD (hide ((set5 W B d0 d1 d2 d3 d4).alloc (.cells #[a0,a1,a2,a3,a4,b0,b1,b2,b3,b4] t)) S) ((set5 W B d0 d1 d2 d3 d4).alloc (.cells #[a0,a1,a2,a3,a4,b0,b1,b2,b3,b4] t)).heap.size (Dat.pair x y)
   (.agg #[.int .i64 6,.int .i64 0,.int .i64 0,.string ⟨#[]⟩,.slice (some ⟨W.heap.size,0,none⟩) 2 2]):=by
 have hs:=zao W B d0 d1 d2 d3 d4
 have hk:Shown W S ((set5 W B d0 d1 d2 d3 d4).alloc (.cells #[a0,a1,a2,a3,a4,b0,b1,b2,b3,b4] t)) S:=fun c o u hc h=>⟨hc,by
  rw[World.cell?_alloc_past _ _ _ (by rw[hs];exact zai h),zct _ _ _ _ _ _ _ (fun e=>hc (by subst e;exact hB))];exact h⟩
 have hn:∀i v,#[a0,a1,a2,a3,a4,b0,b1,b2,b3,b4][i]?=some v→(hide ((set5 W B d0 d1 d2 d3 d4).alloc (.cells #[a0,a1,a2,a3,a4,b0,b1,b2,b3,b4] t)) S).cell? ⟨W.heap.size,i,none⟩=some v:=fun i v h=>by
  rw[zaV (fun e=>by have:=hS _ e;omega),World.cell?_alloc_at _ _ _ _ hs.symm];exact h
 refine RepD.shut (by omega) (by omega) (by omega) (by decide) ⟨some ⟨W.heap.size,0,none⟩,2,2,rfl,rfl,by omega,by omega,fun _=>⟨rfl,by simp⟩,?_⟩
 refine RepC.two (hn 0 _ rfl) (hn 1 _ rfl) (hn 2 _ rfl) (hn 3 _ rfl) (hn 4 _ rfl) (hn 5 _ rfl) (hn 6 _ rfl) (hn 7 _ rfl) (hn 8 _ rfl) (hn 9 _ rfl) (hx.shown hk (by simp)) (hy.shown hk (by simp))
def DatPostH (S:Nat→Prop) (x:Dat) (w:World) (e:Ending) (w':World):Prop:=∃v,e=.returned v∧RepD (hide w' S) w'.heap.size x v∧Below w.heap.size w w'
theorem zgE {w W:World} {S:Nat→Prop} {H:Nat} (hH:H=w.heap.size) (hb:Below w.heap.size w W):Shown w S W (SB S H):=fun c o u hc hu=>by
 have hlt:=zai hu
 refine ⟨fun h=>h.elim hc fun h=>by omega,?_⟩
 exact (hb.cell (p:=⟨c,o,none⟩) hlt).trans hu
theorem zjh {W W':World} {S:Nat→Prop} {H:Nat} (hk:∀c o u,¬SB S H c→W.cell? ⟨c,o,none⟩=some u→W'.cell? ⟨c,o,none⟩=some u):Shown W (SB S H) W' S:=fun c o u hc hu=>⟨fun h=>hc (.inl h),hk c o u hc hu⟩
theorem zia (F:Fence) (n:Nat) (hF:F.fn 151) (hro:F.round=none) (hn:1≤n) (ll Bs n₀ B:Nat) (w0 U:World) (hU:∀b o u,U.cell? ⟨b,o,none⟩=some u→w0.cell? ⟨b,o,none⟩=some u) (l:List Dat) (o:Option Addr) (len cap:Nat) (hl:len=l.length) (hcap:len≤cap) (hmax:cap≤9223372036854775807)
  (hv:match o with | none=>l=[]∧cap=0 | some a=>(l≠[]→a.spot=none∧a.block<B)∧RepC U B l a.block a.off) (hB:B≤n₀) (J Jx:List (Item U B)→World→Prop)
  (hY:∀pre x W,J pre W→pre.length<len→YieldAt F (n-1) prog ll #[.int .i64 x.1.1,x.1.2.2] W fun e W'=>
   (e=.returned (.bool true)∧J (pre++[x]) W'∧(Below n₀ W W'∧W'.heap[Bs]?=W.heap[Bs]?))∨(e=.returned (.bool false)∧Jx (pre++[x]) W'))
  (W:World) (hW:Below n₀ w0 W) (hBs:Boxed W Bs 22 (.slice o len cap)) (h0:J [] W) :
  CallsIn F n prog 151 #[.func (.yield ll) #[] #[],.pointer (some ⟨Bs,0,none⟩)] W fun e W'=>(∃v,e=.returned v) ∧
   ((∃ys,ys.map Item.dat=l.reverse∧J ys W')∨(∃pre:List (Item U B),True∧Jx pre W')):=by
 have hs0:=hBs.cell
 have HL:=zh hl
 have HV:=zh hv
 clear hl hv
 refine callsIn_of_wp func151 rfl hF ?_ hro
 simp only[ntmps151,List.size_toArray,List.length_cons,List.length_nil,Nat.reduceAdd,Nat.reduceSub,Array.replicate_succ,Array.replicate_zero,List.push_toArray,List.append_toArray,List.nil_append,List.cons_append]
 gi_wp2
 have HBs:=zh hBs
 clear hBs hs0
 gi_loopw [3] (fun i wr=>∃(i':Int) (pre:List (Item U B)),i=.int .i64 i'∧-1≤i'∧i' < len∧pre.length=(len-1-i').toNat∧pre.map Item.dat=l.reverse.take pre.length∧J pre wr∧Below n₀ w0 wr∧wr.heap[Bs]?=W.heap[Bs]?) (fun i _=>(intOf i+1).toNat)
 case atStart=>exact ⟨_,[],rfl,by omega,by omega,by simp,by simp,h0,hW,rfl⟩
 case round=>
  obtain ⟨i',pre,rfl,h1,h2,h3,h4,hJs,hnx,hbx⟩:=hrel
  have hs1:Boxed wr Bs 22 (.slice o len cap):=hbx.trans HBs.out
  have hs2:=hs1.cell
  have H3:=zh h3
  have H4:=zh h4
  have HX:=zh hbx
  clear h3 h4 hbx hs1
  by_cases hlt:0≤i'
  ·obtain ⟨j,rfl⟩:∃j:Nat,i'=j:=⟨i'.toNat,by omega⟩
   have hj:j<len:=by omega
   obtain ⟨x,hx⟩:∃x,l[j]?=some x:=⟨_,List.getElem?_eq_getElem (by rw[←HL.out];exact hj)⟩
   obtain ⟨b,off,k',n',d',s',l',o',len',cap',ho,hxe,e0,e1,e2,e3,e4,er⟩:=zay HV.out (Below.refl B U) hx
   obtain ⟨b',off',ho',hlt'⟩:∃b' off',o=some ⟨b',off',none⟩∧b' < n₀:=by
    have hvv:=HV.out
    rw[ho] at hvv
    have hne:l≠[]:=by rintro rfl;simp at hx
    exact ⟨b,off,ho,Nat.lt_of_lt_of_le (hvv.1 hne).2 hB⟩
   rw[ho] at ho'
   simp only[Option.some.injEq,Addr.mk.injEq] at ho'
   obtain ⟨rfl,rfl,_⟩:=ho'
   have g:∀i,wr.cell? ⟨b,i,none⟩=w0.cell? ⟨b,i,none⟩:=fun i=>hnx.cell (p:=⟨b,i,none⟩) hlt'
   have f0:=(g _).trans (hU _ _ _ e0)
   have f1:=(g _).trans (hU _ _ _ e1)
   have f2:=(g _).trans (hU _ _ _ e2)
   have f3:=(g _).trans (hU _ _ _ e3)
   have f4:=(g _).trans (hU _ _ _ e4)
   have HXx:=zh hx
   subst ho hxe
   clear g e0 e1 e2 e3 e4 hx
   obtain ⟨fn,tmps,assign,body,hy,hR⟩:=hY pre ⟨((j:Int),_,_),er⟩ wr hJs (by rw[H3.out];omega)
   dsimp only at hy
   gi_wp2
   refine hR.mono ?_
   rintro e W3 (⟨rfl,hJ3,hk3,hk4⟩ | ⟨rfl,hJx3⟩)
   ·have hs3:=(show Boxed W3 Bs 22 (.slice (some ⟨b,off,none⟩) len cap) from hk4.trans (HX.out.trans HBs.out)).cell
    gi_wp2
    go_roundw
    case rel=>
     refine ⟨(j:Int)-1,pre++[_],rfl,by omega,by omega,?_,?_,hJ3,hnx.trans hk3,hk4.trans HX.out⟩
     ·have:=H3.out;simp;omega
     ·have h3:=H3.out
      have hk:j+pre.length+1=l.length:=by rw[←HL.out];omega
      rw[List.map_append,H4.out,List.length_append,List.length_singleton,zkY HXx.out hk];rfl
    case measure=>simp[intOf]
   ·gi_wp2
    refine bodyPost_ret (results_none rfl _ _ _) rfl ?_
    exact ⟨⟨_,rfl⟩,.inr ⟨_,trivial,hJx3⟩⟩
  ·have hH:pre.map Item.dat=l.reverse:=by
    rw[H4.out]
    exact List.take_of_length_le (by have:=H3.out;rw[List.length_reverse,←HL.out];omega)
   have HH:=zh hH
   clear hH
   gi_wp2
   go_end0
   exact ⟨⟨_,rfl⟩,.inl ⟨pre,HH.out,hJs⟩⟩
def ListIH (S:Nat→Prop) (H:Nat) (w:World) {w0:World} {B:Nat} (pre:List (Item w0 B)) (W:World):Prop:=
 ((∃(k n d:Int) (s:ByteArray) (o:Option Addr) (len cap:Nat),Box5 W (H+1) 26 (.int .i64 k) (.int .i64 n) (.int .i64 d) (.string s) (.slice o len cap)∧RepD (hide W (SB S H)) W.heap.size (listUp pre) (.agg #[.int .i64 k,.int .i64 n,.int .i64 d,.string s,.slice o len cap]))∧Box5 W H 26 (.int .i64 0) (.int .i64 0) (.int .i64 0) (.string ⟨#[]⟩) (.slice none 0 0))∧Below H w W∧H+3≤W.heap.size
theorem zeY (S:Nat→Prop) (H:Nat) (w:World) (w0:World) (B n0:Nat) (hw:H≤w.heap.size) (hn:H≤n0):OwnFrom n0 (fun (pre:List (Item w0 B)) W=>ListIH S H w pre W):=by
 refine OwnFrom.and (OwnFrom.and (Own.from ?_ _) (Own.from (zcX _ _ _ _ _ _ _) _)) (OwnFrom.and (ownFrom_below hw hn) (Own.from (fun _ _ _ _ hs hg _=>Nat.le_trans hs hg.size) _))
 rintro s X Y row ⟨k,n,d,st,o,len,cap,hb,hrep⟩ hg hr
 have hb':=zcX (H+1) 26 (fun _:Unit=>.int .i64 k) (fun _=>.int .i64 n) (fun _=>.int .i64 d) (fun _=>.string st) (fun _=>.slice o len cap) () X Y row hb hg hr
 exact ⟨k,n,d,st,o,len,cap,hb',hrep.shown (fun c o u h1 hc=>⟨h1,zf1 hg hr c o u hc⟩) hg.size⟩
theorem zlz (F:Fence) (n:Nat) (hF0:F.fn 87) (hF1:F.fn 111) (hF2:F.fn 151) (hro:F.round=none) (hn:6≤n)
  (S:Nat→Prop) (l:List Dat) (sl:Value) (w:World) (hSb:∀b,S b→b<w.heap.size) (hv:RepS (hide w S) w.heap.size l sl) :
  CallsIn F n prog 87 #[sl] w (DatPostH S (Dat.list l) w):=by
 have h1:1≤n:=by omega
 obtain ⟨o,len,cap,rfl,hl,hcap,hmax,hv⟩:=hv
 have HL:=zh hl
 have HV:=zh hv
 clear hl hv
 refine callsIn_of_wp_marks func87 rfl hF0 ?_ hro
 simp only[ntmps87,List.size_toArray,List.length_cons,List.length_nil,Nat.reduceAdd,Nat.reduceSub,Array.replicate_succ,Array.replicate_zero,List.push_toArray,List.append_toArray,List.nil_append,List.cons_append]
 gi_wp2_with (gi_at_call 111;refine (zjx F (n-1) hF1 hro _ _ _ _).mono ?_;rintro e w' ⟨rfl,rfl⟩)
 obtain ⟨W0,hW0⟩:∃W0,((w.alloc (.cells #[.int .i64 0,.int .i64 0,.int .i64 0,.string ⟨#[]⟩,.slice none 0 0] 26)).alloc (.cells #[.int .i64 4,.int .i64 0,.int .i64 0,.string ⟨#[]⟩,.slice none 0 0] 26)).alloc (.cells #[.slice o len cap] 22)=W0:=⟨_,rfl⟩
 have hB0:Below w.heap.size w W0:=by rw[←hW0];exact (((Below.refl _ w).alloc (Nat.le_refl _) _).alloc (by simp) _).alloc (by simp;omega) _
 have hsz:W0.heap.size=w.heap.size+3:=by rw[←hW0];simp
 have bS:Boxed W0 (w.heap.size+1+1) 22 (.slice o len cap):=by
  rw[←hW0]
  have:=Boxed.new ((w.alloc (.cells #[.int .i64 0,.int .i64 0,.int .i64 0,.string ⟨#[]⟩,.slice none 0 0] 26)).alloc (.cells #[.int .i64 4,.int .i64 0,.int .i64 0,.string ⟨#[]⟩,.slice none 0 0] 26)) 22 (.slice o len cap)
  simp only[World.size_alloc] at this
  exact this
 have b0:Box5 W0 w.heap.size 26 (.int .i64 0) (.int .i64 0) (.int .i64 0) (.string ⟨#[]⟩) (.slice none 0 0):=by
  rw[←hW0];exact ((Box5.new w _ _ _ _ _ _).alloc _).alloc _
 have b1:Box5 W0 (w.heap.size+1) 26 (.int .i64 4) (.int .i64 0) (.int .i64 0) (.string ⟨#[]⟩) (.slice none 0 0):=by
  rw[←hW0]
  have:=(Box5.new (w.alloc (.cells #[.int .i64 0,.int .i64 0,.int .i64 0,.string ⟨#[]⟩,.slice none 0 0] 26)) 26 (.int .i64 4) (.int .i64 0) (.int .i64 0) (.string ⟨#[]⟩) (.slice none 0 0)).alloc (.cells #[.slice o len cap] 22)
  simp only[World.size_alloc] at this
  exact this
 rw[hW0]
 clear hW0
 have hI0:ListIH S w.heap.size w ([]:List (Item (hide w S) w.heap.size)) W0:=
  ⟨⟨⟨_,_,_,_,_,_,_,b1,RepD.shut (by omega) (by omega) (by omega) (by decide) ⟨none,0,0,rfl,rfl,by omega,by omega,rfl,rfl⟩⟩,b0⟩,hB0,by omega⟩
 refine wpIn_rangeFunc_ownH (α:=Item (hide w S) w.heap.size) (encs:=fun x=>#[.int .i64 x.1.1,x.1.2.2]) (Kp:=fun W W'=>Below w.heap.size W W'∧W'.heap[w.heap.size+1+1]?=W.heap[w.heap.size+1+1]?) (S:=fun ys=>ys.map Item.dat=l.reverse) (Sp:=fun _=>True) (N:=len) (w0:=W0) hro h1 (gf:=151) (lb:=#[.pointer (some ⟨w.heap.size+1+1,0,none⟩)]) rfl hF2 (enters_of func151 (by kernel_rfl) rfl)
  ?seq (fun h k=>⟨h.1.trans k.1,k.2.trans h.2⟩) ?kb (Below.refl _ _) (fun _=>rfl)
  (fun pre W=>ListIH S w.heap.size w pre W) (fun _ _ _=>False) (zeY S _ _ _ _ _ (Nat.le_refl _) (by omega)) (fun _ _ _ _ _ hs _ _=>hs) hI0
  (fun x a' W=>∃Bx c0 c1 c2 c3 c4,w.heap.size+2<Bx∧x.1.2.2=.agg #[c0,c1,c2,c3,c4]∧Box5 W Bx 26 c0 c1 c2 c3 c4∧a' = { tmps:=#[.slice o len cap,undef,.pointer (some ⟨w.heap.size,0,none⟩),.pointer (some ⟨w.heap.size+1,0,none⟩),undef,.pointer (some ⟨Bx,0,none⟩),.agg #[.int .i64 4,.int .i64 0,.int .i64 0,.string ⟨#[]⟩,.slice none 0 0],.slice o len cap,.func (.func 151) #[] #[.pointer (some ⟨w.heap.size+1+1,0,none⟩)],.int .i64 x.1.1,.agg #[c0,c1,c2,c3,c4],undef,undef,undef,undef,undef],defers:=[] })
  ?ax ?assign ?body ?done ?stop
 case seq=>
  rintro ll J Jx W hW _ _ hY h0
  exact zia F (n-1) hF2 hro (by omega) ll (w.heap.size+1+1) w.heap.size w.heap.size w (hide w S) (fun _ _ _ h=>(zac h).2) l o len cap HL.out hcap hmax HV.out (Nat.le_refl _) J Jx hY W (hB0.trans (hW.mono (by omega))) ((hW.block _ (by omega)).trans bS) h0
 case kb=>
  intro W k ob ob' hle hk hc hw
  exact ⟨belowK_b (w:=w) (Nat.le_refl _) W k ob ob' (by omega) hk hc hw,World.putObj_heap_other (by omega)⟩
 case ax=>
  rintro x a' _ X Y row ⟨Bx,c0,c1,c2,c3,c4,h1,h2,h3,h4⟩ hg hr
  exact ⟨Bx,c0,c1,c2,c3,c4,h1,h2,zcX Bx 26 (fun _:Unit=>c0) (fun _=>c1) (fun _=>c2) (fun _=>c3) (fun _=>c4) () X Y row h3 hg (fun r e=>(hr r e).2),h4⟩
 case assign=>
  rintro ll pre ⟨⟨i,x,v⟩,hx⟩ W K hI hK
  obtain ⟨k,n',d,s,o',len',cap',rfl⟩:=zae hx
  gi_wp2
  have hS:=hI.2.2
  exact hK _ _ ((KeepsOthers.alloc _ _).from _) ⟨(Below.refl _ W).alloc hI.2.1.size _,Below.heap_alloc _ _ _ (by omega)⟩ ((zeY S w.heap.size w (hide w S) w.heap.size W0.heap.size (Nat.le_refl _) (by omega)).alloc _ hI) ⟨W.heap.size,_,_,_,_,_,by omega,rfl,Box5.new W _ _ _ _ _ _,rfl⟩
 case body=>
  rintro ll pre ⟨⟨i,x,v⟩,hx⟩ a' W hl ⟨r,hr⟩ hI ⟨Bx,c0,c1,c2,c3,c4,hBx,rfl,bX,rfl⟩ hlt
  obtain ⟨⟨⟨ok,on,od,os,oo,ol,oc,b1,hrep⟩,b0⟩,hB,hS⟩:=hI
  obtain ⟨x0,x1,x2,x3,x4⟩:=bX.cells
  obtain ⟨q0,q1,q2,q3,q4⟩:=b1.cells
  obtain ⟨z0,z1,z2,z3,z4⟩:=b1.free
  have g1:=bX.lt
  have g2:=b1.lt
  gi_wp2
  refine ⟨((ziO _ _ _ _ _ _ _).trans (KeepsOthers.alloc _ _)).from _,⟨(zah _ _ _ _ _ _ _ _ (by omega)).alloc (by rw[zao];omega) _,?_⟩,⟨⟨⟨_,_,_,_,_,_,_,(b1.set _ _ _ _ _).alloc _,?_⟩,?_⟩,?_,?_⟩⟩
  ·rw[Below.heap_alloc _ _ _ (by rw[zao];omega),zal _ _ _ _ _ _ _ (by omega)]
  ·rw[zgT]
   exact zdb (.inr (by omega)) (fun b hb=>hb.elim (fun h=>by have:=hSb b h;omega) (fun h=>by omega)) (RepD.shown hx (zgE rfl hB) (by omega)) hrep _
  ·exact (show Box5 (set5 W (w.heap.size+1) _ _ _ _ _) w.heap.size _ _ _ _ _ _ from (zal _ _ _ _ _ _ _ (by omega)).trans b0).alloc _
  ·exact (hB.trans (zah _ _ _ _ _ _ _ _ (by omega))).alloc (by rw[zao];omega) _
  ·simp;omega
 case done=>
  rintro D ys W hD hys ⟨⟨⟨ok,on,od,os,oo,ol,oc,b1,hrep⟩,b0⟩,hB,hS⟩ hK
  obtain ⟨q0,q1,q2,q3,q4⟩:=b1.cells
  obtain ⟨p0,p1,p2,p3,p4⟩:=b0.cells
  obtain ⟨z0,z1,z2,z3,z4⟩:=b0.free
  gi_wp2
  have hD0:D≠w.heap.size:=by omega
  have bN:=b0.set (.int .i64 ok) (.int .i64 on) (.int .i64 od) (.string os) (.slice oo ol oc)
  have hK':=(zal W w.heap.size (.int .i64 ok) (.int .i64 on) (.int .i64 od) (.string os) (.slice oo ol oc) hD0).trans hK
  refine ⟨by simp,.inl ⟨_,_,rfl,run_takeDeferred hK',?_⟩⟩
  have bP:=(show Box5 ((set5 W w.heap.size (.int .i64 ok) (.int .i64 on) (.int .i64 od) (.string os) (.slice oo ol oc)).putObj D (.deferred none)) w.heap.size _ _ _ _ _ _ from (World.putObj_heap_other (Ne.symm hD0)).trans bN)
  obtain ⟨r0,r1,r2,r3,r4⟩:=bP.cells
  refine ⟨.agg #[.int .i64 ok,.int .i64 on,.int .i64 od,.string os,.slice oo ol oc],by simp[results,Tryz.f87,go_sem,r0,r1,r2,r3,r4],_,rfl,?_,?_⟩
  ·rw[←zi0 hys]
   refine hrep.shown (zjh ?_) (by simp)
   intro c o u hc0 h
   have hc:¬(w.heap.size≤c∧c<w.heap.size+2):=fun h=>hc0 (.inr h)
   have h2:c≠D:=by
    rintro rfl
    unfold World.cell? at h
    rw[hK] at h
    cases h
   have h3:(set5 W w.heap.size (.int .i64 ok) (.int .i64 on) (.int .i64 od) (.string os) (.slice oo ol oc)).cell? ⟨c,o,none⟩=some u:=by rw[zct _ _ _ _ _ _ _ (by omega)];exact h
   unfold World.cell? at h3 ⊢
   rw[show ((set5 W w.heap.size (.int .i64 ok) (.int .i64 on) (.int .i64 od) (.string os) (.slice oo ol oc)).putObj D (.deferred none)).heap[c]?=_ from World.putObj_heap_other h2]
   exact h3
  ·exact (hB.trans (zah W w.heap.size w.heap.size _ _ _ _ _ (Nat.le_refl _))).trans (belowK_b (w:=w) (Nat.le_refl _) _ D _ _ (by omega) hK' rfl rfl)
 case stop=>
  rintro D c pre W _ _ h _
  exact h.elim
theorem zaR (S:Nat→Prop) (l:List Dat) (sl:Value) (B:Nat) (w:World) (hSb:∀b,S b→b<w.heap.size) (hv:RepS (hide w S) B l sl) (hB:B≤w.heap.size) :
  Calls prog 87 #[sl] w (DatPostH S (Dat.list l) w):=
 (callsIn_wide (n:=6)).1 (zlz Fence.wide 6 trivial trivial trivial rfl (Nat.le_refl _) S l sl w hSb (hv.wider hB))
def RListIH (S:Nat→Prop) (w:World) (l:List Dat) (j:Nat) (W:World):Prop:=
 ((∃(k n d:Int) (s:ByteArray) (o:Option Addr) (len cap:Nat),Box5 W (w.heap.size+1) 26 (.int .i64 k) (.int .i64 n) (.int .i64 d) (.string s) (.slice o len cap)∧RepD (hide W (SB S w.heap.size)) W.heap.size (Dat.list (l.drop j)) (.agg #[.int .i64 k,.int .i64 n,.int .i64 d,.string s,.slice o len cap]))∧Box5 W w.heap.size 26 (.int .i64 0) (.int .i64 0) (.int .i64 0) (.string ⟨#[]⟩) (.slice none 0 0))∧Below w.heap.size w W∧w.heap.size+2≤W.heap.size
theorem RListIH.drew {S:Nat→Prop} {w W:World} {l:List Dat} {j:Nat} (h:RListIH S w l j W):RListIH S w l j W.drew:=by
 obtain ⟨⟨⟨k,n,d,s,o,len,cap,b1,hrep⟩,b0⟩,hb,hS⟩:=h
 exact ⟨⟨⟨k,n,d,s,o,len,cap,b1,RepD.shown hrep (fun _ _ _ h1 h=>⟨h1,h⟩) (Nat.le_refl _)⟩,b0⟩,hb.drew,hS⟩
theorem zih (S:Nat→Prop) (l:List Dat) (sl:Value) (B:Nat) (w:World) (hSb:∀b,S b→b<w.heap.size) (hv:RepS (hide w S) B l sl) (hB:B≤w.heap.size) :
  Calls prog 67 #[sl] w (DatPostH S (Dat.list l) w):=by
 obtain ⟨o,len,cap,rfl,hl,hcap,hmax,hc⟩:=hv
 have HL:=zh hl
 have HC:=zh hc
 clear hl hc
 go_enter func67,ntmps67
 go_wp2_with fail
 go_loopg [4] (len+1) (fun g i wr=>∃j:Nat,g=j+1∧j≤len∧i=.int .i64 ((j:Int)-1)∧RListIH S w l j wr)
 case atStart=>
  refine ⟨len,rfl,Nat.le_refl _,rfl,⟨⟨4,0,0,⟨#[]⟩,none,0,0,?_,?_⟩,?_⟩,?_,?_⟩
  ·have:=Box5.new (w.alloc (.cells #[.int .i64 0,.int .i64 0,.int .i64 0,.string ⟨#[]⟩,.slice none 0 0] 26)) 26 (.int .i64 4) (.int .i64 0) (.int .i64 0) (.string ⟨#[]⟩) (.slice none 0 0)
   rwa[World.size_alloc] at this
  ·rw[List.drop_of_length_le (by rw[←HL.out];exact Nat.le_refl _)]
   exact RepD.shut (by omega) (by omega) (by omega) (by decide) ⟨none,0,0,rfl,rfl,by omega,by omega,rfl,rfl⟩
  ·exact (Box5.new w _ _ _ _ _ _).alloc _
  ·exact ((Below.refl _ _).alloc (Nat.le_refl _) _).alloc (by simp) _
  ·simp
 case round=>
  obtain ⟨j,rfl,hj,rfl,⟨⟨ok,on,od,os,oo,ol,oc,b1,hrep⟩,b0⟩,hb,hS⟩:=hrel
  obtain ⟨q0,q1,q2,q3,q4⟩:=b1.cells
  obtain ⟨z0,z1,z2,z3,z4⟩:=b1.free
  have g2:=b1.lt
  have HB:=zh hb
  have HREP:=zh hrep
  have B1:=zh b1
  have B0:=zh b0
  clear hb hrep b1
  by_cases hjl:0<j
  ·obtain ⟨i,rfl⟩:∃i,j=i+1:=⟨j-1,by omega⟩
   obtain ⟨x,hx⟩:∃x,l[i]?=some x:=⟨_,List.getElem?_eq_getElem (by rw[←HL.out];omega)⟩
   obtain ⟨b,off,k',n',d',s',l',o',len',cap',ho,hxe,e0,e1,e2,e3,e4,er⟩:=zay HC.out (Below.refl B (hide w S)) hx
   have hU:∀b o u,(hide w S).cell? ⟨b,o,none⟩=some u→wr.cell? ⟨b,o,none⟩=some u:=fun b o u h=>(HB.out.cell (p:=⟨b,o,none⟩) (zai (zac h).2)).trans (zac h).2
   replace e0:=hU _ _ _ e0
   replace e1:=hU _ _ _ e1
   replace e2:=hU _ _ _ e2
   replace e3:=hU _ _ _ e3
   replace e4:=hU _ _ _ e4
   subst ho hxe
   have ER:=zh er
   have HX:=zh hx
   clear hx er b0 hU
   go_wp2_with fail
   go_region
   all_goals go_wp2_with fail
   all_goals go_roundg (i+1)
   case measure=>omega
   case rel=>
    refine ⟨i,rfl,by omega,rfl,RListIH.drew ⟨⟨⟨_,_,_,_,_,_,_,(B1.out.set _ _ _ _ _).alloc _,?_⟩,?_⟩,?_,?_⟩⟩
    ·rw[zfN HX.out]
     exact zdb (.inr (by omega)) (fun b hb=>hb.elim (fun h=>by have:=hSb b h;omega) (fun h=>by omega)) (RepD.shown ER.out (zgE rfl HB.out) (by omega)) HREP.out _
    ·exact (show Box5 (set5 wr (w.heap.size+1) _ _ _ _ _) w.heap.size _ _ _ _ _ _ from (zal _ _ _ _ _ _ _ (by omega)).trans B0.out).alloc _
    ·exact (HB.out.trans (zah _ _ _ _ _ _ _ _ (by omega))).alloc (by rw[zao];omega) _
    ·simp;omega
  ·obtain rfl:j=0:=by omega
   obtain ⟨y0,y1,y2,y3,y4⟩:=b0.free
   obtain ⟨p0,p1,p2,p3,p4⟩:=b0.cells
   go_wp2_with fail
   have bN:=b0.set (.int .i64 ok) (.int .i64 on) (.int .i64 od) (.string os) (.slice oo ol oc)
   obtain ⟨r0,r1,r2,r3,r4⟩:=bN.cells
   refine bodyPost_ret (v:=.agg #[.int .i64 ok,.int .i64 on,.int .i64 od,.string os,.slice oo ol oc]) (by simp[results,results67,go_sem,r0,r1,r2,r3,r4]) rfl ⟨_,rfl,?_,?_⟩
   ·exact HREP.out.shown (zjh fun c o u hc h=>by
     show (set5 wr w.heap.size _ _ _ _ _).cell? ⟨c,o,none⟩=_
     rw[zct _ _ _ _ _ _ _ (fun e=>hc (.inr (by omega)))];exact h) (by simp)
   ·exact HB.out.trans (zah wr w.heap.size w.heap.size _ _ _ _ _ (Nat.le_refl _))
end
end Go.Proofs.YtnbjhmafnigefaaGreatDoor
