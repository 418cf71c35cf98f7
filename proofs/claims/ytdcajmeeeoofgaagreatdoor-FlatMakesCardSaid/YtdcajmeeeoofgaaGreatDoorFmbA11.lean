/- .. -/
import Derived.BigQuiet
import Derived.Deep.RegionWith
import Derived.Test.YtdcajmeeeoofgaaGreatDoorFmbA10
open Go.Proofs.Tryz
set_option maxRecDepth 100000
set_option maxHeartbeats 16000000
namespace Go.Proofs.YtdcajmeeeoofgaaGreatDoor
section
open Go.RowKit
theorem newsG {α:Type} {w:World} {size:Nat} {R:α→List Value→Prop} {b:Nat}:∀(l:List α) (off:Nat),(∀i x,l[i]?=some x→∃cs:List Value,cs.length=size∧(∀j u,cs[j]?=some u→w.cell? ⟨b,off+i*size+j,none⟩=some u)∧R x cs)→∃xs,CellsG size R l xs∧∀j u,xs[j]?=some u→w.cell? ⟨b,off+j,none⟩=some u
 | [],_,_=>⟨[],rfl,fun j u h=>by simp at h⟩
 | x::l,off,h=>by
  obtain ⟨cs,h1,h2,h3⟩:=h 0 x rfl
  obtain ⟨r,g1,g2⟩:=newsG l (off+size) fun i y hy=>by
   obtain ⟨ds,k1,k2,k3⟩:=h (i+1) y (by simpa using hy)
   refine ⟨ds,k1,fun j u hj=>?_,k3⟩
   have:=k2 j u hj
   rwa[show off+(i+1)*size+j=off+size+i*size+j by rw[Nat.add_mul];omega] at this
  refine ⟨cs++r,⟨cs,r,rfl,h1,h3,g1⟩,fun j u hj=>?_⟩
  by_cases hlt:j<size
  ·rw[List.getElem?_append_left (by omega)] at hj
   have:=h2 j u hj
   rwa[Nat.zero_mul,Nat.add_zero] at this
  ·rw[List.getElem?_append_right (by omega),h1] at hj
   have:=g2 _ u hj
   rwa[show off+size+(j-size)=off+j by omega] at this
theorem zeB:(prog.info? 43).map (fun i=>(i.zero,i.size,i.bytes))=some (some (.agg #[.slice none 0 0,.bool false,.int .i64 0,.int .i64 0,.slice none 0 0,.slice none 0 0]),6,96):=by kernel_rfl
theorem zcd {w:World} {B:Nat} {c:Cod} {cs:List Value} (h:CodR w B c cs):∃ov lv cv q r u q' r' u',cs=[.slice ov lv cv,.bool c.rest,.int .i64 c.body.op,.int .i64 c.body.n,.slice q r u,.slice q' r' u']∧SlC w B 1 IntR c.v (.slice ov lv cv)∧TrmR w B c.body [.int .i64 c.body.op,.int .i64 c.body.n,.slice q r u,.slice q' r' u']:=by
 obtain ⟨vs,b0,b1,b2,b3,rfl,h1,h2⟩:=h
 obtain ⟨v,rest,⟨op,n,bv,bt⟩⟩:=c
 obtain ⟨vs',ts',he,h3,h4,h5,h6⟩:=zas.1 h2
 simp only[List.cons.injEq,and_true] at he
 obtain ⟨rfl,rfl,rfl,rfl⟩:=he
 obtain ⟨ov,lv,cv,rfl⟩:=h1.form
 obtain ⟨q,r,u,rfl⟩:=h5.form
 obtain ⟨q',r',u',rfl⟩:=h6.form
 exact ⟨_,_,_,_,_,_,_,_,_,rfl,h1,h2⟩
theorem zfb {w:World} {B:Nat}:∀{l:List Cod} {xs:List Value},CellsG 6 (CodR w B) l xs→∀u∈xs,u.oneCell'=true
 | [],_,h,u,hu=>by rw[CellsG] at h;subst h;cases hu
 | c::l,xs,⟨cs,r,he,_,hc,hr⟩,u,hu=>by
  subst he
  obtain ⟨ov,lv,cv,q,r0,u0,q',r',u',rfl,_⟩:=zcd hc
  rcases List.mem_append.1 hu with hu | hu
  ·simp only[List.mem_cons,List.not_mem_nil,or_false] at hu
   rcases hu with rfl | rfl | rfl | rfl | rfl | rfl<;>rfl
  ·exact zfb hr u hu
theorem zgo (l:List Cod) (v:Value) (B:Nat) (w:World) (hv:SlC w B 6 (CodR w B) l v) (_hB:B≤w.heap.size) (hm:l.length≤1000000) :
  Calls prog 15 #[v] w fun e w'=>∃v' xs,e=.returned v'∧w'.ownsRow w.heap.size 43 6 v' l.length xs∧CellsG 6 (CodR w B) l xs∧(∃o len cap,v'=.slice o len cap)∧Below w.heap.size w w':=by
 obtain ⟨o,len,cap,rfl,hlen,hcap,hmax,h4⟩:=hv
 have HL:=zh hlen
 have hm':len≤1000000:=by omega
 cases o with
 | none=>
  obtain ⟨rfl,rfl⟩:=h4
  simp at hlen
  subst hlen
  clear HL
  have he:=fun (w:World)=>Lib.run_eql_slice_nil (P:=prog) w 23 43 none 0 0 0 0 underlying23
  go_enter func15,ntmps15
  go_wp2_with fail
  go_ret
  exact ⟨_,[],rfl,World.ownsRow_nil _ _ _ _,rfl,⟨_,_,_,rfl⟩,Below.refl _ _⟩
 | some a=>
  obtain ⟨xs,hc,hr⟩:=newsG l a.off h4.2
  have hxl:=hc.length
  have hcell:∀j u,xs[j]?=some u→w.cell? (a.add j)=some u:=fun j u hj=>by
   have hne:l≠[]:=fun h=>by
    have h1:=(List.getElem?_eq_some_iff.1 hj).1
    rw[hxl,h] at h1
    simp at h1
   rw[zaP (h4.1 hne).1]
   exact hr j u hj
  have he:=fun (w:World)=>Lib.run_eql_slice_nil (P:=prog) w 23 43 (some a) len cap 0 0 underlying23
  have HO:=zh (zaN (W:=w) (b:=w.heap.size) (base:=w.heap.size) rfl (Nat.le_refl _) 43 6 0 [] rfl (by unfold maxLen;omega))
  obtain ⟨i0,hi,hz0,hz1,hz2⟩:=info_parts zeB
  have HXL:=zh (show xs.length=len*6 from by rw[hxl,←hlen])
  have HC:=zh hc
  have HCELL:=zh (show ∀j u,xs[j]?=some u→(w.alloc (.cells [].toArray 43)).cell? (a.add j)=some u from fun j u hj=>by
   have h:=hcell j u hj
   have hsp:=zbr h
   rw[show (a.add j)=⟨(a.add j).block,(a.add j).off,(a.add j).spot⟩ from rfl,hsp.1] at h ⊢
   exact keepC (Below.one w _) h)
  clear hlen hxl hc hr hcell h4
  go_enter func15,ntmps15
  go_wp2_with (at_builtin;refine wpList_append_own _ rfl (.tmp 5) (.tmp 6) 23 rfl w.heap.size 43 i0 (.agg #[.slice none 0 0,.bool false,.int .i64 0,.int .i64 0,.slice none 0 0,.slice none 0 0]) 6 96 underlying23 hi hz0 hz1 hz2 rfl (by decide) (.slice (some ⟨w.heap.size,0,none⟩) 0 0) 0 [] rfl HO.out a len cap xs rfl HXL.out HCELL.out (zfb HC.out) (by unfold maxLen;omega) (by omega) (by simp) ?_)
  intro v' w2 hown hgrow _
  have HR:=zh (show w2.ownsRow w.heap.size 43 6 v' l.length xs from by rw[←HL.out];simpa using hown)
  have HB:=zh (show Below w.heap.size w w2 from (Below.one w _).grown hgrow (by simp) (fun g hg=>by simp[Value.ownBlock] at hg;omega))
  obtain ⟨o',l',c',rfl⟩:∃o' l' c',v'=.slice o' l' c':=by
   rcases hown.2 with ⟨h,_⟩ | ⟨g,cap,cur,h,_⟩
   ·exact ⟨_,_,_,h⟩
   ·exact ⟨_,_,_,h⟩
  clear hown hgrow
  go_wp2_with fail
  go_ret
  exact ⟨_,xs,rfl,HR.out,HC.out,⟨_,_,_,rfl⟩,HB.out⟩
end
section
open Go Go.RowKit
namespace Peep
open Unt
end Peep
theorem zdG (p:Proc) (hal:p.alive=[]) (c0 c1 c2 c3 c4 d0 d1 d2 d3 d4:Value) (B:Nat) (w:World) (hx:ProcR w B p [c0,c1,c2,c3,c4]) (hy:ProcR w B p [d0,d1,d2,d3,d4]) (hB:B≤w.heap.size) (hm:p.code.length≤100000) :
  Calls prog 21 #[.agg #[c0,c1,c2,c3,c4],.agg #[d0,d1,d2,d3,d4]] w fun e w'=>e=.returned (.bool true)∧Below w.heap.size w w':=by
 obtain ⟨args,rest,regs,code,alive⟩:=p
 dsimp only at hal hm
 subst hal
 obtain ⟨sl,al,he,_,_,hsl,hal⟩:=hx
 obtain ⟨sl',al',he',_,_,hsl',hal'⟩:=hy
 simp only[List.cons.injEq,and_true] at he he'
 obtain ⟨rfl,rfl,rfl,rfl,rfl⟩:=he
 obtain ⟨rfl,rfl,rfl,rfl,rfl⟩:=he'
 obtain ⟨o,m,c,rfl⟩:=hsl.form
 obtain ⟨o',m',c',rfl⟩:=hsl'.form
 obtain ⟨oa,la,ca,rfl⟩:=hal.form
 obtain ⟨oa',la',ca',rfl⟩:=hal'.form
 obtain rfl:la=0:=hal.lens.1
 obtain rfl:la'=0:=hal'.lens.1
 dsimp only at hsl hsl'
 have HM:=zh hsl.lens.1
 have hmm:m'=m:=by rw[hsl'.lens.1,hsl.lens.1]
 subst hmm
 have hmle:m'≤100000:=by rw[hsl.lens.1];exact hm
 have HS:=zh hsl
 have HS':=zh hsl'
 obtain ⟨W,hW⟩:∃W,(w.alloc (.cells #[.int .i64 args,.bool rest,.int .i64 regs,.slice o m' c,.slice oa 0 ca] 47)).alloc (.cells #[.int .i64 args,.bool rest,.int .i64 regs,.slice o' m' c',.slice oa' 0 ca'] 47)=W:=⟨_,rfl⟩
 have HX:=zh (show BoxL W w.heap.size 47 [.int .i64 args,.bool rest,.int .i64 regs,.slice o m' c,.slice oa 0 ca] from by rw[←hW];exact (BoxL.new rfl _ _).alloc _)
 have HY:=zh (show BoxL W (w.heap.size+1) 47 [.int .i64 args,.bool rest,.int .i64 regs,.slice o' m' c',.slice oa' 0 ca'] from by rw[←hW];exact BoxL.new (by simp) _ _)
 have HWB:=zh (show Below w.heap.size w W from by rw[←hW];exact (Below.one w _).trans ((Below.one _ _).mono (by simp)))
 have HWE:=zh hW
 have HR0:=zh (Below.refl W.heap.size W)
 clear hsl hsl' hal hal' hm hW
 go_enter func21,ntmps21
 go_upto_region 4 with fail
 rw[HWE.out]
 go_wp2_with fail
 go_loopg [5] m' (fun G i wr=>∃j:Nat,G=m' - j∧j≤m'∧i=.int .i64 j∧Hid (Below W.heap.size W wr))
 case atStart=>exact ⟨0,rfl,by omega,rfl,HR0⟩
 case round=>
  obtain ⟨j,rfl,hj,rfl,HW⟩:=hrel
  clear HR0
  have x3:=(HX.out.keep HW.out).cell 3 rfl
  have y3:=(HY.out.keep HW.out).cell 3 rfl
  have x4:=(HX.out.keep HW.out).cell 4 rfl
  have hxl:=(HX.out.keep HW.out).lt
  have hyl:=(HY.out.keep HW.out).lt
  have HBW:=zh (show Below B w wr from (Below.next HWB.out HW.out).mono hB)
  by_cases hjm:j<m'
  ·obtain ⟨x,hx⟩:∃x,code[j]?=some x:=⟨_,List.getElem?_eq_getElem (by rw[←HM.out];exact hjm)⟩
   obtain ⟨b1,f1,cs1,ho1,hb1,hcl1,hcell1,hi1⟩:=HS.out.at HBW.out hx
   obtain ⟨b2,f2,cs2,ho2,hb2,hcl2,hcell2,hi2⟩:=HS'.out.at HBW.out hx
   subst ho1 ho2
   match cs1,hcl1,cs2,hcl2 with
   | [s0,s1,s2,s3,s4],_,[t0,t1,t2,t3,t4],_=>
    have e0:=hcell1 0 _ rfl
    have e1:=hcell1 1 _ rfl
    have e2:=hcell1 2 _ rfl
    have e3:=hcell1 3 _ rfl
    have e4:=hcell1 4 _ rfl
    have g0:=hcell2 0 _ rfl
    have g1:=hcell2 1 _ rfl
    have g2:=hcell2 2 _ rfl
    have g3:=hcell2 3 _ rfl
    have g4:=hcell2 4 _ rfl
    rw[Nat.add_zero] at e0 g0
    have hws:w.heap.size≤wr.heap.size:=(Below.next HWB.out HW.out).size
    have HJ:=zh (fun (V:World) (hV:V=wr.drew)=>zd0 x s0 s1 s2 s3 s4 t0 t1 t2 t3 t4 B V (hi1.kept (by rw[hV];exact HBW.out.drew)) (hi2.kept (by rw[hV];exact HBW.out.drew)) (by rw[hV];exact Nat.le_trans hB hws))
    obtain ⟨op,d,a,b,l⟩:=x
    obtain ⟨sl1,he1,_,_,_,_,hl1⟩:=hi1
    obtain ⟨sl2,he2,_,_,_,_,hl2⟩:=hi2
    obtain ⟨p1,n1,q1,rfl⟩:=hl1.form
    obtain ⟨p2,n2,q2,rfl⟩:=hl2.form
    simp only[List.cons.injEq,and_true] at he1 he2
    obtain ⟨rfl,rfl,rfl,rfl,rfl⟩:=he1
    obtain ⟨rfl,rfl,rfl,rfl,rfl⟩:=he2
    have hbl1:=zac e0
    have hbl2:=zac g0
    clear hcell1 hcell2 hcl1 hcl2 hl1 hl2 hx
    go_upto_region 6 with fail
    refine zaa (fun V=>V=wr.drew) 10 (by kernel_rfl) (by kernel_rfl) rfl ?_
    intro T _ Wd HWd HWd2
    have a0:=fun s=>za5 (HWd s) e0
    have a1:=fun s=>za5 (HWd s) e1
    have a2:=fun s=>za5 (HWd s) e2
    have a3:=fun s=>za5 (HWd s) e3
    have a4:=fun s=>za5 (HWd s) e4
    have b0:=fun s=>za5 (HWd s) g0
    have b1':=fun s=>za5 (HWd s) g1
    have b2':=fun s=>za5 (HWd s) g2
    have b3:=fun s=>za5 (HWd s) g3
    have b4:=fun s=>za5 (HWd s) g4
    have z1:=fun s=>za5 (HWd s) x3
    have z2:=fun s=>za5 (HWd s) y3
    have HWH:=zh HWd
    clear HWd HWd2
    simp only[List.take_succ_cons,List.take_zero,List.drop_succ_cons,List.drop_zero]
    repeat (go_big_quiet_step (fail))
    refine wpQuiet_nil ?_
    intro s
    go_wp2_with fail
    refine (HJ.out _ (HWH.out s)).mono ?_
    rintro e w7 ⟨rfl,hb7⟩
    have HW7:=zh (show Below W.heap.size W w7 from Below.next (by rw[HWH.out s];exact HW.out.drew) hb7)
    clear hb7 HJ a0 a1 a2 a3 a4 b0 b1' b2' b3 b4 z1 z2 e0 e1 e2 e3 e4 g0 g1 g2 g3 g4
    go_wp2_with fail
    go_roundg (m' - (j+1))
    case measure=>omega
    case rel=>exact ⟨j+1,rfl,by omega,by go_num,HW7⟩
  ·obtain rfl:j=m':=by omega
   have HWF:=zh (Below.next HWB.out HW.out)
   have HZ:=zh (Below.refl wr.heap.size wr)
   obtain ⟨wo,rfl⟩:∃wo:World,wo=wr:=⟨_,rfl⟩
   go_wp2_with fail
   go_loopg [6] 0 (fun G i wq=>G=0∧i=.int .i64 0∧wo=wq)
   case atStart=>exact ⟨rfl,rfl,rfl⟩
   case round=>
    obtain ⟨rfl,rfl,rfl⟩:=hrel
    go_wp2_with fail
    go_ret
    exact ⟨rfl,HWF.out⟩
end
section
open Go Go.RowKit
end
section
open Go Go.RowKit
theorem zi1 (pb cb mb g n cap k:Nat) (r q:Int) (mv:Value) (w:World) (L:List Value)
  (hp:BoxL w pb 74 [.pointer (some ⟨mb,0,none⟩)]) (hc:BoxL w cb 3 [.int .i64 k]) (hm:BoxL w mb 77 [.slice (some ⟨g,0,none⟩) n cap,.int .i64 r,mv]) (hg:BoxL w g 49 L)
  (h0:L[k*5]?=some (.int .i64 15)) (h2:L[k*5+2]?=some (.int .i64 q)) (hk:k<n) (_hn:n≤1000000) :
  Calls prog 104 #[.pointer (some ⟨pb,0,none⟩),.pointer (some ⟨cb,0,none⟩)] w fun e w'=>e=.returned (.tuple #[])∧∃j,w'=(w.drewN j).setCell ⟨g,k*5+2,none⟩ (.int .i64 n):=by
 have p0:=hp.cell 0 rfl
 have pl:=hp.lt
 have c0:=hc.cell 0 rfl
 have cl:=hc.lt
 have m0:=hm.cell 0 rfl
 have ml:=hm.lt
 have g0:=hg.cell (k*5) h0
 have g2:=hg.cell (k*5+2) h2
 have f2:=hg.free (k*5+2)
 have gl:=hg.lt
 clear hp hc hm hg h0 h2
 go_enter func104,ntmps104
 go_upto_region 0 with fail
 go_quiet (fail)
 go_upto_region 1 with fail
 go_region
 all_goals (go_wp2_with fail;go_end0;exact ⟨rfl,_,rfl⟩)
theorem zjM (pb cb mb g n cap k:Nat) (r p q:Int) (mv:Value) (w:World) (L:List Value)
  (hp:BoxL w pb 74 [.pointer (some ⟨mb,0,none⟩)]) (hc:BoxL w cb 3 [.int .i64 k]) (hm:BoxL w mb 77 [.slice (some ⟨g,0,none⟩) n cap,.int .i64 r,mv]) (hg:BoxL w g 49 L)
  (h0:L[k*5]?=some (.int .i64 p)) (hne:p≠15) (h3:L[k*5+3]?=some (.int .i64 q)) (hk:k<n) (_hn:n≤1000000) :
  Calls prog 104 #[.pointer (some ⟨pb,0,none⟩),.pointer (some ⟨cb,0,none⟩)] w fun e w'=>e=.returned (.tuple #[])∧∃j,w'=(w.drewN j).setCell ⟨g,k*5+3,none⟩ (.int .i64 n):=by
 have p0:=hp.cell 0 rfl
 have pl:=hp.lt
 have c0:=hc.cell 0 rfl
 have cl:=hc.lt
 have m0:=hm.cell 0 rfl
 have ml:=hm.lt
 have g0:=hg.cell (k*5) h0
 have g3:=hg.cell (k*5+3) h3
 have f3:=hg.free (k*5+3)
 have gl:=hg.lt
 have fp:(p==15)=false:=by simpa using hne
 clear hp hc hm hg h0 h3 hne
 go_enter func104,ntmps104
 go_upto_region 0 with fail
 go_quiet (fail)
 go_upto_region 2 with fail
 go_region
 all_goals (go_wp2_with fail;go_end0;exact ⟨rfl,_,rfl⟩)
end
section
open Go
def turnT (ops:Array Oper) (n m p:Nat) (U:Nat→Bool):Bool:=monoB ops n m&&(freeN ops n p U && !U p)
where
 freeN (ops:Array Oper) (n p:Nat) (U:Nat→Bool):Bool:=(List.range n).all fun i=>decide (i=p) || match ops[i]? with | some o=>o.after.all fun e=>!Region.binds .any e || !U e.on | none=>true
theorem zbB {P:Program} {id:Nat} {Q:Exit→Act→World→Prop} {a0:Act} {w:World} {l:List Oper} (n p:Nat) (U:Nat→Bool) (R:Nat→Value→World→Prop) (Ext Ext':World→World→Prop) (hm:P.follows .mixedOrders=true) (hB:turnT l.toArray n a0.tmps.size p U=true)
  (htr:∀{A B C:World},Ext A B→Ext B C→Ext A C) (htr':∀{A B C:World},Ext' A B→Ext' B C→Ext' A C) (hE:∀{A B:World},Ext w.drew A→Ext' A B→Ext A B) (h0:Ext w.drew w.drew) (h0':Ext' w.drew w.drew)
  (hR:∀i v A B,i≠p→U i=false→R i v A→Ext A B→R i v B) (hU:∀i v A B,U i=true→R i v A→Ext' A B→R i v B) (hRp:∀v A B,R p v A→Ext' A B→R p v B)
  (hops:∀i o,i<n→l.toArray[i]?=some o→∀(a:Act) (w1:World),a.defers=a0.defers→a.tmps.size=a0.tmps.size→Ext w.drew w1→(i=p→Ext' w.drew w1)→(∀j oj d,j<n→l.toArray[j]?=some oj→(∃e∈o.after,Region.binds .any e=true∧e.on=j)→oj.dst=some d→R j (a.tmps.getD d undef) w1)→Rest l.toArray n a0 a →
   wpList P l.toArray (StepPost R (if i=p then Ext else Ext') i o a w1) [o] a w1)
  (hend:∀a w1,a.defers=a0.defers→a.tmps.size=a0.tmps.size→Ext w.drew w1→(∀i o d,i<n→U i=false→l.toArray[i]?=some o→o.dst=some d→R i (a.tmps.getD d undef) w1)→Rest l.toArray n a0 a→wpList P l.toArray Q (l.drop n) a w1) :
  (Code.region id l.toArray true).wp P Q a0 w:=by
 simp only[turnT,Bool.and_eq_true] at hB
 obtain ⟨hmono,hfr,hUp⟩:=hB
 have hUp:U p=false:=by simpa using hUp
 have hB':=hmono
 simp only[monoB,monoG,Bool.and_eq_true,decide_eq_true_eq] at hB'
 obtain ⟨⟨_,_,_,hn,hsl,_⟩,hgd⟩:=hB'
 have hfree:∀i o,i<n→l.toArray[i]?=some o→i≠p→∀e∈o.after,Region.binds .any e=true→U e.on=false:=fun i o hi ho hip e he hb=>by
  have h1:=List.all_eq_true.1 hfr i (List.mem_range.2 hi)
  simp only[ho,Bool.or_eq_true,decide_eq_true_eq,hip,false_or] at h1
  have h2:=Array.all_eq_true_iff_forall_mem.1 h1 e he
  simpa[hb] using h2
 refine zdx n (fun listed a W=>Ext w.drew W∧(listed.getD p false=false→Ext' w.drew W)∧∀i o d,i<n→l.toArray[i]?=some o→listed.getD i false=true→o.dst=some d→(U i=false∨listed.getD p false=false)→R i (a.tmps.getD d undef) W) hm hmono ⟨h0,fun _=>h0',fun i o d _ _ h=>by rw[getD_replicate_false] at h;cases h⟩ ?_ ?_
 ·intro i o hi ho listed a w1 hls hdf hsz hrest ⟨hex,hex',hval⟩ hun hdeps
  have hg:Region.wanted o (yielded l.toArray a.tmps)=true:=by simp[Region.wanted,zfd hgd hi ho]
  have hlt:i<listed.size:=by rw[hls];omega
  have hstep:=hops i o hi ho a w1 hdf hsz hex (fun e=>hex' (by rw[←e];exact hun)) (fun j oj d hj hoj ⟨e,he,hb,hon⟩ hd=>hval j oj d hj hoj (by have:=hdeps e he hb;rwa[hon] at this) hd (by
   by_cases hip:i=p
   ·exact .inr (by rw[←hip];exact hun)
   ·exact .inl (by rw[←hon];exact hfree i o hi ho hip e he hb))) hrest
  unfold wpList
  rw[if_pos hg]
  left
  refine Oper.wp_mono ?_ (zbn (ops:=l.toArray) (K:=fun a' w'=>∃v,a'=a.put o.dst v∧R i v w'∧(if i=p then Ext else Ext') w1 w') hg hstep)
  rintro a' w' ⟨v,rfl,hv,hx⟩
  have hx':Ext w1 w':=by
   by_cases e:i=p
   ·rwa[if_pos e] at hx
   ·rw[if_neg e] at hx;exact hE hex hx
  refine ⟨rfl,v,rfl,htr hex hx',fun hl=>?_,fun j oj d hj hoj hl hd hor=>?_⟩
  ·by_cases e:i=p
   ·subst e
    simp[hlt] at hl
   ·rw[if_neg e] at hx
    rw[getD_set_ne false e] at hl
    exact htr' (hex' hl) hx
  ·by_cases e:i=j
   ·subst e
    obtain rfl:oj=o:=Option.some.inj (hoj.symm.trans ho)
    have hd':=(zbX hsl hi hi ho ho hd hd).1
    rw[hd,zbE (by rw[hsz];exact hd'),if_pos rfl]
    exact hv
   ·rw[getD_set_ne false e] at hl
    have hor':U j=false∨listed.getD p false=false:=by
     rcases hor with h | h
     ·exact .inl h
     ·refine .inr ?_
      by_cases e':i=p
      ·subst e'
       simp[hlt] at h
      ·rwa[getD_set_ne false e'] at h
    have hold:=hval j oj d hj hoj hl hd hor'
    have hsame:(a.put o.dst v).tmps.getD d undef=a.tmps.getD d undef:=by
     cases hdo:o.dst with
     | none=>rfl
     | some d'=>
      obtain ⟨hd',hne⟩:=zbX hsl hi hj ho hoj hdo hd
      rw[zbE (by rw[hsz];exact hd'),if_neg (hne.resolve_left e)]
    rw[hsame]
    by_cases ep:j=p
    ·subst ep
     rw[if_neg e] at hx
     exact hRp _ _ _ hold hx
    ·cases hu:U j with
     | false=>exact hR j _ _ _ ep hu hold hx'
     | true=>
      rcases hor with h | h
      ·rw[hu] at h;cases h
      ·have hip:i≠p:=fun e'=>by subst e';simp[hlt] at h
       rw[if_neg hip] at hx
       exact hU j _ _ _ hu hold hx
 ·intro listed a w1 hall hdf hsz hrest ⟨hex,_,hval⟩
  exact hend a w1 hdf hsz hex (fun i o d hi hu ho hd=>hval i o d hi ho (hall i hi) hd (.inl hu)) hrest
end
section
namespace Trm
mutual
def rchk (nc nk:Int) (fr:Bool):Trm→List Int→Int→Int × List Int→Option (Int × List Int)
 | mk op n v t,sc,deep,s=>
  if (decide (deep≤400)&&(decide (s.1+1≤20000)&&(sortB op&&(countsB op v.length t.length&&numberB nc nk fr (fun x=>sc.contains x) op n))))=true then
   (if newB (fun _=>false) (s.2++v)=true then rchkL nc nk fr op v t sc deep (s.1+1,s.2++v) else none)
  else none
def rchkL (nc nk:Int) (fr:Bool):Int→List Int→List Trm→List Int→Int→Int × List Int→Option (Int × List Int)
 | _,_,[],_,_,s=>some s
 | _,v,[x],sc,deep,s=>rchk nc nk fr x (sc++v) (deep+1) s
 | op,v,x::y::l,sc,deep,s=>
  if op=9∧x.op≠19 then none
  else match rchk nc nk fr x (if op=9 then sc++v else sc) (deep+1) s with
   | some s'=>rchkL nc nk fr op v (y::l) sc deep s'
   | none=>none
end
theorem za7 (sc v:List Int):addV (fun x=>sc.contains x) v=fun x=>(sc++v).contains x:=by
 funext x
 simp[addV,Bool.decide_or]
def RSay (x:Trm):Prop:=∀(nc nk:Int) (fr:Bool) (sc:List Int) (deep:Int) (s r:Int × List Int),newB (fun _=>false) s.2=true→rchk nc nk fr x sc deep s=some r→wf nc nk fr x (fun y=>sc.contains y)=true∧r=(s.1+x.all,s.2++x.bnd)∧newB (fun _=>false) (s.2++x.bnd)=true∧s.1+x.all≤20000
theorem rsayL:∀(t:List Trm),(∀x∈t,RSay x)→∀(op:Int) (v:List Int) (nc nk:Int) (fr:Bool) (sc:List Int) (deep:Int) (s r:Int × List Int),newB (fun _=>false) s.2=true→s.1≤20000→rchkL nc nk fr op v t sc deep s=some r→wfL nc nk fr op v t (fun y=>sc.contains y)=true∧r=(s.1+allL t,s.2++bndL t)∧newB (fun _=>false) (s.2++bndL t)=true∧s.1+allL t≤20000
 | [],_,op,v,nc,nk,fr,sc,deep,s,r,hn,hs,h=>by
  rw[rchkL] at h
  obtain rfl:=Option.some.inj h
  simp only[wfL,allL,bndL,List.append_nil]
  exact ⟨trivial,by simp,hn,by simpa using hs⟩
 | [x],ih,op,v,nc,nk,fr,sc,deep,s,r,hn,hs,h=>by
  rw[rchkL] at h
  have h1:=ih x (by simp) nc nk fr _ _ s r hn h
  rw[wfL,za7]
  simpa[allL,bndL] using h1
 | x::y::l,ih,op,v,nc,nk,fr,sc,deep,s,r,hn,hs,h=>by
  rw[rchkL] at h
  by_cases h9:op=9∧x.op≠19
  ·rw[if_pos h9] at h;cases h
  rw[if_neg h9] at h
  cases hx:rchk nc nk fr x (if op=9 then sc++v else sc) (deep+1) s with
  | none=>rw[hx] at h;cases h
  | some s'=>
   rw[hx] at h
   have h1:=ih x (by simp) nc nk fr _ _ s s' hn hx
   obtain ⟨h1,rfl,h3,h4⟩:=h1
   have h2:=rsayL (y::l) (fun z hz=>ih z (by simp[hz])) op v nc nk fr sc deep _ r h3 h4 h
   obtain ⟨g1,rfl,g3,g4⟩:=h2
   rw[wfL]
   refine ⟨?_,?_,?_,?_⟩
   ·rw[g1,Bool.and_true]
    by_cases ho:op=9
    ·rw[if_pos ho] at h1 ⊢
     have:x.op=19:=by
      by_cases hx9:x.op=19
      ·exact hx9
      ·exact absurd ⟨ho,hx9⟩ h9
     rw[za7,h1,this]
     rfl
    ·rw[if_neg ho] at h1 ⊢
     exact h1
   ·rw[allL.eq_2 x,bndL.eq_2 x]
    simp only[List.append_assoc,Prod.mk.injEq,and_true]
    omega
   ·rw[bndL.eq_2 x]
    simpa only[List.append_assoc] using g3
   ·rw[allL.eq_2 x]
    dsimp only at g4
    omega
theorem rsay (x:Trm):RSay x:=by
 induction x using Trm.ind with
 | _ op n v t ih=>
 intro nc nk fr sc deep s r hn h
 rw[rchk] at h
 split at h
 ·rename_i hc
  split at h
  ·rename_i hv
   simp only[Bool.and_eq_true,decide_eq_true_eq] at hc
   obtain ⟨_,h2,h3,h4,h5⟩:=hc
   have h6:=rsayL t ih op v nc nk fr sc deep _ r hv h2 h
   obtain ⟨g1,rfl,g3,g4⟩:=h6
   rw[wf,h3,h4,h5,g1]
   refine ⟨rfl,?_,?_,?_⟩
   ·rw[all,bnd]
    simp only[List.append_assoc,Prod.mk.injEq,and_true]
    omega
   ·rw[bnd]
    simpa only[List.append_assoc] using g3
   ·rw[all]
    dsimp only at g4
    omega
  ·cases h
 ·cases h
def RTake (x:Trm):Prop:=∀(nc nk:Int) (fr:Bool) (sc:List Int) (deep:Int) (s:Int × List Int),wf nc nk fr x (fun y=>sc.contains y)=true→newB (fun _=>false) (s.2++x.bnd)=true→s.1+x.all≤20000→deep+x.all≤401→rchk nc nk fr x sc deep s=some (s.1+x.all,s.2++x.bnd)
theorem rtakeL:∀(t:List Trm),(∀x∈t,RTake x)→∀(op:Int) (v:List Int) (nc nk:Int) (fr:Bool) (sc:List Int) (deep:Int) (s:Int × List Int),wfL nc nk fr op v t (fun y=>sc.contains y)=true→newB (fun _=>false) (s.2++bndL t)=true→s.1+allL t≤20000→deep+1+allL t≤401→rchkL nc nk fr op v t sc deep s=some (s.1+allL t,s.2++bndL t)
 | [],_,op,v,nc,nk,fr,sc,deep,s,_,_,_,_=>by rw[rchkL];simp[allL,bndL]
 | [x],ih,op,v,nc,nk,fr,sc,deep,s,hw,hn,hs,hd=>by
  simp only[allL,bndL,List.append_nil,Nat.add_zero] at hn hs hd ⊢
  rw[wfL,za7] at hw
  rw[rchkL]
  exact ih x (by simp) nc nk fr _ _ s hw hn hs hd
 | x::y::l,ih,op,v,nc,nk,fr,sc,deep,s,hw,hn,hs,hd=>by
  rw[wfL,Bool.and_eq_true] at hw
  rw[bndL.eq_2 x,←List.append_assoc] at hn
  rw[allL.eq_2 x] at hs hd
  have h0:op=9→x.op=19∧wf nc nk fr x (fun z=>(sc++v).contains z)=true:=fun ho=>by
   have h:=hw.1
   rw[if_pos ho,Bool.and_eq_true,za7] at h
   exact ⟨of_decide_eq_true h.1,h.2⟩
  have h1:wf nc nk fr x (fun z=>(if op=9 then sc++v else sc).contains z)=true:=by
   by_cases ho:op=9
   ·rw[if_pos ho];exact (h0 ho).2
   ·have h:=hw.1
    rw[if_neg ho] at h ⊢
    exact h
  have h2:=ih x (by simp) nc nk fr _ (deep+1) s h1 (zaO hn) (by omega) (by omega)
  rw[rchkL,if_neg (fun h=>h.2 (h0 h.1).1),h2]
  dsimp only
  rw[rtakeL (y::l) (fun z hz=>ih z (by simp[hz])) op v nc nk fr sc deep _ hw.2 hn (by dsimp only;omega) (by omega),allL.eq_2 x,bndL.eq_2 x]
  simp only[List.append_assoc,Option.some.injEq,Prod.mk.injEq,and_true]
  omega
theorem rtake (x:Trm):RTake x:=by
 induction x using Trm.ind with
 | _ op n v t ih=>
 intro nc nk fr sc deep s hw hn hs hd
 rw[wf] at hw
 simp only[Bool.and_eq_true] at hw
 obtain ⟨h1,h2,h3,h4⟩:=hw
 rw[bnd,←List.append_assoc] at hn
 rw[all] at hs hd
 rw[rchk,h1,h2,h3,if_pos (by simp only[Bool.and_true,Bool.and_eq_true,decide_eq_true_eq];omega),if_pos (zaO hn),rtakeL t ih op v nc nk fr sc deep _ h4 hn (by dsimp only;omega) (by omega),all,bnd]
 simp only[List.append_assoc,Option.some.injEq,Prod.mk.injEq,and_true]
 omega
end Trm
namespace Mdl
def rcodes (nc nk:Int):List Cod→Int × List Int→Option (Int × List Int)
 | [],s=>some s
 | c::l,s=>
  if (Trm.newB (fun _=>false) (s.2++c.v)&&(!c.rest || decide (0<c.v.length)))=true then
   (match Trm.rchk nc nk true c.body c.v 0 (s.1,s.2++c.v) with
    | some s'=>rcodes nc nk l s'
    | none=>none)
  else none
def rokB (m:Mdl):Bool:=(m.consts.all fun x=>Dat.right x 0)&&(match Trm.rchk m.consts.length m.codes.length false m.body [] 0 (0,[]) with
 | some s=>(rcodes m.consts.length m.codes.length m.codes s).isSome
 | none=>false)
end Mdl
end
section
open Go Go.RowKit
def plainR (nc nk:Int) (fr:Bool) (sc:Int→Bool) (l v:List Int) (ts:List Trm):Bool:=okL nc nk fr sc l (ts.take (ts.length-1))&&(Trm.newB (fun _=>false) (l++Trm.bndL (ts.take (ts.length-1))++v)&&okL nc nk fr (Trm.addV sc v) (l++Trm.bndL (ts.take (ts.length-1))++v) (ts.drop (ts.length-1)))
theorem TrmS.at0 {W:World} {B:Nat} {l:List Trm} {o:Option Addr} {len cap:Nat} (h:TrmS W B l (.slice o len cap)) {i:Nat} {x:Trm} (hx:l[i]?=some x):∃b off,∃c0 c1 c2 c3:Value,o=some ⟨b,off,none⟩∧TrmR W B x [c0,c1,c2,c3]:=by
 obtain ⟨b,off,cs,ho,hlt,hcl,hcell,hr⟩:=SlC.at h (Below.refl _ _) hx
 match cs,hcl with
 | [c0,c1,c2,c3],_=>exact ⟨b,off,c0,c1,c2,c3,ho,hr⟩
def slv:Option Addr→Nat→Nat→Value
 | none,_,_=>.slice none 0 0
 | some a,lt,ct=>.slice (some (if ct=lt-1 then a else a.add ((lt-1)*4))) (lt-(lt-1)) (ct-(lt-1))
theorem zdH {W:World} {B:Nat} {ts:List Trm} {lt ct:Nat} (h:TrmS W B ts (.slice none lt ct)):lt=0∧ct=0:=by
 obtain ⟨o',l',c',he,h1,_,_,h4⟩:=h
 simp only[Value.slice.injEq] at he
 obtain ⟨rfl,rfl,rfl⟩:=he
 exact ⟨by rw[h1,h4.1];rfl,h4.2⟩
theorem zhx {W:World} {B:Nat} {ts:List Trm} {ot:Option Addr} {lt ct:Nat} (h:TrmS W B ts (.slice ot lt ct)):TrmS W B (ts.drop (lt-1)) (slv ot lt ct):=by
 have hl:=(SlC.lens h).1
 have hc:=(SlC.lens h).2.1
 have hm:=(SlC.lens h).2.2
 cases ot with
 | none=>
  obtain ⟨rfl,rfl⟩:=zdH h
  rw[List.eq_nil_of_length_eq_zero hl.symm]
  exact ⟨none,0,0,rfl,rfl,Nat.le_refl _,by omega,rfl,rfl⟩
 | some a=>
  by_cases h0:lt=0
  ·subst h0
   rw[List.eq_nil_of_length_eq_zero hl.symm]
   exact ⟨_,_,_,rfl,rfl,by omega,by omega,fun h=>absurd rfl h,fun i x hx=>by simp at hx⟩
  ·obtain ⟨L,rfl⟩:∃L,lt=L+1:=⟨lt-1,by omega⟩
   obtain ⟨x,hx⟩:∃x,ts[L]?=some x:=⟨_,List.getElem?_eq_getElem (by omega)⟩
   obtain ⟨b,off,c0,c1,c2,c3,ho,_⟩:=TrmS.at0 h hx
   simp only[Option.some.injEq] at ho
   subst ho
   have h1:=SlC.drops (n:=L) h (by omega)
   have h2:SlC W B 4 (TrmR W B) (ts.drop L) (.slice (some ⟨b,off+L*4,none⟩) 1 (ct-L)):=by simpa using h1
   have hne:¬ct=L:=by omega
   show SlC W B 4 (TrmR W B) (ts.drop (L+1-1)) (slv (some ⟨b,off,none⟩) (L+1) ct)
   have h3:slv (some ⟨b,off,none⟩) (L+1) ct=.slice (some ⟨b,off+L*4,none⟩) 1 (ct-L):=by
    simp only[slv,Nat.add_sub_cancel,if_neg hne]
    rw[zaP rfl,show L+1-L=1 by omega]
   rw[h3,Nat.add_sub_cancel]
   exact h2
theorem zfy {nc nk:Int} {fr:Bool} {sc:Int→Bool} {l l':List Int} (h:l.Perm l') {ts:List Trm}:okL nc nk fr sc l ts=okL nc nk fr sc l' ts:=by
 unfold okL
 rw[Trm.newB_perm (h.append_right (Trm.bndL ts))]
theorem zcF {w10 w11:World} {cb bb sb:Nat} {nc nk:Int} {fr:Bool} {size:Int} {l' v:List Int} {sc:Int→Bool} (hcs:ChkS w10 cb bb sb nc nk fr size l' (Trm.addV sc v)) (hm:MapVB w11 sb l'.length (fun x=>Trm.addV sc v x && !v.contains x)) (ht:Turned (fun b=>b=sb) w10 w11) (hd:∀x,sc x=true→x∉v):ChkS w11 cb bb sb nc nk fr size l' sc:=by
 refine ⟨ht.box hcs.box (fun e=>zaD hcs.scope hcs.box e),hcs.bound.same (ht.block _ hcs.bound.lt (fun e=>hcs.ne e)),?_,hcs.new,hcs.ne⟩
 have e:sc=fun x=>Trm.addV sc v x && !v.contains x:=by
  funext x
  by_cases hx:x∈v
  ·have:sc x=false:=by
    cases h:sc x with
    | false=>rfl
    | true=>exact absurd hx (hd x h)
   simp[Trm.addV,hx,this]
  ·simp[Trm.addV,hx]
 rw[e]
 exact hm
theorem GoodR.keep {w w':World} {cb bb sb:Nat} {nc nk:Int} {fr:Bool} {size:Int} {l b:List Int} {sc:Int→Bool} (h:GoodR cb bb sb nc nk fr size l b sc w) (hb:Below w.heap.size w w'):GoodR cb bb sb nc nk fr size l b sc w':=let ⟨l',hp,hc⟩:=h;⟨l',hp,hc.keep hb⟩
end
section
open Go Go.RowKit
theorem zeX (l:List Dat) (v u:Value) (B:Nat) (w:World) (hv:RepS w B l v) (hu:RepS w B l u) (hB:B≤w.heap.size) :
  Calls prog 20 #[v,u] w fun e w'=>e=.returned (.bool true)∧Below w.heap.size w w':=by
 obtain ⟨o1,n1,c1,rfl,hn1,hc1,hm1,hk1⟩:=hv
 obtain ⟨o2,n2,c2,rfl,hn2,hc2,hm2,hk2⟩:=hu
 have HK1:=zh hk1
 have HK2:=zh hk2
 have HN1:=zh hn1
 obtain rfl:n1=n2:=by rw[hn1,hn2]
 clear hk1 hk2 hn1 hn2
 go_enter func20,ntmps20
 go_wp2_with fail
 go_loopg [5] n1 (fun g i wr=>∃j:Nat,g=n1-j∧j≤n1∧i=.int .i64 j∧Hid (Below w.heap.size w wr))
 case atStart=>exact ⟨0,rfl,by omega,rfl,zh (Below.refl _ _)⟩
 case round=>
  obtain ⟨j,rfl,hj,rfl,HW⟩:=hrel
  by_cases hjl:j<n1
  ·obtain ⟨x,hx⟩:∃x,l[j]?=some x:=⟨_,List.getElem?_eq_getElem (by rw[←HN1.out];exact hjl)⟩
   obtain ⟨b,off,k',n',d',s',l',o',len',cap',ho,hxe,e0,e1,e2,e3,e4,er⟩:=za8 HK1.out (HW.out.mono hB) hx
   obtain ⟨b',off',k'',n'',d'',s'',l'',o'',len'',cap'',ho',hxe',f0,f1,f2,f3,f4,fr⟩:=za8 HK2.out (HW.out.mono hB) hx
   subst ho ho'
   have hbl:=zac e0
   have hbl':=zac f0
   have HER:=zh er
   have HFR:=zh fr
   have hxx:=hxe.symm.trans hxe'
   have HXX:=zh hxx
   have HD:=zh ((Below.refl wr.heap.size wr).drew)
   have hzw:B≤wr.heap.size:=Nat.le_trans hB HW.out.size
   clear hx hxe hxe' er fr hxx
   go_wp2_with fail
   refine zab (Below wr.heap.size wr) (by kernel_rfl) (by kernel_rfl) HD.out ?_
   intro T0 _ WW HWW HWW2
   have a0:∀t,(WW t).cell? _=_:=fun t=>((HWW t).cell (p:=⟨b,off+j*5,none⟩) hbl).trans e0
   have a1:∀t,(WW t).cell? _=_:=fun t=>((HWW t).cell (p:=⟨b,off+j*5+1,none⟩) hbl).trans e1
   have a2:∀t,(WW t).cell? _=_:=fun t=>((HWW t).cell (p:=⟨b,off+j*5+2,none⟩) hbl).trans e2
   have a3:∀t,(WW t).cell? _=_:=fun t=>((HWW t).cell (p:=⟨b,off+j*5+3,none⟩) hbl).trans e3
   have a4:∀t,(WW t).cell? _=_:=fun t=>((HWW t).cell (p:=⟨b,off+j*5+4,none⟩) hbl).trans e4
   have b0:∀t,(WW t).cell? _=_:=fun t=>((HWW t).cell (p:=⟨b',off'+j*5,none⟩) hbl').trans f0
   have b1:∀t,(WW t).cell? _=_:=fun t=>((HWW t).cell (p:=⟨b',off'+j*5+1,none⟩) hbl').trans f1
   have b2:∀t,(WW t).cell? _=_:=fun t=>((HWW t).cell (p:=⟨b',off'+j*5+2,none⟩) hbl').trans f2
   have b3:∀t,(WW t).cell? _=_:=fun t=>((HWW t).cell (p:=⟨b',off'+j*5+3,none⟩) hbl').trans f3
   have b4:∀t,(WW t).cell? _=_:=fun t=>((HWW t).cell (p:=⟨b',off'+j*5+4,none⟩) hbl').trans f4
   have HWH:=zh HWW
   have HW2:=zh HWW2
   have HC:Hid (∀t,Calls prog 42 #[.agg #[.int .i64 k',.int .i64 n',.int .i64 d',.string s',.slice o' len' cap'],.agg #[.int .i64 k'',.int .i64 n'',.int .i64 d'',.string s'',.slice o'' len'' cap'']] (WW t) fun e w'=>e=.returned (.bool true)∧∃t',w'=WW t'):=zh (fun t=>zak HW2.out ((zih _ _ _ _ B (WW t) true (by rw[←HXX.out];exact Dat.alike_self _) (HER.out.kept ((HWH.out t).mono hzw)) (HFR.out.kept ((HWH.out t).mono hzw)) (Nat.le_trans hzw (HWH.out t).size)).mono fun e w' h=>⟨h.1,Below.next (HWH.out t) h.2⟩))
   clear HWW HWW2 e0 e1 e2 e3 e4 f0 f1 f2 f3 f4
   repeat (go_big_quiet_step (first | (go_at_call 42;exact HC.out _) | fail))
   refine wpQuiet_nil ?_
   intro t
   have HN:=zh (HW.out.trans ((HWH.out t).mono HW.out.size))
   clear a0 a1 a2 a3 a4 b0 b1 b2 b3 b4 HC
   go_wp2_with fail
   go_roundg (n1-(j+1))
   case measure=>omega
   case rel=>exact ⟨j+1,rfl,by omega,by go_num,HN⟩
  ·go_wp2_with fail
   go_ret
   exact ⟨rfl,HW.out⟩
theorem zhg (u:Unt) (v v':Value) (B:Nat) (w:World) (hv:UntR w B u v) (hv':UntR w B u v') (hB:B≤w.heap.size) (hp:∀p∈u.procs,p.alive=[]∧p.code.length≤100000) :
  Calls prog 8 #[v,v'] w fun e w'=>e=.returned (.bool true)∧Below w.heap.size w w':=by
 obtain ⟨cv,pv,rfl,hc,hpr⟩:=hv
 obtain ⟨cv',pv',rfl,hc',hpr'⟩:=hv'
 have HC:=zh hc
 have HC':=zh hc'
 obtain ⟨o0,l0,c0,rfl,hx0⟩:=hc
 obtain ⟨o0',l0',c0',rfl,hx0'⟩:=hc'
 obtain ⟨o1,np,c1,rfl⟩:=hpr.form
 obtain ⟨o1',np',c1',rfl⟩:=hpr'.form
 obtain rfl:np=np':=by rw[hpr.lens.1,hpr'.lens.1]
 have HP:=zh hpr
 have HP':=zh hpr'
 have HN:=zh hpr.lens.1
 have HAL:=zh hp
 have hl1:=hpr.lens.2
 have hl2:=hpr'.lens.2
 clear hx0 hx0' hpr hpr' hp
 obtain ⟨W2,hW2⟩:∃W2,(w.alloc (.cells #[.slice o0 l0 c0,.slice o1 np c1] 34)).alloc (.cells #[.slice o0' l0' c0',.slice o1' np c1'] 34)=W2:=⟨_,rfl⟩
 have HB2:=zh (show Below w.heap.size w W2 from by rw[←hW2];exact (Below.one w _).trans ((Below.one _ _).mono (by simp)))
 have HX:=zh (show BoxL W2 w.heap.size 34 [.slice o0 l0 c0,.slice o1 np c1] from by rw[←hW2];exact (BoxL.new rfl _ _).alloc _)
 have HX':=zh (show BoxL W2 (w.heap.size+1) 34 [.slice o0' l0' c0',.slice o1' np c1'] from by rw[←hW2];exact BoxL.new (by simp) _ _)
 have HW2:=zh hW2
 have HCC:=zh (zeX u.consts _ _ B W2 (HC.out.kept (HB2.out.mono hB)) (HC'.out.kept (HB2.out.mono hB)) (Nat.le_trans hB HB2.out.size))
 clear hW2
 go_enter func8,ntmps8
 go_upto_region 1 with fail
 rw[HW2.out]
 have x0:=HX.out.cell 0 rfl
 have xl:=HX.out.lt
 have y0:=HX'.out.cell 0 rfl
 have yl:=HX'.out.lt
 go_wp2_with fail
 with_reducible refine HCC.out.mono ?_
 rintro e w3 ⟨rfl,hb3⟩
 have HB3:=zh (HB2.out.trans (hb3.mono HB2.out.size))
 have HX3:=zh (HX.out.keep hb3)
 have HX3':=zh (HX'.out.keep hb3)
 clear hb3 HCC x0 xl y0 yl
 have x1:=HX3.out.cell 1 rfl
 have xl:=HX3.out.lt
 have y1:=HX3'.out.cell 1 rfl
 have yl:=HX3'.out.lt
 go_wp2_with fail
 go_loopg [5] np (fun g i wr=>∃j:Nat,g=np-j∧j≤np∧i=.int .i64 j∧Hid (Below w3.heap.size w3 wr))
 case atStart=>exact ⟨0,rfl,by omega,rfl,zh (Below.refl _ _)⟩
 case round=>
  obtain ⟨j,rfl,hj,rfl,HW⟩:=hrel
  clear x1 xl y1 yl
  have HBW:=zh (HB3.out.trans (HW.out.mono HB3.out.size))
  have HXR:=zh (HX3.out.keep HW.out)
  have HXR':=zh (HX3'.out.keep HW.out)
  by_cases hjl:j<np
  ·obtain ⟨p,hx⟩:∃p,u.procs[j]?=some p:=⟨_,List.getElem?_eq_getElem (by rw[←HN.out];exact hjl)⟩
   have hmem:=List.mem_of_getElem? hx
   obtain ⟨b,off,cs,ho,_,hcl,hcell,hr⟩:=HP.out.at (HBW.out.mono hB) hx
   obtain ⟨b',off',cs',ho',_,hcl',hcell',hr'⟩:=HP'.out.at (HBW.out.mono hB) hx
   subst ho ho'
   match cs,hcl,cs',hcl' with
   | [s0,s1,s2,s3,s4],_,[t0,t1,t2,t3,t4],_=>
    have e0:=hcell 0 _ rfl
    have e1:=hcell 1 _ rfl
    have e2:=hcell 2 _ rfl
    have e3:=hcell 3 _ rfl
    have e4:=hcell 4 _ rfl
    have f0:=hcell' 0 _ rfl
    have f1:=hcell' 1 _ rfl
    have f2:=hcell' 2 _ rfl
    have f3:=hcell' 3 _ rfl
    have f4:=hcell' 4 _ rfl
    simp only[Nat.add_zero] at e0 f0
    have hbl:=zac e0
    have hbl':=zac f0
    have HR:=zh hr
    have HR':=zh hr'
    have HM:=zh hmem
    have HD:=zh ((Below.refl wr.heap.size wr).drew)
    clear hx hmem hcell hcell' hr hr'
    have x1:=HXR.out.cell 1 rfl
    have xl:=HXR.out.lt
    go_upto_region 6 with fail
    clear x1 xl
    refine zab (Below wr.heap.size wr) (by kernel_rfl) (by kernel_rfl) HD.out ?_
    intro T0 _ WW HWW HWW2
    have x1:∀t,(WW t).cell? _=_:=fun t=>((HWW t).cell (p:=⟨w.heap.size,1,none⟩) HXR.out.lt).trans (HXR.out.cell 1 rfl)
    have y1:∀t,(WW t).cell? _=_:=fun t=>((HWW t).cell (p:=⟨w.heap.size+1,1,none⟩) HXR'.out.lt).trans (HXR'.out.cell 1 rfl)
    have a0:∀t,(WW t).cell? _=_:=fun t=>((HWW t).cell (p:=⟨b,off+j*5,none⟩) hbl).trans e0
    have a1:∀t,(WW t).cell? _=_:=fun t=>((HWW t).cell (p:=⟨b,off+j*5+1,none⟩) hbl).trans e1
    have a2:∀t,(WW t).cell? _=_:=fun t=>((HWW t).cell (p:=⟨b,off+j*5+2,none⟩) hbl).trans e2
    have a3:∀t,(WW t).cell? _=_:=fun t=>((HWW t).cell (p:=⟨b,off+j*5+3,none⟩) hbl).trans e3
    have a4:∀t,(WW t).cell? _=_:=fun t=>((HWW t).cell (p:=⟨b,off+j*5+4,none⟩) hbl).trans e4
    have b0:∀t,(WW t).cell? _=_:=fun t=>((HWW t).cell (p:=⟨b',off'+j*5,none⟩) hbl').trans f0
    have b1:∀t,(WW t).cell? _=_:=fun t=>((HWW t).cell (p:=⟨b',off'+j*5+1,none⟩) hbl').trans f1
    have b2:∀t,(WW t).cell? _=_:=fun t=>((HWW t).cell (p:=⟨b',off'+j*5+2,none⟩) hbl').trans f2
    have b3:∀t,(WW t).cell? _=_:=fun t=>((HWW t).cell (p:=⟨b',off'+j*5+3,none⟩) hbl').trans f3
    have b4:∀t,(WW t).cell? _=_:=fun t=>((HWW t).cell (p:=⟨b',off'+j*5+4,none⟩) hbl').trans f4
    have HWH:=zh HWW
    have HW2':=zh HWW2
    have HCS:Hid (∀t,Calls prog 21 #[.agg #[s0,s1,s2,s3,s4],.agg #[t0,t1,t2,t3,t4]] (WW t) fun e w'=>e=.returned (.bool true)∧∃t',w'=WW t'):=zh (fun t=>zak HW2'.out ((zdG p (HAL.out p HM.out).1 s0 s1 s2 s3 s4 t0 t1 t2 t3 t4 B (WW t) (HR.out.kept ((HBW.out.trans ((HWH.out t).mono HBW.out.size)).mono hB)) (HR'.out.kept ((HBW.out.trans ((HWH.out t).mono HBW.out.size)).mono hB)) (by have:=HBW.out.size;have:=(HWH.out t).size;omega) (HAL.out p HM.out).2).mono fun e w' h=>⟨h.1,Below.next (HWH.out t) h.2⟩))
    clear HWW HWW2 e0 e1 e2 e3 e4 f0 f1 f2 f3 f4
    repeat (go_big_quiet_step (first | (go_at_call 21;exact HCS.out _) | fail))
    refine wpQuiet_nil ?_
    intro t
    have HN2:=zh (HW.out.trans ((HWH.out t).mono HW.out.size))
    clear x1 y1 a0 a1 a2 a3 a4 b0 b1 b2 b3 b4 HCS
    go_wp2_with fail
    go_roundg (np-(j+1))
    case measure=>omega
    case rel=>exact ⟨j+1,rfl,by omega,by go_num,HN2⟩
  ·have x1:=HXR.out.cell 1 rfl
   have xl:=HXR.out.lt
   go_wp2_with fail
   go_ret
   exact ⟨rfl,HBW.out⟩
end
section
open Go Go.RowKit
def IntsM (W:World) (S:Nat→Prop) (l:List Int) (v:Value):Prop:=SlC W W.heap.size 1 IntR l v∧∀b,v.ownBlock=some b→l≠[]→¬S b
def InsM (W:World) (S:Nat→Prop) (x:Ins) (cs:List Value):Prop:=∃sl,cs=[.int .i64 x.op,.int .i64 x.d,.int .i64 x.a,.int .i64 x.b,sl]∧I64 x.op∧I64 x.d∧I64 x.a∧I64 x.b∧IntsM W S x.l sl
theorem IntsM.kept {W W':World} {S S' S'':Nat→Prop} {l:List Int} {v:Value} (h:IntsM W S l v) (ht:Turned S'' W W') (h2:∀b,b<W.heap.size→S'' b→S b) (hS:∀b,b<W.heap.size→S' b→S b):IntsM W' S' l v:=by
 obtain ⟨⟨o,len,cap,rfl,h1,h2',h3,h4⟩,h5⟩:=h
 by_cases hl:l=[]
 ·subst hl
  refine ⟨⟨o,len,cap,rfl,h1,h2',h3,?_⟩,fun _ _ h=>absurd rfl h⟩
  cases o with
  | none=>exact h4
  | some a=>exact ⟨fun h=>absurd rfl h,fun i x hx=>by simp at hx⟩
 cases o with
 | none=>exact absurd h4.1 hl
 | some a=>
  have hb:=(h4.1 hl).2
  have hn:=h5 a.block rfl hl
  refine ⟨⟨some a,len,cap,rfl,h1,h2',h3,fun _=>⟨(h4.1 hl).1,Nat.lt_of_lt_of_le hb ht.size⟩,fun i x hx=>?_⟩,fun b hbb _ hs=>?_⟩
  ·obtain ⟨cs,g1,g2,g3⟩:=h4.2 i x hx
   refine ⟨cs,g1,fun j u hj=>?_,g3⟩
   have:=g2 j u hj
   unfold World.cell? at this ⊢
   rw[ht.block a.block hb (fun hs=>hn (h2 _ hb hs))]
   exact this
  ·have e:a.block=b:=by simpa[Value.ownBlock] using hbb
   subst e
   exact hn (hS _ hb hs)
theorem InsM.kept {W W':World} {S S' S'':Nat→Prop} {x:Ins} {cs:List Value} (h:InsM W S x cs) (ht:Turned S'' W W') (h2:∀b,b<W.heap.size→S'' b→S b) (hS:∀b,b<W.heap.size→S' b→S b):InsM W' S' x cs:=by
 obtain ⟨sl,a,b,c,d,e,f⟩:=h
 exact ⟨sl,a,b,c,d,e,f.kept ht h2 hS⟩
theorem IntsM.nil (W:World) (S:Nat→Prop):IntsM W S [] (.slice none 0 0):=⟨⟨none,0,0,rfl,rfl,by omega,by omega,rfl,rfl⟩,fun _ h=>by simp[Value.ownBlock] at h⟩
theorem IntsM.of_row {W:World} {S:Nat→Prop} {base:Nat} {l:List Int} {v:Value} (h:W.ownsRow base 3 1 v l.length (l.map (Value.int .i64))) (hl:∀x∈l,I64 x) (hS:∀b,v.ownBlock=some b→¬S b):IntsM W S l v:=⟨rowInts h hl,fun b hb _=>hS b hb⟩
theorem IntsM.drops {W:World} {S:Nat→Prop} {l:List Int} {b off len cap n:Nat} (h:IntsM W S l (.slice (some ⟨b,off,none⟩) len cap)) (hn:n≤len):IntsM W S (l.drop n) (.slice (some ⟨b,off+n,none⟩) (len-n) (cap-n)):=
 ⟨by simpa using h.1.drops hn,fun c hc hne=>h.2 c (by simpa[Value.ownBlock] using hc) fun e=>hne (by rw[e];simp)⟩
def SM (mb vb:Nat) (cv:Value) (b:Nat):Prop:=b=mb∨b=vb∨cv.ownBlock=some b
structure MkS (W:World) (base mb vb:Nat) (cv:Value) (X:Nat→Prop) (s:MSt):Prop where
 box:BoxL W mb 77 [cv,.int .i64 s.regs,.map (some vb)]
 row:∃xs,W.ownsRow base 49 5 cv s.code.length xs∧CellsG 5 (InsM W (fun b=>SM mb vb cv b∨X b)) s.code xs
 vars:MapVI W vb s.vars.length (Mk.lkL s.vars)
theorem zbt {W:World} {b c n:Nat} {f:Int→Int} {t:TypeId} {cs:List Value} (h:MapVI W b n f) (hc:BoxL W c t cs):c≠b:=fun e=>by
 subst e
 obtain ⟨D,⟨es,clock,hb,_⟩,_⟩:=h
 rw[show W.heap[c]?=_ from hc] at hb
 simp at hb
theorem zbP {W:World} {base b c n k size:Nat} {f:Int→Int} {t:TypeId} {v:Value} {xs:List Value} (h:MapVI W b n f) (ho:W.ownsRow base t size v k xs) (hc:v.ownBlock=some c):c≠b:=fun e=>by
 subst e
 obtain ⟨D,⟨es,clock,hb,_⟩,_⟩:=h
 obtain ⟨cs,f,hr⟩:=zaF ho c hc
 rw[hr] at hb
 simp at hb
theorem zan {W:World} {base n size c:Nat} {e:TypeId} {v:Value} {xs:List Value} (h:W.ownsRow base e size v n xs) (hc:v.ownBlock=some c):c<W.heap.size:=by
 obtain ⟨cs,f,hr⟩:=zaF h c hc
 exact (Array.getElem?_eq_some_iff.1 hr).1
theorem zao {W:World} {base n size c:Nat} {e:TypeId} {v:Value} {xs:List Value} (h:W.ownsRow base e size v n xs) (hc:v.ownBlock=some c):base≤c:=by
 rcases h.2 with ⟨rfl,_⟩ | ⟨g,cap,cur,rfl,hb,_⟩
 ·simp[Value.ownBlock] at hc
 ·have e:g=c:=by simpa[Value.ownBlock] using hc
  omega
theorem zaM {W W':World} {base n size:Nat} {e:TypeId} {v:Value} {xs:List Value} (h:W.ownsRow base e size v n xs) (hb:∀c,v.ownBlock=some c→W'.heap[c]?=W.heap[c]?):W'.ownsRow base e size v n xs:=by
 refine ⟨h.1,?_⟩
 rcases h.2 with h0 | ⟨g,cap,cur,rfl,h2,h3,h4⟩
 ·exact .inl h0
 ·exact .inr ⟨g,cap,cur,rfl,h2,(hb g rfl).trans h3,h4⟩
theorem MkS.lt {W:World} {base mb vb:Nat} {cv:Value} {X:Nat→Prop} {s:MSt} (h:MkS W base mb vb cv X s):∀b,SM mb vb cv b→b<W.heap.size:=fun b hb=>by
 rcases hb with rfl | rfl | hb
 ·exact h.box.lt
 ·exact h.vars.lt
 ·obtain ⟨xs,hr,_⟩:=h.row
  exact zan hr hb
theorem MkS.keep {W W':World} {base mb vb:Nat} {cv:Value} {X X':Nat→Prop} {s:MSt} {S:Nat→Prop} (h:MkS W base mb vb cv X s) (ht:Turned S W W') (hS:∀b,b<W.heap.size→S b→X b∧¬SM mb vb cv b) (hX:∀b,b<W.heap.size→X' b→X b):MkS W' base mb vb cv X' s:=by
 obtain ⟨xs,hr,hc⟩:=h.row
 exact ⟨ht.box h.box (fun hs=>(hS _ h.box.lt hs).2 (.inl rfl)),⟨xs,zaM hr (fun c hc=>ht.block c (zan hr hc) (fun hs=>(hS _ (zan hr hc) hs).2 (.inr (.inr hc)))),hc.mono fun x _ cs hx=>hx.kept ht (fun b hb hs=>.inr (hS b hb hs).1) (fun b hb h=>h.imp id (hX b hb))⟩,h.vars.same (ht.block _ h.vars.lt (fun hs=>(hS _ h.vars.lt hs).2 (.inr (.inl rfl))))⟩
theorem MkS.below {W W':World} {base mb vb:Nat} {cv:Value} {X:Nat→Prop} {s:MSt} (h:MkS W base mb vb cv X s) (hb:Below W.heap.size W W'):MkS W' base mb vb cv X s:=h.keep (Turned.of_below (S:=fun _=>False) hb) (fun _ _ h=>h.elim) (fun _ _ h=>h)
theorem IntsM.below {W W':World} {S:Nat→Prop} {l:List Int} {v:Value} (h:IntsM W S l v) (hb:Below W.heap.size W W'):IntsM W' S l v:=h.kept (Turned.of_below (S:=fun _=>False) hb) (fun _ _ h=>h.elim) (fun _ _ h=>h)
theorem MkS.laid {w w':World} {base mb vb:Nat} {cv:Value} {X:Nat→Prop} {s:MSt} (h:MkS w base mb vb cv X s) (x:Ins) (sl:Value) (xs:List Value) (hrow:w.ownsRow base 49 5 cv s.code.length xs) (hcell:CellsG 5 (InsM w (fun b=>SM mb vb cv b∨X b)) s.code xs) (hop:I64 x.op) (hd:I64 x.d) (ha:I64 x.a) (hb:I64 x.b) (hl:IntsM w (fun b=>SM mb vb cv b∨X b) x.l sl) {e:Ending}
  (hp:LayPost base mb s.code.length s.regs (.map (some vb)) cv xs [.int .i64 x.op,.int .i64 x.d,.int .i64 x.a,.int .i64 x.b,sl] w e w') :
  ∃g cap c,e=.returned (.func (.func 104) #[] #[.pointer (some ⟨w.heap.size,0,none⟩),.pointer (some ⟨c,0,none⟩)])∧BoxL w' w.heap.size 74 [.pointer (some ⟨mb,0,none⟩)]∧BoxL w' c 3 [.int .i64 s.code.length]∧w.heap.size≤c ∧
   MkS w' base mb vb (.slice (some ⟨g,0,none⟩) (s.code.length+1) cap) X (s.put x)∧Turned (SM mb vb cv) w w'∧∀b,b<w.heap.size→SM mb vb (.slice (some ⟨g,0,none⟩) (s.code.length+1) cap) b→SM mb vb cv b:=by
 obtain ⟨g,cap,c,rfl,h1,h2,h3,h4,h5,h6,h7⟩:=hp
 have hT:Turned (SM mb vb cv) w w':=h7.wider fun b _ hs=>hs.elim .inl fun hs=>.inr (.inr hs)
 have hS:∀b,b<w.heap.size→SM mb vb (.slice (some ⟨g,0,none⟩) (s.code.length+1) cap) b→SM mb vb cv b:=fun b hlt hs=>by
  rcases hs with hs | hs | hs
  ·exact .inl hs
  ·exact .inr (.inl hs)
  ·have e:g=b:=by simpa[Value.ownBlock] using hs
   subst e
   rcases h6 with h6 | h6
   ·exact .inr (.inr h6)
   ·omega
 refine ⟨g,cap,c,rfl,h3,h4,h5,⟨h1,⟨xs++[.int .i64 x.op,.int .i64 x.d,.int .i64 x.a,.int .i64 x.b,sl],?_,?_⟩,?_⟩,hT,hS⟩
 ·rw[show (s.put x).code.length=s.code.length+1 by simp[MSt.put]]
  exact h2
 ·have hX:∀b,b<w.heap.size→(SM mb vb (.slice (some ⟨g,0,none⟩) (s.code.length+1) cap) b∨X b)→(SM mb vb cv b∨X b):=fun b hb h=>h.elim (fun h=>.inl (hS b hb h)) .inr
  have h1:CellsG 5 (InsM w' (fun b=>SM mb vb (.slice (some ⟨g,0,none⟩) (s.code.length+1) cap) b∨X b)) s.code xs:=hcell.mono fun y _ cs hy=>hy.kept hT (fun _ _ h=>.inl h) hX
  exact CellsG.snoc (x:=x) (cs:=[.int .i64 x.op,.int .i64 x.d,.int .i64 x.a,.int .i64 x.b,sl]) rfl ⟨sl,rfl,hop,hd,ha,hb,hl.kept hT (fun _ _ h=>.inl h) hX⟩ h1
 ·exact h.vars.same (h7.block _ h.vars.lt fun hs=>by
   rcases hs with hs | hs
   ·exact zbt h.vars h.box hs.symm
   ·exact zbP h.vars hrow hs rfl)
end
section
open Go
def spell (f:Nat→Value):Nat→List Bool→List Value→List Value
 | _,_,[]=>[]
 | _,[],l=>l
 | i,true::m,_::l=>f i::spell f (i+1) m l
 | i,false::m,v::l=>v::spell f (i+1) m l
theorem zc8 (f:Nat→Value):∀(l:List Value) (i:Nat) (m:List Bool) (j:Nat),(spell f i m l)[j]?=(l[j]?).map fun v=>if m.getD j false=true then f (i+j) else v
 | [],i,m,j=>by simp[spell]
 | v::l,i,[],j=>by
  have:spell f i [] (v::l)=v::l:=by rw[spell];simp
  rw[this]
  cases h:(v::l)[j]?<;>simp
 | v::l,i,true::m,0=>by simp[spell]
 | v::l,i,false::m,0=>by simp[spell]
 | v::l,i,true::m,j+1=>by
  rw[spell,List.getElem?_cons_succ,List.getElem?_cons_succ,zc8 f l (i+1) m j]
  simp only[List.getD_cons_succ,show i+1+j=i+(j+1) by omega]
 | v::l,i,false::m,j+1=>by
  rw[spell,List.getElem?_cons_succ,List.getElem?_cons_succ,zc8 f l (i+1) m j]
  simp only[List.getD_cons_succ,show i+1+j=i+(j+1) by omega]
def maskB (ops:Array Oper) (n:Nat) (m:List Bool):Bool:=(List.range n).all fun i=>match ops[i]? with | some o=>(match o.dst with | some d=>m.getD d false | none=>true) | none=>true
theorem zei {ops:Array Oper} {n:Nat} {a a0:Act} (m:List Bool) (hB:maskB ops n m=true) (hd:a.defers=a0.defers) (hs:a.tmps.size=a0.tmps.size) (hr:Rest ops n a0 a):∃f:Nat→Value,a = { tmps:=(spell f 0 m a0.tmps.toList).toArray,defers:=a0.defers }∧∀t,f t=a.tmps.getD t undef:=by
 refine ⟨fun t=>a.tmps.getD t undef,?_,fun _=>rfl⟩
 obtain ⟨t,d⟩:=a
 obtain ⟨t0,d0⟩:=a0
 simp only at hd hs
 subst hd
 simp only[Act.mk.injEq,and_true]
 apply Array.ext_getElem?
 intro j
 have h0:∀l:List Value,l.toArray[j]?=l[j]?:=fun l=>by simp
 rw[h0 (spell _ _ _ _),zc8]
 rw[Array.getElem?_toList]
 by_cases hj:j<t0.size
 ·rw[Array.getElem?_eq_getElem hj,Array.getElem?_eq_getElem (by rw[hs];exact hj)]
  simp only[Option.map_some,Option.some.injEq,Nat.zero_add]
  by_cases hm:m.getD j false=true
  ·rw[if_pos hm]
   simp[Array.getD,hs,hj]
  ·rw[if_neg hm]
   have h1:=hr j (fun i o hi ho e=>by
    have h2:=List.all_eq_true.1 hB i (List.mem_range.2 hi)
    simp only[ho,e] at h2
    exact hm h2)
   simpa[Array.getD,hs,hj] using h1
 ·rw[Array.getElem?_eq_none (by omega),Array.getElem?_eq_none (by omega)]
  rfl
end
section
open Go Go.RowKit
theorem zd8 (op n:Int) (v:List Int) (ts:List Trm) (ov ot:Option Addr) (lv cv lt ct:Nat) (B cb bb sb:Nat) (nc nk size:Int) (fr:Bool) (l:List Int) (sc:Int→Bool) (deep:Int) (W:World) (hc:ChkS W cb bb sb nc nk fr size l sc)
  (hvv:SlC W B 1 IntR v (.slice ov lv cv)) (htt:TrmS W B ts (.slice ot lt ct)) (hS:∀b,S3 cb bb sb b→B≤b) (hB:B≤W.heap.size) (hsc:∀v,sc v=true→v∈l) (ih:∀x∈ts,RightC x) (hlt:lt=ts.length) (hct:lt≤1000000)
  (h0:0≤size) (h1:size+1+Trm.allL ts≤20000) (h2:0≤deep) (h3:deep+1+Trm.allL ts≤401) (f t le:Int) (any binds:Bool) (f1:f≤3) (f2:3≤t) (hop:op≠9) (hgr:(op==7 || op==9)=false)
  (HSH:∀W,Calls prog 57 #[.int .i64 op] W fun e w'=>e=.returned (.tuple #[.agg #[.int .i64 f,.int .i64 t,.int .i64 le,.bool any,.bool binds],.bool true])∧Below W.heap.size W w')
  (HFT:∀W,Calls prog 58 #[.agg #[.int .i64 f,.int .i64 t,.int .i64 le,.bool any,.bool binds],.agg #[.int .i64 op,.int .i64 n,.slice ov lv cv,.slice ot lt ct]] W fun e w'=>e=.returned (.bool true)∧Below W.heap.size W w')
  (HNU:∀W,ChkS W cb bb sb nc nk fr (size+1) l sc→Calls prog 59 #[.pointer (some ⟨cb,0,none⟩),.agg #[.int .i64 op,.int .i64 n,.slice ov lv cv,.slice ot lt ct],.map (some sb)] W fun e w'=>e=.returned (.bool true)∧Below W.heap.size W w')
  (r:Bool) (hr:plainR nc nk fr sc l v ts=r) :
  Calls prog 32 #[.pointer (some ⟨cb,0,none⟩),.agg #[.int .i64 op,.int .i64 n,.slice ov lv cv,.slice ot lt ct],.map (some sb),.int .i64 deep] W (ChkPost cb bb sb nc nk fr r (GoodR cb bb sb nc nk fr (size+1+Trm.allL ts) l (Trm.bndL (ts.take (ts.length-1))++v++Trm.bndL (ts.drop (ts.length-1))) sc) W):=by
 have hmf:∀(fn:Fn) (first cap:Array Value) (w:World),(Instr.makeFunc fn first cap).run prog w=.ok (.func fn first cap) w:=fun _ _ _ _=>rfl
 obtain ⟨W1,hW1⟩:∃W1,((((W.alloc (.cells #[.pointer (some ⟨cb,0,none⟩)] 67)).alloc (.cells #[.int .i64 op,.int .i64 n,.slice ov lv cv,.slice ot lt ct] 27)).alloc (.cells #[.map (some sb)] 68)).alloc (.cells #[.int .i64 deep] 3)).setCell ⟨cb,4,none⟩ (.int .i64 (size+1))=W1:=⟨_,rfl⟩
 have hbelow:=zbo W (.cells #[.pointer (some ⟨cb,0,none⟩)] 67) (.cells #[.int .i64 op,.int .i64 n,.slice ov lv cv,.slice ot lt ct] 27) (.cells #[.map (some sb)] 68) (.cells #[.int .i64 deep] 3)
 have HW:=zh hW1
 have HT1:=zh (show Turned (S3 cb bb sb) W W1 from by rw[←hW1];exact (Turned.of_below hbelow).next (Turned.set _ _ _ (.inl rfl)))
 have HC1:=zh (show ChkS W1 cb bb sb nc nk fr (size+1) l sc from by rw[←hW1];exact (hc.keep hbelow).sized _)
 have HX1:=zh (show RBox W1 W.heap.size cb sb op n (.slice ov lv cv) (.slice ot lt ct) deep from by
  rw[←hW1]
  exact (RBox.new W cb sb op n (.slice ov lv cv) (.slice ot lt ct) deep).turned (Turned.set (S:=fun b=>b=cb) _ _ _ rfl) (fun b hb=>by rw[hb];exact hc.box.lt))
 have c4:=(hc.box.keep hbelow).cell 4 rfl
 have cz:=(hc.box.keep hbelow).free 4
 have cl:=hc.box.lt
 have HC:=zh hc
 have HSH:=zh HSH
 have HFT:=zh HFT
 have HNU:=zh HNU
 have HVV:=zh hvv
 have HTT:=zh htt
 have HIH:=zh ih
 have HSB:=zh hS
 have HSC:=zh hsc
 have HR:=zh hr
 have HLT:=zh hlt
 clear hW1 hbelow hc hvv htt ih hS hsc hr hlt
 go_enter_defers func32,ntmps32
 go_upto_region 2 with fail
 rw[HW.out]
 have t0:=HX1.out.t.cell 0 rfl
 have tl:=HX1.out.t.lt
 clear c4 cz cl
 go_wp2_with fail
 refine (HSH.out _).mono ?_
 rintro e w1 ⟨rfl,hb1⟩
 have HB1:=zh hb1
 clear hb1 HSH t0 tl
 go_upto_region 3 with fail
 obtain ⟨W3,hW3⟩:∃W3,w1.alloc (.cells #[.int .i64 f,.int .i64 t,.int .i64 le,.bool any,.bool binds] 109)=W3:=⟨_,rfl⟩
 have HB3:=zh (show Below W1.heap.size W1 W3 from by rw[←hW3];exact Below.next HB1.out (Below.one w1 _))
 have B9:=zh (show BoxL W3 w1.heap.size 109 [.int .i64 f,.int .i64 t,.int .i64 le,.bool any,.bool binds] from by rw[←hW3];exact BoxL.new rfl _ _)
 rw[hW3]
 clear hW3
 have HX3:=zh (HX1.out.turned (Turned.of_below (S:=fun _=>False) HB3.out) (fun _ h=>h.elim))
 have HC3:=zh (HC1.out.keep HB3.out)
 have HD:=zh ((Below.refl W3.heap.size W3).drew)
 have g0:decide (400<deep)=false:=decide_eq_false (by omega)
 have g1:decide (20000<size+1)=false:=decide_eq_false (by omega)
 have g2:decide (3<f)=false:=decide_eq_false (by omega)
 have g3:decide (t<3)=false:=decide_eq_false (by omega)
 have HF:=HFT
 have HN:=HNU
 refine zab (Below W3.heap.size W3) (by kernel_rfl) (by kernel_rfl) HD.out ?_
 intro T0 _ WW HWW HWW2
 have x0:∀t,(WW t).cell? _=_:=fun t=>((HWW t).cell (p:=⟨W.heap.size,0,none⟩) HX3.out.c.lt).trans (HX3.out.c.cell 0 rfl)
 have x1:∀t,(WW t).cell? _=_:=fun t=>((HWW t).cell (p:=⟨W.heap.size+1,0,none⟩) HX3.out.t.lt).trans (HX3.out.t.cell 0 rfl)
 have x2:∀t,(WW t).cell? _=_:=fun t=>((HWW t).cell (p:=⟨W.heap.size+1,1,none⟩) HX3.out.t.lt).trans (HX3.out.t.cell 1 rfl)
 have x3:∀t,(WW t).cell? _=_:=fun t=>((HWW t).cell (p:=⟨W.heap.size+1,2,none⟩) HX3.out.t.lt).trans (HX3.out.t.cell 2 rfl)
 have x4:∀t,(WW t).cell? _=_:=fun t=>((HWW t).cell (p:=⟨W.heap.size+1,3,none⟩) HX3.out.t.lt).trans (HX3.out.t.cell 3 rfl)
 have x5:∀t,(WW t).cell? _=_:=fun t=>((HWW t).cell (p:=⟨W.heap.size+1+1,0,none⟩) HX3.out.s.lt).trans (HX3.out.s.cell 0 rfl)
 have x6:∀t,(WW t).cell? _=_:=fun t=>((HWW t).cell (p:=⟨W.heap.size+1+1+1,0,none⟩) HX3.out.d.lt).trans (HX3.out.d.cell 0 rfl)
 have y0:∀t,(WW t).cell? _=_:=fun t=>((HWW t).cell (p:=⟨cb,0,none⟩) HC3.out.box.lt).trans (HC3.out.box.cell 0 rfl)
 have y4:∀t,(WW t).cell? _=_:=fun t=>((HWW t).cell (p:=⟨cb,4,none⟩) HC3.out.box.lt).trans (HC3.out.box.cell 4 rfl)
 have z0:∀t,(WW t).cell? _=_:=fun t=>((HWW t).cell (p:=⟨w1.heap.size,0,none⟩) B9.out.lt).trans (B9.out.cell 0 rfl)
 have z1:∀t,(WW t).cell? _=_:=fun t=>((HWW t).cell (p:=⟨w1.heap.size,1,none⟩) B9.out.lt).trans (B9.out.cell 1 rfl)
 have z2:∀t,(WW t).cell? _=_:=fun t=>((HWW t).cell (p:=⟨w1.heap.size,2,none⟩) B9.out.lt).trans (B9.out.cell 2 rfl)
 have z3:∀t,(WW t).cell? _=_:=fun t=>((HWW t).cell (p:=⟨w1.heap.size,3,none⟩) B9.out.lt).trans (B9.out.cell 3 rfl)
 have z4:∀t,(WW t).cell? _=_:=fun t=>((HWW t).cell (p:=⟨w1.heap.size,4,none⟩) B9.out.lt).trans (B9.out.cell 4 rfl)
 have HWH:=zh HWW
 have HW2:=zh HWW2
 clear HWW HWW2
 have HC0:Hid (∀t',Calls prog 58 #[.agg #[.int .i64 f,.int .i64 t,.int .i64 le,.bool any,.bool binds],.agg #[.int .i64 op,.int .i64 n,.slice ov lv cv,.slice ot lt ct]] (WW t') fun e w'=>e=.returned (.bool true)∧∃t'',w'=WW t''):=zh (fun t'=>zak HW2.out ((HF.out (WW t')).mono fun e w' h=>⟨h.1,Below.next (HWH.out t') h.2⟩))
 have HC1:Hid (∀t',Calls prog 59 #[.pointer (some ⟨cb,0,none⟩),.agg #[.int .i64 op,.int .i64 n,.slice ov lv cv,.slice ot lt ct],.map (some sb)] (WW t') fun e w'=>e=.returned (.bool true)∧∃t'',w'=WW t''):=zh (fun t'=>zak HW2.out ((HN.out (WW t') (HC3.out.keep (HWH.out t'))).mono fun e w' h=>⟨h.1,Below.next (HWH.out t') h.2⟩))
 repeat (go_big_quiet_step (first | (go_at_call 58;exact HC0.out _) | (go_at_call 59;exact HC1.out _)))
 refine wpQuiet_nil ?_
 intro t'
 obtain ⟨W4,hW4⟩:∃W4,WW t'=W4:=⟨_,rfl⟩
 have HB4:=zh (show Below W3.heap.size W3 W4 from hW4 ▸ HWH.out t')
 rw[hW4]
 clear x0 x1 x2 x3 x4 x5 x6 y0 y4 z0 z1 z2 z3 z4 HC0 HC1 hW4 HWH HW2 B9 HD
 have HX4:=zh (HX3.out.turned (Turned.of_below (S:=fun _=>False) HB4.out) (fun _ h=>h.elim))
 have HC4:=zh (HC3.out.keep HB4.out)
 have HT4:=zh (HT1.out.next (Turned.of_below (Below.next HB3.out HB4.out)))
 have HSh:=zh (show ∀b,S3 cb bb sb b→b<W.heap.size from fun b hb=>by
  rcases hb with rfl | rfl | rfl
  ·exact HC.out.box.lt
  ·exact HC.out.bound.lt
  ·exact HC.out.scope.lt)
 clear HX3 HC3 HB3 HF HN HFT HNU HT1 HC1 HX1 HW HB1
 have x0:=HX4.out.t.cell 0 rfl
 have x1:=HX4.out.t.cell 1 rfl
 have x2:=HX4.out.t.cell 2 rfl
 have x3:=HX4.out.t.cell 3 rfl
 have xl:=HX4.out.t.lt
 go_wp2_with fail
 refine (zb2 op n _ _ ov ot lv cv lt ct rfl rfl W4).mono ?_
 rintro e w5 ⟨rfl,hb5⟩
 rw[hgr]
 have HT5:=zh (HT4.out.next (Turned.of_below (S:=S3 cb bb sb) hb5))
 have HX5:=zh (HX4.out.turned (Turned.of_below (S:=fun _=>False) hb5) (fun _ h=>h.elim))
 have HC5:=zh (HC4.out.keep hb5)
 clear x0 x1 x2 x3 xl hb5 HX4 HC4 HT4 HB4
 have x0:=HX5.out.t.cell 3 rfl
 have xl:=HX5.out.t.lt
 go_wp2_with fail
 go_loopg [12] (lt-1) (fun g i wr=>∃j:Nat,g=(lt-1)-j∧i=.int .i64 j∧j≤lt-1∧Hid (okL nc nk fr sc l (ts.take j)=true)∧Hid (GoodR cb bb sb nc nk fr (size+1+Trm.allL (ts.take j)) l (Trm.bndL (ts.take j)) sc wr)∧Hid (Turned (S3 cb bb sb) w5 wr))
 case atStart=>exact ⟨0,rfl,rfl,by omega,zh (by rw[List.take_zero,okL,Trm.bndL,List.append_nil,HC.out.new];rfl),zh ⟨l,by simp[Trm.bndL],by rw[List.take_zero,Trm.allL];simpa using HC5.out⟩,zh (Turned.refl _ _)⟩
 case round=>
  obtain ⟨j,rfl,rfl,hj,HOK,HG,HTU⟩:=hrel
  clear x0 xl
  have HXR:=zh (HX5.out.turned HTU.out HSh.out)
  have HTR:=zh (HT5.out.next HTU.out)
  by_cases hjl:j+1<lt
  ·obtain ⟨x,hx⟩:∃x,ts[j]?=some x:=⟨_,List.getElem?_eq_getElem (by rw[←HLT.out];omega)⟩
   obtain ⟨b,off,cs,ho,_,hcl,hcell,hir⟩:=SlC.at HTT.out (HTR.out.below HSB.out hB) hx
   subst ho
   match cs,hcl with
   | [c0,c1,c2,c3],_=>
    have e0:=hcell 0 _ rfl
    have e1:=hcell 1 _ rfl
    have e2:=hcell 2 _ rfl
    have e3:=hcell 3 _ rfl
    simp only[Nat.add_zero] at e0
    have E0:=zh e0
    have E1:=zh e1
    have E2:=zh e2
    have E3:=zh e3
    have hbl:=zac e0
    have HX:=zh hx
    have HIR:=zh (TrmR.kept (HTR.out.below HSB.out hB) _ _ hir)
    have HD:=zh ((Below.refl wr.heap.size wr).drew)
    clear hx hir hcell e0 e1 e2 e3
    go_wp2_with fail
    refine zaa (Below wr.heap.size wr) 9 (by kernel_rfl) (by kernel_rfl) HD.out ?_
    intro T0 _ WW HWW HWW2
    have x0:∀t,(WW t).cell? _=_:=fun t=>((HWW t).cell (p:=⟨W.heap.size,0,none⟩) HXR.out.c.lt).trans (HXR.out.c.cell 0 rfl)
    have x4:∀t,(WW t).cell? _=_:=fun t=>((HWW t).cell (p:=⟨W.heap.size+1,3,none⟩) HXR.out.t.lt).trans (HXR.out.t.cell 3 rfl)
    have x5:∀t,(WW t).cell? _=_:=fun t=>((HWW t).cell (p:=⟨W.heap.size+1+1,0,none⟩) HXR.out.s.lt).trans (HXR.out.s.cell 0 rfl)
    have x6:∀t,(WW t).cell? _=_:=fun t=>((HWW t).cell (p:=⟨W.heap.size+1+1+1,0,none⟩) HXR.out.d.lt).trans (HXR.out.d.cell 0 rfl)
    have j0:∀t,(WW t).cell? _=_:=fun t=>((HWW t).cell (p:=⟨b,off+j*4,none⟩) hbl).trans E0.out
    have j1:∀t,(WW t).cell? _=_:=fun t=>((HWW t).cell (p:=⟨b,off+j*4+1,none⟩) hbl).trans E1.out
    have j2:∀t,(WW t).cell? _=_:=fun t=>((HWW t).cell (p:=⟨b,off+j*4+2,none⟩) hbl).trans E2.out
    have j3:∀t,(WW t).cell? _=_:=fun t=>((HWW t).cell (p:=⟨b,off+j*4+3,none⟩) hbl).trans E3.out
    have HWH:=zh HWW
    clear HWW HWW2
    simp only[List.take_succ_cons,List.take_zero,List.drop_succ_cons,List.drop_zero]
    repeat (go_big_quiet_step (fail))
    refine wpQuiet_nil ?_
    intro t'
    obtain ⟨W6,hW6⟩:∃W6,WW t'=W6:=⟨_,rfl⟩
    have HB6:=zh (show Below wr.heap.size wr W6 from hW6 ▸ HWH.out t')
    rw[hW6]
    clear x0 x4 x5 x6 j0 j1 j2 j3 hW6 HWH
    obtain ⟨lj,hp,hcj⟩:=HG.out
    have HP:=zh hp
    have HCJ:=zh hcj
    have hsn:=za2 HX.out
    have hle:=zaQ ts (j+1)
    have HST:=zh (zfz (nc:=nc) (nk:=nk) (fr:=fr) (sc:=sc) HX.out hp HOK.out)
    have HCC:=zh (HIH.out x (List.mem_of_getElem? HX.out) c0 c1 c2 c3 B cb bb sb nc nk _ fr lj sc (deep+1) W6 (TrmR.kept (Below.mono HB6.out (by have:=HTR.out.size;omega)) _ _ HIR.out) HSB.out (by have:=HTR.out.size;have:=HB6.out.size;omega) (HCJ.out.keep HB6.out) (fun v hv=>HP.out.mem_iff.2 (List.mem_append_left _ (HSC.out v hv))) (by omega) (by omega) (by omega) (by omega))
    obtain ⟨q,hq⟩:∃q,(Trm.wf nc nk fr x sc&&Trm.newB (fun _=>false) (lj++x.bnd))=q:=⟨_,rfl⟩
    rw[hq] at HCC HST
    have HSN:=zh hsn
    clear hp hcj hq hle hsn
    go_wp2_with fail
    refine HCC.out.mono ?_
    rintro e7 w7 ⟨rfl,ht7,hg7,hb7⟩
    have HT7:=zh ((Turned.of_below (S:=S3 cb bb sb) HB6.out).next ht7)
    have HG7:=zh hg7
    have HBD:=zh hb7
    clear ht7 hg7 hb7 HCC
    cases q with
    | false=>
     have hb7:=HBD.out rfl
     obtain rfl:r=false:=by rw[←HR.out,plainR,ze6 (j:=j+1) (by rw[List.take_take,Nat.min_eq_left (by have:=HLT.out;omega)];exact HST.out)];rfl
     go_wp2_with fail
     exact ⟨_,results_tmp rfl _ _ _,rfl,HTR.out.next HT7.out,fun h=>(by simp at h),fun _=>hb7⟩
    | true=>
     have HGN:=zh (show GoodR cb bb sb nc nk fr (size+1+Trm.allL (ts.take (j+1))) l (Trm.bndL (ts.take (j+1))) sc w7 from by
      obtain ⟨l2,hp2,hcs2⟩:=HG7.out rfl
      refine ⟨l2,?_,?_⟩
      ·rw[zc1 HX.out,←List.append_assoc]
       exact hp2.trans (HP.out.append_right _)
      ·rw[HSN.out,show size+1+((Trm.allL (ts.take j)+x.all:Nat):Int)=size+1+(Trm.allL (ts.take j):Nat)+(x.all:Nat) by omega]
       exact hcs2)
     go_wp2_with fail
     go_roundg (lt-1-(j+1))
     case measure=>omega
     case rel=>exact ⟨j+1,rfl,by go_num,by omega,HST,HGN,zh (HTU.out.next HT7.out)⟩
  ·obtain rfl:j=lt-1:=by omega
   have HLE:=zh (show lt-1=ts.length-1 by rw[HLT.out])
   obtain ⟨lj,hp,hcj⟩:=HG.out
   rw[HLE.out] at hp hcj
   have HOK2:=HOK.out
   rw[HLE.out] at HOK2
   have HOK3:=zh HOK2
   have HP:=zh hp
   have HCJ:=zh hcj
   have x1:=HXR.out.t.cell 2 rfl
   have xl:=HXR.out.t.lt
   have x2:=HXR.out.c.cell 0 rfl
   have xl2:=HXR.out.c.lt
   have x3:=HXR.out.s.cell 0 rfl
   have xl3:=HXR.out.s.lt
   have hjl2:decide (((lt-1:Nat):Int)<(lt:Int)-1)=false:=decide_eq_false (by omega)
   clear hp hcj HOK2
   have HBI:=zh (zdB cb bb sb nc nk fr _ lj v sc B wr ov lv cv (HVV.out.kept (HTR.out.below HSB.out hB) fun _ _ _ h=>h) HSB.out (by have:=HTR.out.size;omega) HCJ.out)
   obtain ⟨q,hq⟩:∃q,Trm.newB (fun _=>false) (lj++v)=q:=⟨_,rfl⟩
   rw[hq] at HBI
   have HQ:=zh hq
   clear hq
   go_wp2_with fail
   with_reducible refine HBI.out.mono ?_
   rintro e8 w8 ⟨rfl,ht8,hg8,hb8⟩
   have HT8:=zh (HTR.out.next ht8)
   have HG8:=zh hg8
   have HB8:=zh hb8
   have HX8:=zh (HXR.out.turned ht8 HSh.out)
   clear ht8 hg8 hb8 HBI x1 xl x2 xl2 x3 xl3
   cases q with
   | false=>
    obtain ⟨⟨sz,hb1⟩,⟨m,g,hb2⟩,⟨m2,g2,hb3⟩,hne⟩:=HB8.out rfl
    obtain rfl:r=false:=by
     rw[←HR.out,plainR,←Trm.newB_perm ((HP.out).append_right v),HQ.out]
     simp
    go_wp2_with fail
    refine leaves_cons (f:=61) (args:=#[.pointer (some ⟨W.heap.size+1,0,none⟩),.pointer (some ⟨W.heap.size+1+1,0,none⟩)]) (by simp) (by simp[go_sem]) ?_
    refine (zaH op n v ov ot lv cv lt ct B (W.heap.size+1) (W.heap.size+1+1) sb m2 g2 w8 (HVV.out.kept (HT8.out.below HSB.out hB) fun _ _ _ h=>h) (by have:=HT8.out.size;omega) (HSB.out sb (.inr (.inr rfl))) HX8.out.t HX8.out.s hb3).mono ?_
    rintro e9 u9 w9 ⟨rfl,rfl,hm9,ht9⟩
    refine ⟨_,results_tmp rfl _ _ _,rfl,HT8.out.next (ht9.wider fun b _ hb=>.inr (.inr hb)),fun h=>(by simp at h),fun _=>⟨⟨sz,ht9.box hb1 (fun e=>zaD hb3 hb1 e)⟩,⟨m,g,hb2.same (ht9.block _ hb2.lt (fun e=>hne e))⟩,⟨_,_,hm9⟩,hne⟩⟩
   | true=>
    have hg8:=HG8.out rfl
    have HC8:=zh hg8
    clear hg8
    have x0:=HX8.out.t.cell 0 rfl
    have x1:=HX8.out.t.cell 1 rfl
    have x2:=HX8.out.t.cell 2 rfl
    have x3:=HX8.out.t.cell 3 rfl
    have xl:=HX8.out.t.lt
    go_wp2_with fail
    with_reducible refine (zb2 op n _ _ ov ot lv cv lt ct rfl rfl w8).mono ?_
    rintro e9 w9 ⟨rfl,hb9⟩
    rw[hgr]
    have HT9:=zh (HT8.out.next (Turned.of_below (S:=S3 cb bb sb) hb9))
    have HX9:=zh (HX8.out.turned (Turned.of_below (S:=fun _=>False) hb9) (fun _ h=>h.elim))
    have HC9:=zh (HC8.out.keep hb9)
    clear x0 x1 x2 x3 xl hb9 HX8 HC8
    have hmx:max ((lt:Int)-1) 0=((lt-1:Nat):Int):=by omega
    have HDW:=zh (Below.drew (Below.refl w9.heap.size w9))
    have HAL:=zh (show size+1+((Trm.allL (ts.take (ts.length-1)):Nat):Int)+((Trm.allL (ts.drop (ts.length-1)):Nat):Int)=size+1+((Trm.allL ts:Nat):Int) from by
     have:=zaz (ts.take (ts.length-1)) (ts.drop (ts.length-1))
     rw[List.take_append_drop] at this
     omega)
    have HSC2:=zh (show ∀x,Trm.addV sc v x=true→x∈lj++v from fun x hx=>by
     simp only[Trm.addV,Bool.or_eq_true,List.contains_eq_mem,decide_eq_true_eq] at hx
     rcases hx with hx | hx
     ·exact List.mem_append_left _ (HP.out.mem_iff.2 (List.mem_append_left _ (HSC.out x hx)))
     ·exact List.mem_append_right _ hx)
    have HDJ:=zh (show ∀x,sc x=true→x∉v from fun x hx hv=>(List.nodup_append.1 ((Trm.newB_iff _ _).1 HQ.out).2).2.2 x (HP.out.mem_iff.2 (List.mem_append_left _ (HSC.out x hx))) x hv rfl)
    have HTS:=zh (TrmS.kept HTT.out ((HT9.out.next (Turned.of_below HDW.out)).below HSB.out hB))
    obtain ⟨q2,hq2⟩:∃q2,okL nc nk fr (Trm.addV sc v) (lj++v) (ts.drop (ts.length-1))=q2:=⟨_,rfl⟩
    have HQ2:=zh hq2
    clear hq2
    go_upto_region 17 with fail
    go_cut [13] from 14 to 125 (fun b wx=>b=.int .i64 ((lt-1:Nat):Int)∧w9=wx)
    case first=>as_aux_lemma=>
     go_wp2_with fail
     go_meet
     exact ⟨by first | rfl | (rw[hmx]) | (simp;omega),rfl⟩
    case rest=>
    obtain ⟨rfl,rfl⟩:=hcut
    go_upto_region 18 with fail
    go_cut [8] from 9 to 125 (fun c wx=>c=.bool q2∧Hid (Turned (S3 cb bb sb) w9 wx)∧Hid (q2=true→GoodR cb bb sb nc nk fr (size+1+Trm.allL (ts.take (ts.length-1))+Trm.allL (ts.drop (ts.length-1))) (lj++v) (Trm.bndL (ts.drop (ts.length-1))) (Trm.addV sc v) wx)∧Hid (q2=false→ChkX wx cb bb sb nc nk fr))
    case first=>as_aux_lemma=>
     rename_i J KK hRJ hMK
     obtain ⟨SLV,hSLV⟩:∃SLV,SLV=slv ot lt ct:=⟨_,rfl⟩
     have HSLV:=zh hSLV
     have HSE0:=zh (show ∀W6,Below w9.heap.size w9 W6→_ from fun W6 hb6=>zdn (ts.drop (ts.length-1)) (fun x hx=>HIH.out x (List.mem_of_mem_drop hx)) SLV B cb bb sb nc nk (size+1+Trm.allL (ts.take (ts.length-1))) fr (lj++v) (Trm.addV sc v) deep W.heap.size op n _ _ W6 (by rw[hSLV,←HLT.out];exact zhx (TrmS.kept HTT.out ((HT9.out.next (Turned.of_below hb6)).below HSB.out hB))) HSB.out HSh.out (by have:=HT9.out.size;have:=hb6.size;omega) (HC9.out.keep hb6) HSC2.out (by omega) (by have:=HAL.out;omega) (by omega) (by have:=HAL.out;omega) (HX9.out.turned (Turned.of_below (S:=fun _=>False) hb6) (fun _ h=>h.elim)))
     rw[HQ2.out] at HSE0
     clear hSLV
     cases q2 with
     | false=>
      refine zaK (Below w9.heap.size w9) 5 (by kernel_rfl) (by kernel_rfl) HDW.out ?_
      intro T0 _ WW HWW HWW2
      have x3:∀t,(WW t).cell? _=_:=fun t=>((HWW t).cell (p:=⟨W.heap.size+1,3,none⟩) HX9.out.t.lt).trans (HX9.out.t.cell 3 rfl)
      have HWH:=zh HWW
      clear HWW HWW2
      simp only[List.take_succ_cons,List.take_zero,List.drop_succ_cons,List.drop_zero]
      go_big_quiet_step (fail)
      go_big_quiet_step (fail)
      go_big_quiet_step (fail)
      refine BigFrame.wpQuiet_want (by kernel_rfl) (fun K hK=>?_)
      refine ⟨SLV,fun w _=>zdq ?_,?_⟩
      ·(
        rw[HSLV.out]
        cases ot with
        | none=>
         obtain ⟨rfl,rfl⟩:=zdH HTS.out
         go_simp
         rfl
        | some a=>
         have hcc:=(SlC.lens HTS.out).2.1
         by_cases hl0:lt=0
         ·subst hl0
          by_cases hc0:ct=0
          ·subst hc0
           go_simp
           simp[slv]
          ·go_simp
           simp[slv,hc0,Addr.add_zero']
         ·obtain ⟨L,rfl⟩:∃L,lt=L+1:=⟨lt-1,by omega⟩
          have hLL:(L:Int)≤(L:Int)+1:=by omega
          have hcl:¬ct=L:=by omega
          go_simp
          simp[slv,hcl]
          try rfl)
      refine hK _ ?_
      clear hK K
      simp only[Act.put,List.setIfInBounds_toArray,List.set_cons_succ,List.set_cons_zero]
      go_big_quiet_step (fail)
      refine wpQuiet_nil ?_
      intro t'
      obtain ⟨W6,hW6⟩:∃W6,WW t'=W6:=⟨_,rfl⟩
      have HB6:=zh (show Below w9.heap.size w9 W6 from hW6 ▸ HWH.out t')
      rw[hW6]
      clear x3 hW6 HWH
      have HSE:=zh (HSE0.out W6 HB6.out)
      go_wp2_with fail
      with_reducible refine HSE.out.mono ?_
      rintro e10 w10 ⟨rfl,ht10,hg10,hb10⟩
      have HT10:=zh ((Turned.of_below (S:=S3 cb bb sb) HB6.out).next ht10)
      have HX10:=zh (hb10 rfl)
      clear ht10 hg10 hb10 HSE HSE0
      go_wp2_with fail
      refine zcu (Below w10.heap.size w10) (Below.refl _ _) ?_
      intro T1 _ W1' HW1 HW2
      have HW1H:=zh HW1
      skip
      clear HW1 HW2
      repeat (go_big_quiet_step (fail))
      refine wpQuiet_nil ?_
      intro t'
      obtain ⟨W7,hW7⟩:∃W7,W1' t'=W7:=⟨_,rfl⟩
      have HB7:=zh (show Below w10.heap.size w10 W7 from hW7 ▸ HW1H.out t')
      rw[hW7]
      have HTC:=zh (HT10.out.next (Turned.of_below HB7.out))
      clear hW7 HW1H
      go_simp
      first | (refine Met.intro ?_) | skip
      first | (refine hRJ _ _ ?_) | (refine hMK _ _ (Met.intro (hRJ _ _ ?_)))
      repeat apply Exists.intro
      refine ⟨?_,rfl⟩
      exact ⟨rfl,HTC,zh (fun h=>by cases h),zh (fun _=>HX10.out.keep HB7.out)⟩
     | true=>
      have fop:(op != 9)=true:=by simpa using hop
      refine zaK (Below w9.heap.size w9) 5 (by kernel_rfl) (by kernel_rfl) HDW.out ?_
      intro T0 _ WW HWW HWW2
      have x3:∀t,(WW t).cell? _=_:=fun t=>((HWW t).cell (p:=⟨W.heap.size+1,3,none⟩) HX9.out.t.lt).trans (HX9.out.t.cell 3 rfl)
      have HWH:=zh HWW
      clear HWW HWW2
      simp only[List.take_succ_cons,List.take_zero,List.drop_succ_cons,List.drop_zero]
      go_big_quiet_step (fail)
      go_big_quiet_step (fail)
      go_big_quiet_step (fail)
      refine BigFrame.wpQuiet_want (by kernel_rfl) (fun K hK=>?_)
      refine ⟨SLV,fun w _=>zdq ?_,?_⟩
      ·(
        rw[HSLV.out]
        cases ot with
        | none=>
         obtain ⟨rfl,rfl⟩:=zdH HTS.out
         go_simp
         rfl
        | some a=>
         have hcc:=(SlC.lens HTS.out).2.1
         by_cases hl0:lt=0
         ·subst hl0
          by_cases hc0:ct=0
          ·subst hc0
           go_simp
           simp[slv]
          ·go_simp
           simp[slv,hc0,Addr.add_zero']
         ·obtain ⟨L,rfl⟩:∃L,lt=L+1:=⟨lt-1,by omega⟩
          have hLL:(L:Int)≤(L:Int)+1:=by omega
          have hcl:¬ct=L:=by omega
          go_simp
          simp[slv,hcl]
          try rfl)
      refine hK _ ?_
      clear hK K
      simp only[Act.put,List.setIfInBounds_toArray,List.set_cons_succ,List.set_cons_zero]
      go_big_quiet_step (fail)
      refine wpQuiet_nil ?_
      intro t'
      obtain ⟨W6,hW6⟩:∃W6,WW t'=W6:=⟨_,rfl⟩
      have HB6:=zh (show Below w9.heap.size w9 W6 from hW6 ▸ HWH.out t')
      rw[hW6]
      clear x3 hW6 HWH
      have HSE:=zh (HSE0.out W6 HB6.out)
      go_wp2_with fail
      with_reducible refine HSE.out.mono ?_
      rintro e10 w10 ⟨rfl,ht10,hg10,hb10⟩
      have HT10:=zh ((Turned.of_below (S:=S3 cb bb sb) HB6.out).next ht10)
      have HG10:=zh (hg10 rfl)
      have HXN:=zh (HX9.out.turned HT10.out HSh.out)
      clear ht10 hg10 hb10 HSE HSE0
      go_wp2_with fail
      refine zcu (Below w10.heap.size w10) (Below.refl _ _) ?_
      intro T1 _ W1' HW1 HW2
      have HW1H:=zh HW1
      have y0:∀t,(W1' t).cell? _=_:=fun t=>((HW1 t).cell (p:=⟨W.heap.size+1,0,none⟩) HXN.out.t.lt).trans (HXN.out.t.cell 0 rfl)
      clear HW1 HW2
      repeat (go_big_quiet_step (fail))
      refine wpQuiet_nil ?_
      intro t'
      obtain ⟨W7,hW7⟩:∃W7,W1' t'=W7:=⟨_,rfl⟩
      have HB7:=zh (show Below w10.heap.size w10 W7 from hW7 ▸ HW1H.out t')
      rw[hW7]
      have HTC:=zh (HT10.out.next (Turned.of_below HB7.out))
      clear hW7 HW1H
      go_simp
      first | (refine Met.intro ?_) | skip
      first | (refine hRJ _ _ ?_) | (refine hMK _ _ (Met.intro (hRJ _ _ ?_)))
      repeat apply Exists.intro
      refine ⟨?_,rfl⟩
      exact ⟨rfl,HTC,zh (fun _=>GoodR.keep HG10.out HB7.out),zh (fun h=>by cases h)⟩
    case rest=>
     obtain ⟨rfl,hTC,hGC,hXC⟩:=hcut
     have HTN:=zh (HT9.out.next hTC.out)
     have HXN:=zh (HX9.out.turned hTC.out HSh.out)
     cases q2 with
     | false=>
      obtain ⟨⟨sz,hb1⟩,⟨m,g,hb2⟩,⟨m2,g2,hb3⟩,hne⟩:=hXC.out rfl
      obtain rfl:r=false:=by
       rw[←HR.out,plainR,←zfy ((HP.out).append_right v),HQ2.out]
       simp
      go_wp2_with fail
      refine leaves_cons (f:=61) (args:=#[.pointer (some ⟨W.heap.size+1,0,none⟩),.pointer (some ⟨W.heap.size+1+1,0,none⟩)]) (by simp) (by simp[go_sem]) ?_
      refine (zaH op n v ov _ lv cv _ ct B (W.heap.size+1) (W.heap.size+1+1) sb m2 g2 wc (HVV.out.kept (HTN.out.below HSB.out hB) fun _ _ _ h=>h) (by have:=HTN.out.size;omega) (HSB.out sb (.inr (.inr rfl))) HXN.out.t HXN.out.s hb3).mono ?_
      rintro e11 u11 w11 ⟨rfl,rfl,hm11,ht11⟩
      exact ⟨_,results_tmp rfl _ _ _,rfl,HTN.out.next (ht11.wider fun b _ hb=>.inr (.inr hb)),fun h=>(by simp at h),fun _=>⟨⟨sz,ht11.box hb1 (fun e=>zaD hb3 hb1 e)⟩,⟨m,g,hb2.same (ht11.block _ hb2.lt (fun e=>hne e))⟩,⟨_,_,hm11⟩,hne⟩⟩
     | true=>
      obtain ⟨l',hp',hcs⟩:=hGC.out rfl
      obtain rfl:r=true:=by
       rw[←HR.out,plainR,←zfy ((HP.out).append_right v),HQ2.out,HOK3.out,←Trm.newB_perm ((HP.out).append_right v),HQ.out]
       rfl
      go_wp2_with fail
      refine leaves_cons (f:=61) (args:=#[.pointer (some ⟨W.heap.size+1,0,none⟩),.pointer (some ⟨W.heap.size+1+1,0,none⟩)]) (by simp) (by simp[go_sem]) ?_
      refine (zaH op n v ov _ lv cv _ ct B (W.heap.size+1) (W.heap.size+1+1) sb l'.length (Trm.addV sc v) wc (HVV.out.kept (HTN.out.below HSB.out hB) fun _ _ _ h=>h) (by have:=HTN.out.size;omega) (HSB.out sb (.inr (.inr rfl))) HXN.out.t HXN.out.s hcs.scope).mono ?_
      rintro e11 u11 w11 ⟨rfl,rfl,hm11,ht11⟩
      refine ⟨_,results_tmp rfl _ _ _,rfl,HTN.out.next (ht11.wider fun b _ hb=>.inr (.inr hb)),fun _=>⟨l',?_,?_⟩,fun h=>(by simp at h)⟩
      ·refine hp'.trans ?_
       have h1:=((HP.out).append_right v).append_right (Trm.bndL (ts.drop (ts.length-1)))
       simpa only[List.append_assoc] using h1
      ·have h1:=zcF hcs hm11 ht11 HDJ.out
       rw[HAL.out] at h1
       exact h1
end
end Go.Proofs.YtdcajmeeeoofgaaGreatDoor
