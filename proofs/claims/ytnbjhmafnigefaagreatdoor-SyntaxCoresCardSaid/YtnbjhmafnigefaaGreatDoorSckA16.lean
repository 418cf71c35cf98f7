/- .. -/
import Derived.Laws.OwnMore
import Derived.Test.YtnbjhmafnigefaaGreatDoorSckA15
open Go.Proofs.Tryz
set_option maxRecDepth 100000
set_option maxHeartbeats 16000000
namespace Go.Proofs.YtnbjhmafnigefaaGreatDoor
section
open Go Go.RowKit
theorem sitemsG (S:Nat->Prop) (x:Dat) (v:Value) (B:Nat) (w:World) (r:Bool) (hr:((Sy.split x).2.kind==4)=r) (hS:∀b,S b->b<w.heap.size) (hv:RepD (hide w S) B x v) (hB:B<=w.heap.size) (hsh:Dat.shaped x=true) (hal:Dat.all x<=100000) :
  Calls prog 73 #[v] w fun e w'=>∃(o':Option Addr) (len' cap':Nat),e=.returned (.tuple #[.slice o' len' cap',.bool r])∧GrownS w' S w.heap.size (Sy.split x).1 (.slice o' len' cap')∧len'=(Sy.split x).1.length∧Below w.heap.size w w':=by
 obtain ⟨k,n,d,st,o,len,cap,rfl⟩:=zae hv.unhide
 obtain ⟨W0,hW0⟩:∃W0,w.alloc (.cells #[.int .i64 k,.int .i64 n,.int .i64 d,.string st,.slice o len cap] 26)=W0:=⟨_,rfl⟩
 have hb:Box5 W0 w.heap.size 26 (.int .i64 k) (.int .i64 n) (.int .i64 d) (.string st) (.slice o len cap):=by rw[<-hW0];exact Box5.new w _ _ _ _ _ _
 have hbl:Below w.heap.size w W0:=by rw[<-hW0];exact Below.one _ _
 have HC:=zh (zc8 S x (.agg #[.int .i64 k,.int .i64 n,.int .i64 d,.string st,.slice o len cap]) B W0 (fun b h=>qzM (hS b h) hbl.size) (hv.kept (zbp (hbl.mono hB))) (Nat.le_trans hB hbl.size) hsh hal)
 obtain ⟨p0,p1,p2,p3,p4⟩:=hb.cells
 have pl:=hb.lt
 have HBL:=zh hbl
 have HR:=zh hr
 have HW0:=zh hW0
 clear hb hbl hW0 hv hsh hr hS
 go_enter func73,ntmps73
 go_upto_region 1 with fail
 rw[HW0.out]
 go_upto_region 2 with (first | (go_at_call 99;refine HC.out.mono ?_;rintro e' w1 ⟨o',len',cap',ek,en,ed,es,eo,el,ec,rfl,hl1,he1,hb1⟩))
 have hbe:Box5 (w1.alloc (.cells #[.int .i64 ek,.int .i64 en,.int .i64 ed,.string es,.slice eo el ec] 26)) w1.heap.size 26 (.int .i64 ek) (.int .i64 en) (.int .i64 ed) (.string es) (.slice eo el ec):=Box5.new w1 _ _ _ _ _ _
 have je:Below w1.heap.size w1 (w1.alloc (.cells #[.int .i64 ek,.int .i64 en,.int .i64 ed,.string es,.slice eo el ec] 26)):=Below.one _ _
 have hek:(ek==4)=r:=by
  rw[<-HR.out]
  rw[zaE he1]
 generalize w1.alloc (.cells #[.int .i64 ek,.int .i64 en,.int .i64 ed,.string es,.slice eo el ec] 26)=W2 at hbe je ⊢
 generalize w1.heap.size=E at hbe
 obtain ⟨q0,q1,q2,q3,q4⟩:=hbe.cells
 have ql:=hbe.lt
 have HL:=zh (hl1.below je)
 have HLN:=zh (show len'=(Sy.split x).1.length from by obtain ⟨_,_,_,h,_,h2⟩:=hl1.form;cases h;exact h2)
 have HB2:=zh (HBL.out.trans ((hb1.trans (je.mono hb1.size)).mono HBL.out.size))
 clear hbe je hl1 he1 hb1 p0 p1 p2 p3 p4 pl
 go_quiet (fail)
 go_wp2_with fail
 refine bodyPost_ret (v:=.tuple #[.slice o' len' cap',.bool r]) (by simp[results,results73,go_sem]) rfl ?_
 exact ⟨o',len',cap',rfl,(HL.out.below (Below.selfN W2 _)).less (fun _ h=>h) HBL.out.size,HLN.out,Below.drewN HB2.out _⟩
theorem GrownS.rehide {W W':World} {S S':Nat->Prop} {base:Nat} {l:List Dat} {v:Value} (h:GrownS W S base l v) (hz:W.heap.size<=W'.heap.size) (hS':∀b,S' b->b<W'.heap.size) (hap:∀g,v.ownBlock=some g->¬S' g) (hblk:∀g,v.ownBlock=some g->W'.heap[g]?=W.heap[g]?) (hs:Shown W (SR S v) W' (SR S' v)):GrownS W' S' base l v:=by
 obtain ⟨h0,_,h00,xs,h1,h2⟩:=h
 refine ⟨hS',hap,Nat.le_trans h00 hz,xs,⟨h1.1,?_⟩,h2.shown hs hz⟩
 rcases h1.2 with h' | ⟨g,cap,cur,rfl,k2,k3,k4⟩
 ·exact .inl h'
 ·exact .inr ⟨g,cap,cur,rfl,k2,(hblk g rfl).trans k3,k4⟩
def Trio (W:World) (S:Nat->Prop) (base:Nat) (lA lB lC:List Dat) (vA vB vC:Value):Prop:=Twin W (SR S vC) base lA lB vA vB∧GrownS W (SR (SR S vB) vA) base lC vC
theorem Trio.lt {W:World} {S:Nat->Prop} {base:Nat} {lA lB lC:List Dat} {vA vB vC:Value} (h:Trio W S base lA lB lC vA vB vC):∀c,SR (SR (SR S vC) vB) vA c->c<W.heap.size:=fun c hc=>by
 rcases hc with ((hc | hc) | hc) | hc
 ·exact h.2.1 c (.inl (.inl hc))
 ·exact (h.2.block hc).2
 ·exact (h.1.2.block hc).2
 ·exact (h.1.1.block hc).2
theorem Trio.more {W W':World} {S S':Nat->Prop} {base:Nat} {lA lB lC:List Dat} {vA vB vC:Value} (h:Trio W S base lA lB lC vA vB vC) (hb:Below W.heap.size W W') (_hs:∀c,S c->S' c) (hs':∀c,S' c->S c∨W.heap.size<=c) (hlt:∀c,S' c->c<W'.heap.size):Trio W' S' base lA lB lC vA vB vC:=by
 have hsh:∀(T T':Nat->Prop),(∀c,T' c->T c∨W.heap.size<=c)->Shown W T W' T':=fun T T' ht c o u hc hu=>by
  have hcl:=zai hu
  exact ⟨fun h=>(ht c h).elim hc fun h=>by omega,(hb.cell (p:=⟨c,o,none⟩) hcl).trans hu⟩
 have hA:=fun g (hg:vA.ownBlock=some g)=>h.1.1.block hg
 have hB:=fun g (hg:vB.ownBlock=some g)=>h.1.2.block hg
 have hC:=fun g (hg:vC.ownBlock=some g)=>h.2.block hg
 refine ⟨⟨h.1.1.rehide hb.size ?_ ?_ (fun g hg=>hb.block g (hA g hg).2) (hsh _ _ ?_),h.1.2.rehide hb.size ?_ ?_ (fun g hg=>hb.block g (hB g hg).2) (hsh _ _ ?_)⟩,h.2.rehide hb.size ?_ ?_ (fun g hg=>hb.block g (hC g hg).2) (hsh _ _ ?_)⟩
 ·rintro c ((hc | hc) | hc)
  ·exact hlt c hc
  ·exact qzM (hC c hc).2 hb.size
  ·exact qzM (hB c hc).2 hb.size
 ·rintro g hg ((hc | hc) | hc)
  ·rcases hs' g hc with hc | hc
   ·exact h.1.1.apart g hg (.inl (.inl hc))
   ·have:=hA g hg;omega
  ·exact h.1.1.apart g hg (.inl (.inr hc))
  ·exact h.1.1.apart g hg (.inr hc)
 ·rintro c (((hc | hc) | hc) | hc)
  ·exact (hs' c hc).imp (fun h=>.inl (.inl (.inl h))) id
  ·exact .inl (.inl (.inl (.inr hc)))
  ·exact .inl (.inl (.inr hc))
  ·exact .inl (.inr hc)
 ·rintro c ((hc | hc) | hc)
  ·exact hlt c hc
  ·exact qzM (hC c hc).2 hb.size
  ·exact qzM (hA c hc).2 hb.size
 ·rintro g hg ((hc | hc) | hc)
  ·rcases hs' g hc with hc | hc
   ·exact h.1.2.apart g hg (.inl (.inl hc))
   ·have:=hB g hg;omega
  ·exact h.1.2.apart g hg (.inl (.inr hc))
  ·exact h.1.2.apart g hg (.inr hc)
 ·rintro c (((hc | hc) | hc) | hc)
  ·exact (hs' c hc).imp (fun h=>.inl (.inl (.inl h))) id
  ·exact .inl (.inl (.inl (.inr hc)))
  ·exact .inl (.inl (.inr hc))
  ·exact .inl (.inr hc)
 ·rintro c ((hc | hc) | hc)
  ·exact hlt c hc
  ·exact qzM (hB c hc).2 hb.size
  ·exact qzM (hA c hc).2 hb.size
 ·rintro g hg ((hc | hc) | hc)
  ·rcases hs' g hc with hc | hc
   ·exact h.2.apart g hg (.inl (.inl hc))
   ·have:=hC g hg;omega
  ·exact h.2.apart g hg (.inl (.inr hc))
  ·exact h.2.apart g hg (.inr hc)
 ·rintro c (((hc | hc) | hc) | hc)
  ·exact (hs' c hc).imp (fun h=>.inl (.inl (.inl h))) id
  ·exact .inl (.inl (.inl (.inr hc)))
  ·exact .inl (.inl (.inr hc))
  ·exact .inl (.inr hc)
theorem GrownS.sub {W:World} {S S':Nat->Prop} {base:Nat} {l:List Dat} {v:Value} (h:GrownS W S base l v) (hs:∀b,S' b->S b):GrownS W S' base l v:=h.less hs qzL
theorem Trio.less {W:World} {S S':Nat->Prop} {base:Nat} {lA lB lC:List Dat} {vA vB vC:Value} (h:Trio W S base lA lB lC vA vB vC) (hs:∀c,S' c->S c):Trio W S' base lA lB lC vA vB vC:=
 ⟨⟨h.1.1.sub fun c hc=>hc.elim (fun hc=>.inl (hc.elim (fun hc=>.inl (hs c hc)) .inr)) .inr,h.1.2.sub fun c hc=>hc.elim (fun hc=>.inl (hc.elim (fun hc=>.inl (hs c hc)) .inr)) .inr⟩,h.2.sub fun c hc=>hc.elim (fun hc=>.inl (hc.elim (fun hc=>.inl (hs c hc)) .inr)) .inr⟩
theorem Trio.turned {W W':World} {T S:Nat->Prop} {base:Nat} {lA lB lC:List Dat} {vA vB vC:Value} (h:Trio W S base lA lB lC vA vB vC) (ht:Turned T W W') (hT:∀c,c<W.heap.size->T c->S c):Trio W' S base lA lB lC vA vB vC:=
 ⟨⟨h.1.1.turned ht fun c hc hh=>.inl (.inl (hT c hc hh)),h.1.2.turned ht fun c hc hh=>.inl (.inl (hT c hc hh))⟩,h.2.turned ht fun c hc hh=>.inl (.inl (hT c hc hh))⟩
theorem Trio.twin {W W':World} {S:Nat->Prop} {base:Nat} {lA lB lA' lB' lC:List Dat} {vA vB vA' vB' vC:Value} (h:Trio W S base lA lB lC vA vB vC) (h2:Twin W' (SR S vC) base lA' lB' vA' vB') (ht:Turned (fun c=>vA.ownBlock=some c∨vB.ownBlock=some c) W W') (hs:Shown W (SR (SR (SR S vC) vB) vA) W' (SR (SR (SR S vC) vB') vA')):Trio W' S base lA' lB' lC vA' vB' vC:=by
 refine ⟨h2,h.2.rehide ht.size ?_ ?_ ?_ ?_⟩
 ·rintro c ((hc | hc) | hc)
  ·exact qzM (h.2.1 c (.inl (.inl hc))) ht.size
  ·exact (h2.2.block hc).2
  ·exact (h2.1.block hc).2
 ·rintro g hg ((hc | hc) | hc)
  ·exact h.2.apart g hg (.inl (.inl hc))
  ·exact h2.2.apart g hc (.inl (.inr hg))
  ·exact h2.1.apart g hc (.inl (.inr hg))
 ·intro g hg
  refine ht.block g (h.2.block hg).2 ?_
  rintro (hc | hc)
  ·exact h.2.apart g hg (.inr hc)
  ·exact h.2.apart g hg (.inl (.inr hc))
 ·refine ((Shown.less W (S':=SR (SR (SR S vC) vB) vA) fun c _ hc=>?_).trans hs).trans (Shown.less W' fun c _ hc=>?_)
  ·rcases hc with ((hc | hc) | hc) | hc
   ·exact .inl (.inl (.inl hc))
   ·exact .inr hc
   ·exact .inl (.inl (.inr hc))
   ·exact .inl (.inr hc)
  ·rcases hc with ((hc | hc) | hc) | hc
   ·exact .inl (.inl (.inl hc))
   ·exact .inl (.inr hc)
   ·exact .inr hc
   ·exact .inl (.inl (.inr hc))
theorem Trio.third {W W':World} {S:Nat->Prop} {base:Nat} {lA lB lC lC':List Dat} {vA vB vC vC':Value} (h:Trio W S base lA lB lC vA vB vC) (h2:GrownS W' (SR (SR S vB) vA) base lC' vC') (ht:Turned (fun c=>vC.ownBlock=some c) W W') (hs:Shown W (SR (SR (SR S vB) vA) vC) W' (SR (SR (SR S vB) vA) vC')):Trio W' S base lA lB lC' vA vB vC':=by
 have key:∀(l:List Dat) (v u:Value),GrownS W (SR (SR S vC) u) base l v->(∀c,v.ownBlock=some c∨u.ownBlock=some c->vA.ownBlock=some c∨vB.ownBlock=some c)->(∀c,vA.ownBlock=some c∨vB.ownBlock=some c->v.ownBlock=some c∨u.ownBlock=some c)->GrownS W' (SR (SR S vC') u) base l v:=by
  intro l v u hg hvu hvu2
  refine hg.rehide ht.size ?_ ?_ ?_ ?_
  ·rintro c ((hc | hc) | hc)
   ·exact qzM (hg.1 c (.inl (.inl hc))) ht.size
   ·exact (h2.block hc).2
   ·exact qzM (hg.1 c (.inr hc)) ht.size
  ·rintro g hgv ((hc | hc) | hc)
   ·exact hg.apart g hgv (.inl (.inl hc))
   ·rcases hvu g (.inl hgv) with hh | hh
    ·exact h2.apart g hc (.inr hh)
    ·exact h2.apart g hc (.inl (.inr hh))
   ·exact hg.apart g hgv (.inr hc)
  ·intro g hgv
   exact ht.block g (hg.block hgv).2 fun hc=>hg.apart g hgv (.inl (.inr hc))
  ·refine ((Shown.less W (S':=SR (SR (SR S vB) vA) vC) fun c _ hc=>?_).trans hs).trans (Shown.less W' fun c _ hc=>?_)
   ·rcases hc with ((hc | hc) | hc) | hc
    ·exact .inl (.inl (.inl hc))
    ·rcases hvu2 c (.inr hc) with hh | hh
     ·exact .inr hh
     ·exact .inl (.inr hh)
    ·rcases hvu2 c (.inl hc) with hh | hh
     ·exact .inr hh
     ·exact .inl (.inr hh)
    ·exact .inl (.inl (.inr hc))
   ·rcases hc with ((hc | hc) | hc) | hc
    ·exact .inl (.inl (.inl hc))
    ·exact .inr hc
    ·rcases hvu c (.inr hc) with hh | hh
     ·exact .inl (.inr hh)
     ·exact .inl (.inl (.inr hh))
    ·rcases hvu c (.inl hc) with hh | hh
     ·exact .inl (.inr hh)
     ·exact .inl (.inl (.inr hh))
 refine ⟨⟨key lA vA vB h.1.1 (fun _ h=>h) (fun _ h=>h),key lB vB vA h.1.2 (fun _ h=>h.symm) (fun _ h=>h.symm)⟩,h2⟩
end
section
open Go Go.RowKit
theorem zeU {w:World} {B:Nat}:∀{l:List Dat} {xs:List Value} {j:Nat} {x:Dat},CellsD w B l xs->l[j]?=some x->∃c0 c1 c2 c3 c4,xs[j*5]?=some c0∧xs[j*5+1]?=some c1∧xs[j*5+2]?=some c2∧xs[j*5+3]?=some c3∧xs[j*5+4]?=some c4∧RepD w B x (.agg #[c0,c1,c2,c3,c4])
 | [],xs,j,x,_,hx=>by simp at hx
 | y::l,xs,0,x,h,hx=>by
  obtain ⟨c0,c1,c2,c3,c4,r,rfl,hr,_⟩:=h
  obtain rfl:y=x:=by simpa using hx
  exact ⟨c0,c1,c2,c3,c4,rfl,rfl,rfl,rfl,rfl,hr⟩
 | y::l,xs,j+1,x,h,hx=>by
  obtain ⟨c0,c1,c2,c3,c4,r,rfl,_,h2⟩:=h
  rw[List.getElem?_cons_succ] at hx
  obtain ⟨d0,d1,d2,d3,d4,e0,e1,e2,e3,e4,hr⟩:=zeU h2 hx
  have key:∀i,(c0::c1::c2::c3::c4::r)[(j+1)*5+i]?=r[j*5+i]?:=fun i=>by
   rw[show (j+1)*5+i=(j*5+i)+5 by omega]
   rfl
  exact ⟨d0,d1,d2,d3,d4,(key 0).trans e0,(key 1).trans e1,(key 2).trans e2,(key 3).trans e3,(key 4).trans e4,hr⟩
theorem GrownS.elem {W:World} {S:Nat->Prop} {base:Nat} {l:List Dat} {o:Option Addr} {len cap j:Nat} {x:Dat} (h:GrownS W S base l (.slice o len cap)) (hx:l[j]?=some x):∃(g:Nat) (k n d:Int) (s:ByteArray) (p:Option Addr) (ln cp:Nat),o=some ⟨g,0,none⟩∧W.cell? ⟨g,j*5,none⟩=some (.int .i64 k)∧W.cell? ⟨g,j*5+1,none⟩=some (.int .i64 n)∧W.cell? ⟨g,j*5+2,none⟩=some (.int .i64 d)∧W.cell? ⟨g,j*5+3,none⟩=some (.string s)∧W.cell? ⟨g,j*5+4,none⟩=some (.slice p ln cp)∧RepD (hide W (SR S (.slice o len cap))) W.heap.size x (.agg #[.int .i64 k,.int .i64 n,.int .i64 d,.string s,.slice p ln cp]):=by
 obtain ⟨h0,hap,h00,xs,h1,h2⟩:=h
 obtain ⟨c0,c1,c2,c3,c4,e0,e1,e2,e3,e4,hr⟩:=zeU h2 hx
 obtain ⟨k,n,d,s,p,ln,cp,he⟩:=zae hr
 simp only[Value.agg.injEq,Array.mk.injEq,List.cons.injEq,and_true] at he
 obtain ⟨rfl,rfl,rfl,rfl,rfl⟩:=he
 have hj:j<l.length:=(List.getElem?_eq_some_iff.1 hx).1
 rcases id h1.2 with ⟨_,h3⟩ | ⟨g,cap',cur,he,_⟩
 ·omega
 ·simp only[Value.slice.injEq] at he
  obtain ⟨rfl,rfl,rfl⟩:=he
  have key:∀i,i<l.length*5->W.cell? ⟨g,i,none⟩=xs[i]?:=fun i hi=>World.ownsRow.cellAt h1 i hi
  exact ⟨g,k,n,d,s,p,ln,cp,rfl,(key _ (by omega)).trans e0,(key _ (by omega)).trans e1,(key _ (by omega)).trans e2,(key _ (by omega)).trans e3,(key _ (by omega)).trans e4,hr⟩
theorem GrownS.one {W:World} {S:Nat->Prop} {x:Dat} {c0 c1 c2 c3 c4:Value} (hS:∀b,S b->b<W.heap.size) (hx:RepD (hide W S) W.heap.size x (.agg #[c0,c1,c2,c3,c4])):GrownS (W.alloc (.cells #[c0,c1,c2,c3,c4] 26)) S W.heap.size [x] (.slice (some ⟨W.heap.size,0,none⟩) 1 1):=by
 have je:Below W.heap.size W (W.alloc (.cells #[c0,c1,c2,c3,c4] 26)):=Below.one _ _
 refine ⟨fun b hb=>qzM (hS b hb) je.size,fun g hg hs=>?_,je.size,[c0,c1,c2,c3,c4],?_,c0,c1,c2,c3,c4,[],rfl,?_,rfl⟩
 ·simp only[Value.ownBlock,Option.some.injEq] at hg
  subst hg
  have:=hS _ hs
  omega
 ·exact zdo 26 5 1 [c0,c1,c2,c3,c4] rfl (by decide)
 ·refine hx.shown (fun c o u hc hu=>?_) je.size
  have hcl:=zai hu
  refine ⟨fun hs=>hs.elim hc fun hs=>?_,(je.cell (p:=⟨c,o,none⟩) hcl).trans hu⟩
  simp only[Value.ownBlock,Option.some.injEq] at hs
  omega
namespace Sy
theorem steps_drop {L:List Dat} {i:Nat} {x:Dat} (h:L[i]?=some x):L.drop i=x::L.drop (i+1):=by
 obtain ⟨hlt,rfl⟩:=List.getElem?_eq_some_iff.1 h
 exact List.drop_eq_getElem_cons hlt
theorem steps_two {x a c:Dat} {r:List Dat} (h4:((split x).2.kind==4)=true) (hx:(split x).1=[a,c]):steps (x::r)=(steps r).map fun p=>(a::p.1,c::p.2.1,a::p.2.2):=by
 rw[steps,if_pos (by simpa using h4),hx]
theorem steps_three {x a c e:Dat} {r:List Dat} (h4:((split x).2.kind==4)=true) (hx:(split x).1=[a,c,e]):steps (x::r)=(steps r).map fun p=>(a::p.1,c::p.2.1,e::p.2.2):=by
 rw[steps,if_pos (by simpa using h4),hx]
theorem steps_bad {x:Dat} {r:List Dat} (h:((split x).2.kind==4)=false∨((split x).1.length≠2∧(split x).1.length≠3)):steps (x::r)=none:=by
 rw[steps]
 by_cases h4:(split x).2.kind=4
 ·rw[if_pos h4]
  rcases h with h | h
  ·rw[h4] at h;cases h
  ·match hx:(split x).1 with
   | []=>rfl
   | [_]=>rfl
   | [_,_]=>rw[hx] at h;simp at h
   | [_,_,_]=>rw[hx] at h;simp at h
   | _::_::_::_::_=>rfl
 ·rw[if_neg h4]
end Sy
end
section
open Go Go.RowKit
structure XR (S:Nat->Prop) (b G n:Nat) (w W:World):Prop where
 lt:∀c,S1 S G c->c<W.heap.size
 own:S b
 ht:Turned (fun c=>c=b) w W
 hx:XP W b n
 hE:Env W
theorem XR.next {S:Nat->Prop} {b G n m:Nat} {w W W':World} (h:XR S b G n w W) (ht:Turned (fun c=>c=b) W W') (hx:XP W' b m):XR S b G m w W':=
 ⟨fun c hc=>qzM (h.lt c hc) ht.size,h.own,h.ht.next ht,hx,Env.turned h.hE h.hx ht⟩
theorem zhv {id:Nat} {dr:Bool} {Q:Exit->Act->World->Prop} {a0:Act} {l:List Oper} {S:Nat->Prop} {b H:Nat} {w W:World} (n:Nat) (ps:List Nat) (ns:Nat->Nat) (sps:List Sp) (hst:XR S b H (ns 0) w W) (hB:zB dr l.toArray n a0.tmps.size=true)
  (hnd:ps.Nodup) (hpn:∀p∈ps,p<n) (hch:chB dr l.toArray ps=true)
  (hops:∀i o,i<n->¬i∈ps->l.toArray[i]?=some o->∀(a:Act) (w1:World),a.defers=a0.defers->(∀c,S1 S H c->c<w1.heap.size)->Turned (fun c=>c=b) W w1->(∀j oj d,j<n->l.toArray[j]?=some oj->(∃e∈o.after,Region.binds .any e=true∧e.on=j)->oj.dst=some d->(sps.getD j .any).holds (S1 S H) (a.tmps.getD d undef) w1)->Rest l.toArray n a0 a ->
   o.wp prog a w1 (SpK (S1 S H) (sps.getD i .any) o a w1) Q)
  (hcall:∀k i o,ps[k]?=some i->l.toArray[i]?=some o->∀(a:Act) (w1:World),a.defers=a0.defers->XR S b H (ns k) w w1->Turned (fun c=>c=b) W w1->(∀j oj d,j<n->l.toArray[j]?=some oj->(∃e∈o.after,Region.binds .any e=true∧e.on=j)->oj.dst=some d->(sps.getD j .any).holds (S1 S H) (a.tmps.getD d undef) w1)->(∀j i' o' d',j<k->ps[j]?=some i'->l.toArray[i']?=some o'->o'.dst=some d'->(sps.getD i' .any).holds (S1 S H) (a.tmps.getD d' undef) w1)->Rest l.toArray n a0 a ->
   o.wp prog a w1 (SpX (S1 S H) b (ns (k+1)) (sps.getD i .any) o a w1) Q)
  (hend:∀a w1,a.defers=a0.defers->a.tmps.size=a0.tmps.size->XR S b H (ns ps.length) w w1->Turned (fun c=>c=b) W w1->(∀i o d,i<n->l.toArray[i]?=some o->o.dst=some d->(sps.getD i .any).holds (S1 S H) (a.tmps.getD d undef) w1)->Rest l.toArray n a0 a->wpList prog l.toArray Q (l.drop n) a w1) :
  (Code.region id l.toArray dr).wp prog Q a0 W:=by
 refine zed (b:=b) n ps ns (fun i v w1=>(sps.getD i .any).holds (S1 S H) v w1) (by kernel_rfl) hB hnd hpn hch hst.hx (fun i v A B _ h ht=>Sp.turned h (.inl hst.own) ht) ?_ ?_ ?_
 ·intro i o hi hip ho a w1 hdf hsz ht jb ja
  exact hops i o hi hip ho a w1 hdf (fun c hc=>qzM (hst.lt c hc) ht.size) ht jb ja
 ·intro k i o hk ho a w1 hdf hsz ht hxp jb jg ja
  exact hcall k i o hk ho a w1 hdf (hst.next ht hxp) ht jb jg ja
 ·intro a w1 hdf hsz ht hxp hval ja
  exact hend a w1 hdf hsz (hst.next ht hxp) ht hval ja
theorem GrownS.empty {W:World} {S:Nat->Prop} (hS:∀b,S b->b<W.heap.size):GrownS (W.alloc (.cells #[] 26)) S W.heap.size [] (.slice (some ⟨W.heap.size,0,none⟩) 0 0):=by
 have je:Below W.heap.size W (W.alloc (.cells #[] 26)):=Below.one _ _
 refine ⟨fun b hb=>qzM (hS b hb) je.size,fun g hg hs=>?_,je.size,[],World.ownsRow_made W #[] 0 qzL (by decide) rfl,rfl⟩
 simp only[Value.ownBlock,Option.some.injEq] at hg
 subst hg
 have:=hS _ hs
 omega
end
section
open Go Go.RowKit
namespace Dat
mutual
def tidy:Dat->Bool
 | mk k _ _ _ l=>(k != 6 || l.length==2)&&((k != 2 || l.length==0)&&tidyL l)
def tidyL:List Dat->Bool
 | []=>true
 | x::l=>tidy x&&tidyL l
end
theorem zcN {l:List Dat}:tidyL l=true↔∀y∈l,tidy y=true:=by
 induction l with
 | nil=>simp[tidyL]
 | cons x l ih=>simp[tidyL,ih]
theorem zgY {l:List Dat}:shapedL l=true↔∀y∈l,shaped y=true:=by
 induction l with
 | nil=>simp[shapedL]
 | cons x l ih=>simp[shapedL,ih]
theorem tidy_shaped (x:Dat) (h:tidy x=true):shaped x=true:=by
 induction x using Dat.ind with
 | h k n d s l ih=>
  simp only[tidy,Bool.and_eq_true] at h
  simp only[shaped,Bool.and_eq_true]
  exact ⟨h.1,zgY.2 fun y hy=>ih y hy (zcN.1 h.2.2 y hy)⟩
theorem zgp {k n d:Int} {s:ByteArray} {l:List Dat} (h:tidy (mk k n d s l)=true) (hk:k=6):∃a b,l=[a,b]∧tidy a=true∧tidy b=true:=by
 subst hk
 simp only[tidy,Bool.and_eq_true] at h
 match l,h with
 | [a,b],h=>exact ⟨a,b,rfl,zcN.1 h.2.2 a (by simp),zcN.1 h.2.2 b (by simp)⟩
theorem zkJ {x:Dat} (h:tidy x=true) (hk:x.kind=2):all x=1:=by
 obtain ⟨k,n,d,s,l⟩:=x
 replace hk:k=2:=hk
 subst hk
 simp only[tidy,Bool.and_eq_true] at h
 match l,h with
 | [],_=>rfl
theorem zbf (x:Dat):1<=all x:=by obtain ⟨k,n,d,s,l⟩:=x;simp only[all];omega
end Dat
namespace Sy
open Dat
theorem zaZ (x:Dat) (hs:tidy x=true):(∀y∈(split x).1,tidy y=true)∧tidy (split x).2=true:=by
 induction x using Dat.ind with
 | h k n d s l ih=>
  by_cases hk:k=6
  ·obtain ⟨a,b,rfl,ha,hb⟩:=zgp hs hk
   rw[split_pair hk]
   have i:=ih b (by simp) hb
   exact ⟨fun y hy=>by
    rcases List.mem_cons.1 hy with rfl | hy
    ·exact ha
    ·exact i.1 y hy,i.2⟩
  ·rw[split_other hk]
   exact ⟨fun y hy=>by simp at hy,hs⟩
theorem zcX:∀{l:List Dat},(∀y∈l,tidy y=true)->tidy (Dat.list l)=true
 | [],_=>rfl
 | x::l,h=>by
  rw[show Dat.list (x::l)=Dat.pair x (Dat.list l) from rfl,Dat.pair]
  have hl:tidy (Dat.list l)=true:=zcX (l:=l) fun y hy=>h y (List.mem_cons_of_mem _ hy)
  simp only[tidy,tidyL,h x List.mem_cons_self,hl]
  rfl
theorem zbh {x:Dat} (h:tidy x=true):wt (split x).1+1<=Dat.all x:=by
 have h1:=zdN x (tidy_shaped x h)
 have h2:=zbf (split x).2
 omega
theorem zhR:∀l m:List Dat,wt (l++m)=wt l+wt m
 | [],m=>by simp[wt]
 | x::l,m=>by rw[List.cons_append];simp only[wt];rw[zhR l m];omega
theorem wt_mem:∀{l:List Dat} {y:Dat},y∈l->Dat.all y+1<=wt l
 | x::l,y,h=>by
  simp only[wt]
  rcases List.mem_cons.1 h with rfl | h
  ·omega
  ·have:=wt_mem h;omega
theorem wt_len:∀l:List Dat,l.length<=wt l
 | []=>by simp
 | x::l=>by have:=wt_len l;simp only[wt,qzN];omega
theorem zfF:∀{l ns vs:List Dat},bindsL l=some (ns,vs)->(∀y∈l,tidy y=true)->wt ns+wt vs<=wt l∧(∀y∈ns,tidy y=true)∧∀y∈vs,tidy y=true
 | [],ns,vs,h,_=>by
  simp only[bindsL,Option.some.injEq,Prod.mk.injEq] at h
  obtain ⟨rfl,rfl⟩:=h
  exact ⟨qzL,fun y hy=>by simp at hy,fun y hy=>by simp at hy⟩
 | x::l,ns,vs,h,hs=>by
  have hx:=hs x (by simp)
  have hsum:=zbh hx
  have hpt:=(zaZ x hx).1
  simp only[bindsL] at h
  split at h
  ·rename_i a c hac
   split at h
   ·obtain ⟨p,hp,he⟩:=Option.map_eq_some_iff.1 h
    simp only[Prod.mk.injEq] at he
    obtain ⟨rfl,rfl⟩:=he
    obtain ⟨i1,i2,i3⟩:=zfF (ns:=p.1) (vs:=p.2) hp fun y hy=>hs y (by simp[hy])
    rw[hac] at hsum hpt
    simp only[wt] at hsum ⊢
    exact ⟨by omega,List.forall_mem_cons.2 ⟨hpt a (by simp),i2⟩,List.forall_mem_cons.2 ⟨hpt c (by simp),i3⟩⟩
   ·cases h
  ·cases h
theorem zbL {x:Dat} {ns vs:List Dat} (h:binds x=some (ns,vs)) (hs:tidy x=true):wt ns+wt vs+1<=Dat.all x∧(∀y∈ns,tidy y=true)∧(∀y∈vs,tidy y=true)∧ns.length=vs.length:=by
 unfold binds at h
 split at h
 ·obtain ⟨i1,i2,i3⟩:=zfF h (zaZ x hs).1
  have:=zbh hs
  have hl:=bindsL_len h
  exact ⟨by omega,i2,i3,by omega⟩
 ·cases h
theorem zff:∀{l ns vs ag:List Dat},steps l=some (ns,vs,ag)->(∀y∈l,tidy y=true)->wt vs+wt ag<=wt l∧((∀y∈ns,Dat.all y=1)->wt ns+60*(wt vs+wt ag)<=60*wt l)∧(∀y∈ns,tidy y=true)∧(∀y∈vs,tidy y=true)∧∀y∈ag,tidy y=true
 | [],ns,vs,ag,h,_=>by
  simp only[steps,Option.some.injEq,Prod.mk.injEq] at h
  obtain ⟨rfl,rfl,rfl⟩:=h
  exact ⟨qzL,fun _=>qzL,fun y hy=>by simp at hy,fun y hy=>by simp at hy,fun y hy=>by simp at hy⟩
 | x::l,ns,vs,ag,h,hs=>by
  have hx:=hs x (by simp)
  have hsum:=zbh hx
  have hpt:=(zaZ x hx).1
  simp only[steps] at h
  split at h
  ·split at h
   ·rename_i a c hac
    obtain ⟨p,hp,he⟩:=Option.map_eq_some_iff.1 h
    simp only[Prod.mk.injEq] at he
    obtain ⟨rfl,rfl,rfl⟩:=he
    obtain ⟨i1,i2,i3,i4,i5⟩:=zff (ns:=p.1) (vs:=p.2.1) (ag:=p.2.2) hp fun y hy=>hs y (by simp[hy])
    rw[hac] at hsum hpt
    simp only[wt] at hsum ⊢
    refine ⟨by omega,fun hn=>?_,List.forall_mem_cons.2 ⟨hpt a (by simp),i3⟩,List.forall_mem_cons.2 ⟨hpt c (by simp),i4⟩,List.forall_mem_cons.2 ⟨hpt a (by simp),i5⟩⟩
    have h1:=hn a (by simp)
    have h2:=i2 fun y hy=>hn y (by simp[hy])
    omega
   ·rename_i a c e hac
    obtain ⟨p,hp,he⟩:=Option.map_eq_some_iff.1 h
    simp only[Prod.mk.injEq] at he
    obtain ⟨rfl,rfl,rfl⟩:=he
    obtain ⟨i1,i2,i3,i4,i5⟩:=zff (ns:=p.1) (vs:=p.2.1) (ag:=p.2.2) hp fun y hy=>hs y (by simp[hy])
    rw[hac] at hsum hpt
    simp only[wt] at hsum ⊢
    refine ⟨by omega,fun hn=>?_,List.forall_mem_cons.2 ⟨hpt a (by simp),i3⟩,List.forall_mem_cons.2 ⟨hpt c (by simp),i4⟩,List.forall_mem_cons.2 ⟨hpt e (by simp),i5⟩⟩
    have h1:=hn a (by simp)
    have h2:=i2 fun y hy=>hn y (by simp[hy])
    omega
   ·cases h
  ·cases h
theorem zcT:∀{met:List (List UInt8)} {l:List Dat},distinctF met l=true->∀y∈l,isVar y=true
 | _,[],_,y,hy=>by simp at hy
 | met,x::l,h,y,hy=>by
  simp only[distinctF,Bool.and_eq_true] at h
  rcases List.mem_cons.1 hy with rfl | hy
  ·exact h.1
  ·exact zcT h.2.2 y hy
theorem zju {l:List Dat} (h:distinct l=true) (ht:∀y∈l,tidy y=true):∀y∈l,Dat.all y=1:=fun y hy=>by
 have:=zcT h y hy
 unfold isVar at this
 simp only[Bool.and_eq_true,beq_iff_eq] at this
 exact zkJ (ht y hy) this.1
theorem zge {l m:List Dat} (h:l.length=m.length) (a b:Dat):pairsL (l++[a]) (m++[b])=pairsL l m++[Dat.list [a,b]]:=by
 unfold pairsL
 rw[List.zipWith_append h]
 rfl
theorem zfY:∀l m:List Dat,wt (pairsL l m)<=3*wt l+wt m
 | [],m=>by simp[pairsL,wt]
 | a::l,[]=>by simp[pairsL,wt]
 | a::l,b::m=>by
  have ih:=zfY l m
  rw[show pairsL (a::l) (b::m)=Dat.list [a,b]::pairsL l m from rfl]
  simp only[wt,zaK]
  omega
theorem zaS (s:ByteArray) (l:List Dat):Dat.all (form s l)=wt l+3:=by
 unfold form
 rw[zaK]
 simp only[wt,sym,Dat.all,Dat.allL]
 omega
theorem zdM (x:Dat):Dat.all (const x)=Dat.all x+4:=by
 unfold const
 rw[zaK]
 simp only[wt,sym,Dat.all,Dat.allL]
 omega
theorem zcj:Dat.all void=5:=rfl
theorem zb2 (n:Int):Dat.all (truth n)=5:=rfl
def Good {α:Type} (sz:α->Nat) (k B:Nat) (m:M α):Prop:=∀n,n+k<=1000000->∃o,m n=some o∧∀y n',o=some (y,n')->n'<=n+k∧sz y<=B
section
variable {α β : Type} {sz : α -> Nat} {sz2 : β -> Nat} {k k1 k2 B B1 B2 : Nat}
theorem Good.mono {m:M α} (h:Good sz k1 B1 m) (hk:k1<=k) (hB:B1<=B):Good sz k B m:=fun n hn=>by
 obtain ⟨o,h1,h2⟩:=h n (by omega)
 exact ⟨o,h1,fun y n' he=>by have:=h2 y n' he;omega⟩
theorem Good.bad:Good sz k B (Sy.bad (α:=α)):=fun n hn=>⟨none,rfl,fun y n' he=>by cases he⟩
theorem Good.ret {a:α} (h:sz a<=B):Good sz k B (Sy.ret a):=fun n hn=>⟨some (a,n),rfl,fun y n' he=>by cases he;omega⟩
theorem Good.bnd {m:M α} {f:α->M β} (h1:Good sz k1 B1 m) (h2:∀y,sz y<=B1->Good sz2 k2 B2 (f y)) (hk:k1+k2<=k):Good sz2 k B2 (Sy.bnd m f):=fun n hn=>by
 obtain ⟨o,e1,g1⟩:=h1 n (by omega)
 unfold Sy.bnd
 rw[e1]
 match o,g1 with
 | none,_=>exact ⟨none,rfl,fun y n' he=>by cases he⟩
 | some (a,n1),g1=>
  obtain ⟨l1,l2⟩:=g1 a n1 rfl
  obtain ⟨o2,e2,g2⟩:=h2 a l2 n1 (by omega)
  exact ⟨o2,e2,fun y n' he=>by have:=g2 y n' he;omega⟩
theorem Good.need {b:Bool} {m:M α} (h:b=true->Good sz k B m):Good sz k B (Sy.need b m):=by
 unfold Sy.need
 cases b with
 | true=>exact h rfl
 | false=>exact Good.bad
end
theorem Good.fresh:Good Dat.all 1 1 fresh:=fun n hn=>by
 refine ⟨some (freshD (n+1),n+1),by unfold Sy.fresh;rw[if_pos (by omega)],fun y n' he=>?_⟩
 cases he
 exact ⟨qzL,qzL⟩
theorem Good.freshT {β:Type} {sz2:β->Nat} {k B:Nat} {f:Dat->M β} (h:∀v,Dat.all v<=1->tidy v=true->Good sz2 k B (f v)):Good sz2 (k+1) B (Sy.bnd Sy.fresh f):=fun n hn=>by
 unfold Sy.bnd Sy.fresh
 rw[if_pos (by omega)]
 obtain ⟨o,e,g⟩:=h (freshD (n+1)) qzL rfl (n+1) (by omega)
 exact ⟨o,e,fun y n' he=>by have:=g y n' he;omega⟩
def GE (K:Nat) (E:Dat->M Dat):Prop:=∀x,tidy x=true->Dat.all x<=K->Good Dat.all (Dat.all x) (60*Dat.all x) (E x)
def GL (K:Nat) (L:Dat->List Dat->M Dat):Prop:=∀f b,tidy f=true->(∀y∈b,tidy y=true)->Dat.all f+wt b<=K->Good Dat.all (Dat.all f+wt b) (60*(Dat.all f+wt b)) (L f b)
variable {K : Nat} {E : Dat -> M Dat} {L : Dat -> List Dat -> M Dat}
theorem zbN (hE:GE K E):∀l:List Dat,(∀y∈l,tidy y=true)->wt l<=K+1->Good wt (wt l) (60*wt l) (all E l)
 | [],_,_=>Good.ret (by simp[wt])
 | x::l,ht,hw=>by
  simp only[wt] at hw
  unfold all
  refine Good.bnd (hE x (ht x (by simp)) (by omega)) (fun y hy=>Good.bnd (zbN hE l (fun z hz=>ht z (by simp[hz])) (by omega)) (fun r hr=>Good.ret (B:=60*wt (x::l)) (k:=0) ?_) qzL) ?_
  ·simp only[wt];omega
  ·simp only[wt];omega
theorem za8 (hE:GE K E) (l:List Dat) (ht:∀y∈l,tidy y=true) (hw:wt l<=K+1):Good Dat.all (wt l) (60*wt l+3) (begin E l):=by
 unfold begin
 refine Good.need fun _=>Good.bnd (zbN hE l ht hw) (fun r hr=>Good.ret (k:=0) ?_) qzL
 rw[zaS];omega
theorem zgR (hE:GE K E) (hL:GL K L) (x:Dat) (ht:tidy x=true) (hw:Dat.all x<=K+1) (m:M (Dat × Dat)) (hm:define E L x=some m):Good (fun p=>Dat.all p.1+Dat.all p.2) (Dat.all x) (60*Dat.all x-100) m:=by
 have h1:=zbh ht
 have h2:=(zaZ x ht).1
 unfold define at hm
 split at hm
 ·cases hm
 ·rename_i h t hsp
  rw[hsp] at h1 h2
  simp only[wt] at h1
  have hh:=zbf h
  split at hm
  ·cases hm
   split
   ·exact Good.bad
   ·exact Good.bad
   ·rename_i name v r
    simp only[wt] at h1
    have hn:=zbf name
    have hv:=zbf v
    have htn:=h2 name (by simp)
    have htv:=h2 v (by simp)
    split
    ·rename_i hk
     split
     ·rename_i a f hl
      obtain ⟨k,n',d,s,l⟩:=name
      replace hl:l=[a,f]:=hl
      subst hl
      obtain ⟨a',f',hl,hta,htf⟩:=zgp htn hk
      simp only[List.cons.injEq,and_true] at hl
      obtain ⟨rfl,rfl⟩:=hl
      simp only[Dat.all,Dat.allL] at h1 hn
      have ha:=zbf a
      refine Good.bnd (hL f (v::r) htf (fun y hy=>h2 y (List.mem_cons_of_mem _ (List.mem_cons_of_mem _ hy))) (by simp only[wt];omega)) (fun y hy=>Good.ret (k:=0) ?_) (by simp only[wt];omega)
      simp only[wt] at hy
      show Dat.all a+Dat.all y<=_
      omega
     ·exact Good.bad
    ·refine Good.need fun _=>Good.bnd (hE v htv (by omega)) (fun y hy=>Good.ret (k:=0) ?_) (by omega)
     show Dat.all name+Dat.all y<=_
     omega
  ·cases hm
theorem zeM (hE:GE K E) (hL:GL K L):∀(l names values:List Dat),(∀y∈l,tidy y=true)->wt l<=K+1->names.length=values.length->Good Dat.all (wt l) (60*wt l+wt (pairsL names values)+15) (bodyF E L l names values)
 | [],_,_,_,_,_=>Good.bad
 | x::r,names,values,ht,hw,jk=>by
  have htx:=ht x (by simp)
  have htr:∀y∈r,tidy y=true:=fun z hz=>ht z (by simp[hz])
  have hwx:wt (x::r)=1+Dat.all x+wt r:=rfl
  unfold bodyF
  split
  ·rename_i m hm
   refine Good.bnd (zgR hE hL x htx (by omega) m hm) (fun p hp=>(zeM hE hL r (names++[p.1]) (values++[p.2]) htr (by omega) (by simp[jk])).mono qzL ?_) (by omega)
   rw[zge jk,zhR]
   simp only[wt,zaK]
   have:=zbf x
   omega
  ·refine Good.need fun _=>Good.bnd (sz:=Dat.all) (k1:=wt (x::r)) (B1:=60*wt (x::r)+3) ?_ (fun rest hr=>Good.ret (k:=0) ?_) qzL
   ·split
    ·exact (hE x htx (by omega)).mono (by omega) (by omega)
    ·exact za8 hE _ ht hw
   ·split
    ·omega
    ·rw[zaS]
     simp only[wt,pairs,zaK]
     simp only[wt] at hr
     omega
theorem zdU (hE:GE K E) (hL:GL K L) (l:List Dat) (ht:∀y∈l,tidy y=true) (hw:wt l<=K+1):Good Dat.all (wt l) (60*wt l+15) (body E L l):=
 (zeM hE hL l [] [] ht hw rfl).mono qzL (by simp[pairsL,wt])
theorem zgE (hE:GE K E) (hL:GL K L) (f:Dat) (b:List Dat) (ht:∀y∈b,tidy y=true) (hw:wt b<=K+1):Good Dat.all (wt b) (60*(Dat.all f+wt b)) (lambda E L f b):=by
 unfold lambda
 refine Good.need fun _=>Good.bnd (zdU hE hL b ht hw) (fun y hy=>Good.ret (k:=0) ?_) qzL
 rw[zaS]
 have:=zbf f
 simp only[wt]
 omega
theorem zb4 (hE:GE K E) (v b a:Dat) (ht:tidy a=true) (hw:Dat.all a<=K) (B:Nat) (hB:10+Dat.all v+Dat.all b+60*Dat.all a<=B):Good Dat.all (Dat.all a) B (over E v b a):=by
 unfold over
 refine Good.bnd (hE a ht hw) (fun y hy=>Good.ret (k:=0) ?_) qzL
 simp only[zaK,wt,zaS]
 omega
theorem zd2 (hE:GE K E) (hL:GL K L) (names values b:List Dat) (htn:∀y∈names,tidy y=true) (htv:∀y∈values,tidy y=true) (htb:∀y∈b,tidy y=true) (h1:wt names+1+wt b<=K) (h2:wt values<=K+1):Good Dat.all (wt names+1+wt b+wt values) (60*(wt names+1+wt b+wt values)+2) (letF E L names values b):=by
 unfold letF
 refine Good.need fun _=>Good.bnd (hL (Dat.list names) b (zcX htn) htb (by rw[zaK];omega)) (fun f hf=>Good.bnd (zbN hE values htv h2) (fun r hr=>Good.ret (k:=0) ?_) qzL) (by rw[zaK];omega)
 rw[zaK] at hf ⊢
 simp only[wt]
 omega
theorem zdV (hE:GE K E) (hL:GL K L):∀(ns vs b:List Dat),(∀y∈ns,tidy y=true)->(∀y∈vs,tidy y=true)->(∀y∈b,tidy y=true)->1+wt b<=K->wt vs<=K+1->Good Dat.all (wt ns+1+wt b+wt vs) (60*(wt ns+1+wt b+wt vs)+2) (chainF E L ns vs b)
 | n::ns,v::vs,b,htn,htv,htb,h1,h2=>by
  unfold chainF
  simp only[wt] at h2
  refine Good.need fun _=>Good.bnd (zdV hE hL ns vs b (fun z hz=>htn z (by simp[hz])) (fun z hz=>htv z (by simp[hz])) htb h1 (by omega)) (fun r hr=>zb4 hE n r v (htv v (by simp)) (by omega) _ ?_) (by simp only[wt];omega)
  simp only[wt]
  omega
 | [],vs,b,_,_,htb,h1,_=>by
  unfold chainF
  exact (zd2 hE hL [] [] b (fun z hz=>by simp at hz) (fun z hz=>by simp at hz) htb (by simp only[wt];omega) (by simp[wt])).mono (by simp only[wt];omega) (by simp only[wt];omega)
 | n::ns,[],b,_,_,htb,h1,_=>by
  unfold chainF
  exact (zd2 hE hL [] [] b (fun z hz=>by simp at hz) (fun z hz=>by simp at hz) htb (by simp only[wt];omega) (by simp[wt])).mono (by simp only[wt];omega) (by simp only[wt];omega)
theorem zeG (hE:GE K E) (f g:Dat) (values:List Dat) (ht:∀y∈values,tidy y=true) (hw:wt values<=K+1):Good Dat.all (wt values) (12+2*Dat.all f+Dat.all g+60*wt values) (loopF E f g values):=by
 unfold loopF
 refine Good.bnd (zbN hE values ht hw) (fun r hr=>Good.ret (k:=0) ?_) qzL
 simp only[zaK,zaS,wt]
 omega
theorem zcn {k B:Nat} (x:Dat) (ht:tidy x=true) (f:List Dat->List Dat->M Dat) (h:∀ns vs,wt ns+wt vs+1<=Dat.all x->(∀y∈ns,tidy y=true)->(∀y∈vs,tidy y=true)->ns.length=vs.length->Good Dat.all k B (f ns vs)):Good Dat.all k B (orBad (binds x) f):=by
 unfold orBad
 split
 ·exact Good.bad
 ·rename_i p hp
  obtain ⟨h1,h2,h3,h4⟩:=zbL (ns:=p.1) (vs:=p.2) hp ht
  exact h _ _ h1 h2 h3 h4
theorem zgk (hE:GE K E):∀(l:List Dat),(∀y∈l,tidy y=true)->wt l<=K+1->Good Dat.all (wt l) (60*wt l+10) (andF E l)
 | [],_,_=>by unfold andF;exact Good.ret (by rw[zb2];omega)
 | [x],ht,hw=>by
  simp only[wt] at hw
  unfold andF
  exact (hE x (ht x (by simp)) (by omega)).mono (by simp only[wt];omega) (by simp only[wt];omega)
 | x::z::r,ht,hw=>by
  have hwx:wt (x::z::r)=1+Dat.all x+wt (z::r):=rfl
  unfold andF
  refine Good.bnd (hE x (ht x (by simp)) (by omega)) (fun a ha=>Good.bnd (zgk hE (z::r) (fun y hy=>ht y (List.mem_cons_of_mem _ hy)) (by omega)) (fun b hb=>Good.ret (k:=0) ?_) qzL) (by omega)
  rw[zaS]
  simp only[wt,zb2]
  simp only[wt] at hb
  omega
theorem zhx (hE:GE K E):∀(l:List Dat),(∀y∈l,tidy y=true)->wt l<=K+1->Good Dat.all (wt l) (60*wt l+10) (orF E l)
 | [],_,_=>by unfold orF;exact Good.ret (by rw[zb2];omega)
 | [x],ht,hw=>by
  simp only[wt] at hw
  unfold orF
  exact (hE x (ht x (by simp)) (by omega)).mono (by simp only[wt];omega) (by simp only[wt];omega)
 | x::z::r,ht,hw=>by
  have hwx:wt (x::z::r)=1+Dat.all x+wt (z::r):=rfl
  unfold orF
  refine Good.bnd Good.fresh (fun v hv=>Good.bnd (zhx hE (z::r) (fun y hy=>ht y (List.mem_cons_of_mem _ hy)) (by omega)) (fun d hd=>zb4 hE v _ x (ht x (by simp)) (by omega) _ ?_) qzL) (by omega)
  rw[zaS]
  simp only[wt]
  simp only[wt] at hd
  omega
theorem zce {x:Dat} {r:List Dat} {least:Nat} {c:List Dat} {b:Bool} (h:clause x r least=some (c,b)) (ht:tidy x=true):wt c+1<=Dat.all x∧∀y∈c,tidy y=true:=by
 unfold clause at h
 split at h
 ·split at h
  ·simp only[Option.some.injEq,Prod.mk.injEq] at h
   obtain ⟨rfl,_⟩:=h
   exact ⟨zbh ht,(zaZ x ht).1⟩
  ·cases h
 ·cases h
theorem zgU (c:List Dat):wt c.tail<=wt c:=by
 cases c with
 | nil=>exact qzL
 | cons a c=>simp only[List.tail_cons,wt];omega
theorem zeP (hE:GE K E):∀(l:List Dat),(∀y∈l,tidy y=true)->wt l<=K+1->Good Dat.all (wt l) (60*wt l+10) (condF E l)
 | [],_,_=>by unfold condF;exact Good.ret (by rw[zcj];omega)
 | x::r,ht,hw=>by
  have hwx:wt (x::r)=1+Dat.all x+wt r:=rfl
  have ih:=zeP hE r (fun y hy=>ht y (List.mem_cons_of_mem _ hy)) (by omega)
  unfold condF
  split
  ·exact Good.bad
  ·rename_i c hc
   obtain ⟨h1,h2⟩:=zce hc (ht x (by simp))
   have:=zgU c
   exact (za8 hE c.tail (fun y hy=>h2 y (List.mem_of_mem_tail hy)) (by omega)).mono (by omega) (by omega)
  ·exact Good.bad
  ·rename_i a hc
   obtain ⟨h1,h2⟩:=zce hc (ht x (by simp))
   simp only[wt] at h1
   refine Good.bnd Good.fresh (fun v hv=>Good.bnd ih (fun d hd=>zb4 hE v _ a (h2 a (by simp)) (by omega) _ ?_) qzL) (by omega)
   rw[zaS]
   simp only[wt]
   omega
  ·rename_i a b t hc
   obtain ⟨h1,h2⟩:=zce hc (ht x (by simp))
   have hwb:wt (a::b::t)=1+Dat.all a+wt (b::t):=rfl
   split
   ·split
    ·rename_i g
     simp only[wt] at h1
     refine Good.bnd Good.fresh (fun v hv=>Good.bnd (hE g (h2 g (by simp)) (by omega)) (fun f hf=>Good.bnd ih (fun d hd=>zb4 hE v _ a (h2 a (by simp)) (by omega) _ ?_) qzL) qzL) (by omega)
     rw[zaS]
     simp only[wt,zaK]
     omega
    ·exact Good.bad
   ·refine Good.bnd (hE a (h2 a (by simp)) (by omega)) (fun y hy=>Good.bnd (za8 hE (b::t) (fun z hz=>h2 z (List.mem_cons_of_mem _ hz)) (by omega)) (fun z hz=>Good.bnd ih (fun d hd=>Good.ret (k:=0) ?_) qzL) qzL) (by omega)
    rw[zaS]
    simp only[wt]
    simp only[wt] at hz h1
    omega
theorem zhC {v:Dat} (hv:Dat.all v=1):∀l:List Dat,Dat.all (test v l)<=5+21*wt l
 | []=>by unfold test;simp only[List.foldr_nil,wt,zb2];omega
 | x::l=>by
  have ih:=zhC hv l
  unfold test at ih ⊢
  simp only[List.foldr_cons]
  rw[zaS]
  have hq:Dat.all (sym eqB)=1:=rfl
  simp only[wt,zaK,zdM,zb2,hv,hq]
  omega
theorem zdh (hE:GE K E) {v:Dat} (hv:Dat.all v<=1):∀(l:List Dat),(∀y∈l,tidy y=true)->wt l<=K+1->Good Dat.all (wt l) (60*wt l+10) (choiceF E v l)
 | [],_,_=>by unfold choiceF;exact Good.ret (by rw[zcj];omega)
 | x::r,ht,hw=>by
  have hwx:wt (x::r)=1+Dat.all x+wt r:=rfl
  have ih:=zdh hE hv r (fun y hy=>ht y (List.mem_cons_of_mem _ hy)) (by omega)
  unfold choiceF
  split
  ·exact Good.bad
  ·rename_i c hc
   obtain ⟨h1,h2⟩:=zce hc (ht x (by simp))
   have:=zgU c
   exact (za8 hE c.tail (fun y hy=>h2 y (List.mem_of_mem_tail hy)) (by omega)).mono (by omega) (by omega)
  ·exact Good.bad
  ·rename_i a t hc
   obtain ⟨h1,h2⟩:=zce hc (ht x (by simp))
   simp only[wt] at h1
   have hta:=zbh (h2 a (by simp))
   refine Good.need fun _=>Good.bnd (za8 hE t (fun z hz=>h2 z (List.mem_cons_of_mem _ hz)) (by omega)) (fun b hb=>Good.bnd ih (fun d hd=>Good.ret (k:=0) ?_) qzL) (by omega)
   rw[zaS]
   simp only[wt]
   have:=zhC (v:=v) (by have:=zbf v;omega) (split a).1
   omega
theorem zko (hE:GE K E) (b t:Dat) (l:List Dat) (htb:tidy b=true) (htt:tidy t=true) (htl:∀y∈l,tidy y=true) (hw:Dat.all b+Dat.all t+wt l+4<=K):Good Dat.all (Dat.all b+Dat.all t+wt l+4) (60*(Dat.all b+Dat.all t+wt l+4)) (doF E b t l):=by
 have hb:=zbh htb
 have ht1:=zbh htt
 have ht2:=(zaZ t htt).1
 have hb2:=(zaZ b htb).1
 unfold doF
 refine Good.need fun hg=>?_
 refine Good.freshT (k:=Dat.all b+Dat.all t+wt l+3) (fun f hf htf=>?_)
 split
 ·exact Good.bad
 ·rename_i names values again hst
  obtain ⟨s1,s2,s3,s4,s5⟩:=zff hst hb2
  refine Good.need fun hd=>?_
  replace s2:=s2 (zju hd s3)
  have hf1:=zbf f
  have htail:=zgU (split t).1
  obtain ⟨t0,ts,he⟩:∃t0 ts,(split t).1=t0::ts:=by
   simp only[Bool.and_eq_true,Bool.not_eq_true',List.isEmpty_eq_false_iff] at hg
   match h:(split t).1 with
   | []=>exact absurd h hg.2.2
   | t0::ts=>exact ⟨t0,ts,rfl⟩
  rw[he] at ht1 ht2 ⊢
  simp only[wt] at ht1
  simp only[List.headD_cons,List.tail_cons]
  have hls:wt (l++[Dat.list (f::again)])=wt l+4+wt again:=by rw[zhR];simp only[wt,zaK];omega
  refine Good.bnd (hE t0 (ht2 t0 (by simp)) (by omega)) (fun test htest=>Good.bnd (sz:=Dat.all) (k1:=wt ts) (B1:=60*wt ts+5) ?_ (fun out hout=>Good.bnd (za8 hE (l++[Dat.list (f::again)]) ?_ (by omega)) (fun go hgo=>(zeG hE f _ values s4 (by omega)).mono qzL ?_) qzL) qzL) (by omega)
  ·show Good Dat.all _ _ (if (t0::ts).tail.isEmpty=true then ret void else begin E ts)
   split
   ·exact Good.ret (by rw[zcj];omega)
   ·exact (za8 hE ts (fun z hz=>ht2 z (List.mem_cons_of_mem _ hz)) (by omega)).mono qzL (by omega)
  ·intro y hy
   rcases List.mem_append.1 hy with hy | hy
   ·exact htl y hy
   ·rw[List.mem_singleton] at hy
    subst hy
    exact zcX (List.forall_mem_cons.2 ⟨htf,s5⟩)
  ·rw[hls] at hgo
   simp only[zaS,zaK,wt]
   omega
theorem zfl (hE:GE K E) (key:ByteArray) (l:List Dat) (ht:∀y∈l,tidy y=true) (hw:wt l+2<=K):Good Dat.all (wt l+3) (60*(wt l+3)) (derivedF E key l):=by
 unfold derivedF
 split
 ·exact (zgk hE l ht (by omega)).mono (by omega) (by omega)
 split
 ·exact (zhx hE l ht (by omega)).mono (by omega) (by omega)
 split
 ·split
  ·rename_i x y r
   have h1:wt (x::y::r)=1+Dat.all x+wt (y::r):=rfl
   refine Good.bnd (hE x (ht x (by simp)) (by omega)) (fun a ha=>Good.bnd (za8 hE (y::r) (fun z hz=>ht z (List.mem_cons_of_mem _ hz)) (by omega)) (fun b hb=>Good.ret (k:=0) ?_) qzL) (by omega)
   rw[zaS]
   simp only[wt,zcj] at hb ⊢
   omega
  ·exact Good.bad
 split
 ·split
  ·rename_i x y r
   have h1:wt (x::y::r)=1+Dat.all x+wt (y::r):=rfl
   refine Good.bnd (hE x (ht x (by simp)) (by omega)) (fun a ha=>Good.bnd (za8 hE (y::r) (fun z hz=>ht z (List.mem_cons_of_mem _ hz)) (by omega)) (fun b hb=>Good.ret (k:=0) ?_) qzL) (by omega)
   rw[zaS]
   simp only[wt,zcj] at hb ⊢
   omega
  ·exact Good.bad
 split
 ·exact (zeP hE l ht (by omega)).mono (by omega) (by omega)
 split
 ·split
  ·rename_i x r
   have h1:wt (x::r)=1+Dat.all x+wt r:=rfl
   refine Good.freshT (k:=wt (x::r)+2) fun v hv _=>Good.bnd (zdh hE hv r (fun z hz=>ht z (List.mem_cons_of_mem _ hz)) (by omega)) (fun d hd=>zb4 hE v d x (ht x (by simp)) (by omega) _ ?_) (by omega)
   omega
  ·exact Good.bad
 split
 ·split
  ·rename_i b t r
   have h1:wt (b::t::r)=1+Dat.all b+(1+Dat.all t+wt r):=rfl
   exact (zko hE b t r (ht b (by simp)) (ht t (by simp)) (fun z hz=>ht z (by simp[hz])) (by omega)).mono (by omega) (by omega)
  ·exact Good.bad
 ·exact Good.bad
theorem ziP (hE:GE K E) (hL:GL K L) (key:ByteArray) (l:List Dat) (ht:∀y∈l,tidy y=true) (hw:wt l+2<=K):Good Dat.all (wt l+3) (60*(wt l+3)) (formF E L key l):=by
 unfold formF
 split
 ·split
  ·rename_i x
   refine Good.ret ?_
   rw[zdM]
   simp only[wt]
   omega
  ·exact Good.bad
 split
 ·split
  ·refine Good.bnd (k1:=wt _) (zbN hE _ ht (by omega)) (fun r hr=>Good.ret (k:=0) ?_) (by omega)
   rw[zaS,zhR]
   simp only[wt,zcj] at hr ⊢
   omega
  ·refine Good.bnd (k1:=wt _) (zbN hE _ ht (by omega)) (fun r hr=>Good.ret (k:=0) ?_) (by omega)
   rw[zaS]
   simp only[wt] at hr ⊢
   omega
  ·exact Good.bad
 split
 ·split
  ·rename_i f b r
   have h1:wt (f::b::r)=1+Dat.all f+wt (b::r):=rfl
   exact (hL f (b::r) (ht f (by simp)) (fun z hz=>ht z (List.mem_cons_of_mem _ hz)) (by omega)).mono (by omega) (by omega)
  ·exact Good.bad
 split
 ·split
  ·rename_i x y
   have h1:wt [x,y]=1+Dat.all x+(1+Dat.all y+0):=rfl
   refine Good.need fun _=>Good.bnd (hE y (ht y (by simp)) (by omega)) (fun v hv=>Good.ret (k:=0) ?_) (by omega)
   rw[zaS]
   simp only[wt]
   omega
  ·exact Good.bad
 split
 ·exact (za8 hE l ht (by omega)).mono (by omega) (by omega)
 split
 ·split
  ·rename_i x b r
   have h1:wt (x::b::r)=1+Dat.all x+wt (b::r):=rfl
   refine zcn x (ht x (by simp)) _ fun ns vs hnv hn hv jk=>Good.need fun _=>?_
   refine Good.bnd (zbN hE vs hv (by omega)) (fun vs' hvs=>Good.bnd (zdU hE hL (b::r) (fun z hz=>ht z (List.mem_cons_of_mem _ hz)) (by omega)) (fun y hy=>Good.ret (k:=0) ?_) qzL) (by omega)
   rw[zaS]
   have hp:=zfY ns vs'
   simp only[wt,pairs,zaK] at hy h1 ⊢
   omega
  ·exact Good.bad
 split
 ·split
  ·rename_i x b r
   have h1:wt (x::b::r)=1+Dat.all x+wt (b::r):=rfl
   exact zcn x (ht x (by simp)) _ fun ns vs hnv hn hv jk=>(zdV hE hL ns vs (b::r) hn hv (fun z hz=>ht z (List.mem_cons_of_mem _ hz)) (by omega) (by omega)).mono (by omega) (by omega)
  ·exact Good.bad
 split
 ·split
  ·rename_i x b r
   have h1:wt (x::b::r)=1+Dat.all x+(1+Dat.all b+wt r):=rfl
   split
   ·split
    ·rename_i c r'
     unfold namedF
     refine zcn b (ht b (by simp)) _ fun ns vs hnv hn hv jk=>Good.need fun _=>Good.bnd (hL (Dat.list ns) (c::r') (zcX hn) (fun z hz=>ht z (by simp at hz ⊢;exact .inr (.inr hz))) (by rw[zaK];omega)) (fun g hg=>(zeG hE x g vs hv (by omega)).mono qzL ?_) (by rw[zaK];omega)
     rw[zaK] at hg
     omega
    ·exact Good.bad
   ·exact zcn x (ht x (by simp)) _ fun ns vs hnv hn hv jk=>(zd2 hE hL ns vs (b::r) hn hv (fun z hz=>ht z (List.mem_cons_of_mem _ hz)) (by simp only[wt];omega) (by omega)).mono (by simp only[wt];omega) (by simp only[wt];omega)
  ·exact Good.bad
 ·exact zfl hE key l ht hw
theorem ziq (hE:GE K E) (hL:GL K L) (x:Dat) (ht:tidy x=true) (hw:Dat.all x<=K+1):Good Dat.all (Dat.all x) (60*Dat.all x) (exprF E L x):=by
 have hge:=zbf x
 unfold exprF
 split
 ·exact Good.need fun _=>Good.ret (by omega)
 split
 ·exact Good.bad
 split
 ·have h1:=zbh ht
  have h2:=(zaZ x ht).1
  refine Good.need fun _=>?_
  split
  ·exact Good.bad
  ·rename_i h t hsp
   rw[hsp] at h1 h2
   have hh:=zbf h
   split
   ·simp only[wt] at h1
    exact (ziP hE hL h.s t (fun z hz=>h2 z (List.mem_cons_of_mem _ hz)) (by omega)).mono (by omega) (by omega)
   ·refine Good.bnd (zbN hE (h::t) h2 (by omega)) (fun r hr=>Good.ret (k:=0) ?_) (by omega)
    rw[zaK]
    omega
 ·exact Good.ret (by rw[zdM];omega)
theorem zfR:∀f:Nat,GE (min f 100000) (expr f)∧GL (min f 100000) (lam f)
 | 0=>⟨fun x _ h=>by have:=zbf x;omega,fun x b _ _ h=>by have:=zbf x;omega⟩
 | f+1=>by
  obtain ⟨hE,hL⟩:=zfR f
  refine ⟨fun x ht hx=>?_,fun x b htx htb hx=>?_⟩
  ·have hs:small x=true:=small_iff.2 ⟨tidy_shaped x ht,by omega⟩
   have:=ziq hE hL x ht (by omega)
   intro n hn
   unfold expr within
   simp only[hs,if_true]
   exact this n hn
  ·have hs:small x=true:=small_iff.2 ⟨tidy_shaped x htx,by omega⟩
   have hb:b.all small=true:=List.all_eq_true.2 fun y hy=>small_iff.2 ⟨tidy_shaped y (htb y hy),by have:=wt_mem hy;omega⟩
   have hl:decide (b.length<=100000)=true:=decide_eq_true (by have:=wt_len b;omega)
   have hge:=zbf x
   have:=(zgE hE hL x b htb (by omega)).mono (k:=Dat.all x+wt b) (by omega) qzL
   intro n hn
   unfold lam within
   simp only[hs,hb,hl,Bool.and_self,if_true]
   exact this n hn
end Sy
end
section
open Go Go.RowKit
def DoI (S:Nat->Prop) (_b:Nat) (_w WL:World) (H _n:Nat) (L:List Dat) (f:Dat) (g:Nat) (u14 u15 u16 iv:Value) (wr:World):Prop:=Hid (∃(i:Nat) (dn dv av:List Dat),iv=.int .i64 i∧g=L.length-i∧i<=L.length∧dn.length=i∧dv.length=i∧av.length=i∧Below WL.heap.size WL wr∧Trio wr (S1 S H) WL.heap.size dn dv (f::av) u14 u15 u16∧Sy.steps L=(Sy.steps (L.drop i)).map fun p=>(dn++p.1,dv++p.2.1,av++p.2.2))
def DrR (u2 u3 sl pa va pb vb:Value) (i:Nat) (v:Value):Prop:=match i with
 | 0=>v=u2
 | 1=>v=sl
 | 2=>v=pa
 | 3=>v=va
 | 6=>v=u3
 | 7=>v=sl
 | 8=>v=pb
 | 9=>v=vb
 | _=>True
theorem zgD (S:Nat->Prop) (b n:Nat) (x t:Dat) (xv tv:Value) (l:List Dat) (sl:Value) (w:World) (qx qt:Bool) (hqx:((Sy.split x).2.kind==4)=qx) (hqt:((Sy.split t).2.kind==4)=qt) (hno:(qx&&(qt && !(Sy.split t).1.isEmpty))=false) (hsx:Sy.small x=true) (hst0:Sy.small t=true) (hS:∀c,S c->c<w.heap.size) (hb:S b) (hx:XP w b n) (hV:Env w) (hxv:RepD (hide w S) w.heap.size x xv) (htv:RepD (hide w S) w.heap.size t tv) (hv:RepS (hide w S) w.heap.size l sl) :
  Calls prog 150 #[.pointer (some ⟨b,0,none⟩),xv,tv,sl] w (XRes S b none w):=by
 obtain ⟨k1,m1,d1,s1,o1,len1,cap1,rfl⟩:=zae hxv.unhide
 obtain ⟨k2,m2,d2,s2,o2,len2,cap2,rfl⟩:=zae htv.unhide
 obtain ⟨W0,hW0,hst,he1,he2⟩:=zkg hS hb hx hV hxv htv
 have HST:=zh hst
 have HW0:=zh hW0
 have HE1:=zh he1
 have HE2:=zh he2
 have HLV:=zh (hst.first (Sp.ofS hv))
 obtain ⟨ka,ma,da,sa,oa,lena,capa,hxr,q0,q1,q2,q3,q4,ql⟩:=Sp.cells he1
 obtain ⟨kb,mb,db,sb,ob,lenb,capb,htr,g0,g1,g2,g3,g4,gl⟩:=Sp.cells he2
 have HC1:=zh (fun q hq=>hst.items x _ q hq hxr (Sy.small_iff.1 hsx).1 (Sy.small_iff.1 hsx).2)
 have HSX:=zh hsx
 have HST0:=zh hst0
 have HNO:=zh hno
 clear hst he1 hW0 hS hb hx hV hxr hxv htv hv hsx hst0 hno
 go_enter func150,ntmps150
 go_upto_region 1 with fail
 rw[HW0.out]
 go_upto_region 2 with (first | (go_at_call 73;refine (HC1.out _ hqx).mono ?_;rintro e' w1 ⟨ol1,len1,cap1,rfl,hg1,hl1,hb1⟩;have HG1:=zh hg1;have HL1:=zh hl1;have HB1:=zh hb1;clear hg1 hl1 hb1) | fail)
 have HST1:=zh (HST.out.below HB1.out)
 have htr1:RepD (hide w1 (S1 S (w.heap.size+2))) w1.heap.size t _:=Sp.datum (Sp.below (Sp.ofD htr) HB1.out)
 have hgk:∀o u,W0.cell? ⟨w.heap.size+1,o,none⟩=some u->w1.cell? ⟨w.heap.size+1,o,none⟩=some u:=fun o u h=>(HB1.out.cell (p:=⟨w.heap.size+1,o,none⟩) (zai h)).trans h
 replace g0:=hgk _ _ g0
 replace g1:=hgk _ _ g1
 replace g2:=hgk _ _ g2
 replace g3:=hgk _ _ g3
 replace g4:=hgk _ _ g4
 have gl1:=zai g0
 have HC2:=zh (HST1.out.items t _ _ hqt htr1 (Sy.small_iff.1 HST0.out).1 (Sy.small_iff.1 HST0.out).2)
 clear htr htr1 hgk gl
 go_upto_region 3 with (first | (go_at_call 73;refine HC2.out.mono ?_;rintro e' w2 ⟨ol2,len2,cap2,rfl,hg2,hl2,hb2⟩;have HG2:=zh hg2;have HL2:=zh hl2;have HB2:=zh hb2;clear hg2 hl2 hb2) | fail)
 have jj:=zh (HST1.out.below HB2.out)
 clear g0 g1 g2 g3 g4 gl1 q0 q1 q2 q3 q4 ql
 cases qx
 ·go_wp2_with (first | (go_at_call 30;refine (zaf _).mono ?_;rintro e' wN ⟨rfl,rfl⟩) | fail)
  exact ⟨rfl,jj.out.bad⟩
 ·cases qt
  ·go_wp2_with (first | (go_at_call 30;refine (zaf _).mono ?_;rintro e' wN ⟨rfl,rfl⟩) | fail)
   exact ⟨rfl,jj.out.bad⟩
  ·have hz:len2=0:=by have h:=HNO.out;rw[HL2.out];simpa using h
   subst hz
   go_wp2_with (first | (go_at_call 30;refine (zaf _).mono ?_;rintro e' wN ⟨rfl,rfl⟩) | fail)
   exact ⟨rfl,jj.out.bad⟩
theorem Trio.old {S:Nat->Prop} {WL W:World} {lA lB lC:List Dat} {vA vB vC:Value} (h:Trio W S WL.heap.size lA lB lC vA vB vC) (hb:Below WL.heap.size WL W):Shown WL S W (SR (SR (SR S vC) vB) vA):=fun c o u hc hu=>by
 have hcl:=zai hu
 refine ⟨fun hs=>?_,(hb.cell (p:=⟨c,o,none⟩) hcl).trans hu⟩
 rcases hs with ((hs | hs) | hs) | hs
 ·exact hc hs
 ·have:=(h.2.block hs).1;omega
 ·have:=(h.1.2.block hs).1;omega
 ·have:=(h.1.1.block hs).1;omega
theorem zk9 {E:Dat->Sy.M Dat} (hE:EOk E) (S:Nat->Prop) (b n:Nat) (x t:Dat) (xv tv:Value) (l:List Dat) (sl:Value) (w:World) (hqx:((Sy.split x).2.kind==4)=true) (hqt:((Sy.split t).2.kind==4)=true) (e0:Dat) (es:List Dat) (he0:(Sy.split t).1=e0::es) (hll:l.length<=99999) (r:Option (Dat × Nat)) (hr:Sy.bnd Sy.fresh (fun f=>match Sy.steps (Sy.split x).1 with | none=>Sy.bad | some (names,values,again)=>Sy.need (Sy.distinct names) (Sy.bnd (E e0) fun test=>Sy.bnd (if es.isEmpty then Sy.ret Sy.void else Sy.begin E es) fun out=>Sy.bnd (Sy.begin E (l++[Dat.list (f::again)])) fun go=>Sy.loopF E f (Sy.form Sy.lambdaB [Dat.list names,Sy.form Sy.ifB [test,out,go]]) values)) n=some r) (hsx:Sy.small x=true) (hst0:Sy.small t=true) (hS:∀c,S c->c<w.heap.size) (hb:S b) (hx:XP w b n) (hV:Env w) (hxv:RepD (hide w S) w.heap.size x xv) (htv:RepD (hide w S) w.heap.size t tv) (hv:RepS (hide w S) w.heap.size l sl) :
  Calls prog 150 #[.pointer (some ⟨b,0,none⟩),xv,tv,sl] w (XRes S b r w):=by
 obtain ⟨k1,m1,d1,s1,o1,len1,cap1,rfl⟩:=zae hxv.unhide
 obtain ⟨k2,m2,d2,s2,o2,len2,cap2,rfl⟩:=zae htv.unhide
 obtain ⟨W0,hW0,hst,he1,he2⟩:=zkg hS hb hx hV hxv htv
 have HST:=zh hst
 have HW0:=zh hW0
 have HE1:=zh he1
 have HE2:=zh he2
 have HLV:=zh (hst.first (Sp.ofS hv))
 obtain ⟨ka,ma,da,sa,oa,lena,capa,hxr,q0,q1,q2,q3,q4,ql⟩:=Sp.cells he1
 obtain ⟨kb,mb,db,sb,ob,lenb,capb,htr,g0,g1,g2,g3,g4,gl⟩:=Sp.cells he2
 have HC1:=zh (fun q hq=>hst.items x _ q hq hxr (Sy.small_iff.1 hsx).1 (Sy.small_iff.1 hsx).2)
 have HSX:=zh hsx
 have HST0:=zh hst0
 have HE:=zh hE
 have HBW:=zh (hS b hb)
 have HV0e:=zh hV
 have HX0e:=zh hx
 have HR:=zh hr
 have HLL:=zh hll
 clear hst he1 hW0 hS hb hx hV hxr hxv htv hv hsx hst0 hE hr hll
 go_enter func150,ntmps150
 go_upto_region 1 with fail
 rw[HW0.out]
 go_upto_region 2 with (first | (go_at_call 73;refine (HC1.out _ hqx).mono ?_;rintro e' w1 ⟨ol1,len1,cap1,rfl,hg1,hl1,hb1⟩;have HG1:=zh hg1;have HL1:=zh hl1;have HB1:=zh hb1;clear hg1 hl1 hb1) | fail)
 have HST1:=zh (HST.out.below HB1.out)
 have htr1:RepD (hide w1 (S1 S (w.heap.size+2))) w1.heap.size t _:=Sp.datum (Sp.below (Sp.ofD htr) HB1.out)
 have hgk:∀o u,W0.cell? ⟨w.heap.size+1,o,none⟩=some u->w1.cell? ⟨w.heap.size+1,o,none⟩=some u:=fun o u h=>(HB1.out.cell (p:=⟨w.heap.size+1,o,none⟩) (zai h)).trans h
 replace g0:=hgk _ _ g0
 replace g1:=hgk _ _ g1
 replace g2:=hgk _ _ g2
 replace g3:=hgk _ _ g3
 replace g4:=hgk _ _ g4
 have gl1:=zai g0
 have HC2:=zh (HST1.out.items t _ _ hqt htr1 (Sy.small_iff.1 HST0.out).1 (Sy.small_iff.1 HST0.out).2)
 clear htr htr1 hgk gl
 go_upto_region 3 with (first | (go_at_call 73;refine HC2.out.mono ?_;rintro e' w2 ⟨ol2,len2,cap2,rfl,hg2,hl2,hb2⟩;have HG2:=zh hg2;have HL2:=zh hl2;have HB2:=zh hb2;clear hg2 hl2 hb2) | fail)
 have jj:=zh (HST1.out.below HB2.out)
 clear g0 g1 g2 g3 g4 gl1 q0 q1 q2 q3 q4 ql
 have HG2e:=zh (show (Sp.row (some (e0::es))).holds (S1 S (w.heap.size+2)) (.slice ol2 len2 cap2) w2 from by rw[<-he0];exact HG2.out)
 have HG1b:=zh (Sp.below HG1.out HB2.out)
 have HLV2:=zh (Sp.below (Sp.below HLV.out HB1.out) HB2.out)
 have hle2:0<len2:=by rw[HL2.out,he0];simp
 have hle2b:decide ((len2:Int) > 0)=true:=by simp;omega
 obtain ⟨hfn,hr2⟩:=Sy.fresh_split HR.out
 have HFN:=zh hfn
 have HR2:=zh hr2
 have HLE2:=zh (show len2=es.length+1 from by rw[HL2.out,he0];rfl)
 clear hfn hr2
 go_upto_region 4 with (first | (go_at_call 30;refine (zah _).mono ?_;rintro e' wN ⟨⟨vN,rfl⟩,rfl⟩) | fail)
 have HFR:=zh (zbP (S1 S (w.heap.size+2)) b n _ jj.out.lt (.inl jj.out.own) jj.out.hx jj.out.hE HFN.out)
 go_upto_region 5 with (first | (go_at_call 147;refine HFR.out.mono ?_;rintro e' w5 ⟨v5,rfl,hr5,ht5,hx5⟩;obtain ⟨k9,m9,d9,s9,o9,len9,cap9,rfl⟩:=zae hr5.unhide) | fail)
 obtain ⟨WL,hWL⟩:∃WL,w5.alloc (.cells #[.int .i64 k9,.int .i64 m9,.int .i64 d9,.string s9,.slice o9 len9 cap9] 26)=WL:=⟨_,rfl⟩
 obtain ⟨hstL,helL,htL⟩:=jj.out.stored ht5 hx5 hr5 hWL
 rw[hWL]
 have hbxL:Box5 WL w5.heap.size 26 (.int .i64 k9) (.int .i64 m9) (.int .i64 d9) (.string s9) (.slice o9 len9 cap9):=by rw[<-hWL];exact Box5.new _ _ _ _ _ _ _
 have hrL:RepD (hide WL (S1 S (w.heap.size+2))) WL.heap.size (Sy.freshD (n+1)) (.agg #[.int .i64 k9,.int .i64 m9,.int .i64 d9,.string s9,.slice o9 len9 cap9]):=by rw[<-hWL];exact hr5.shown (Shown.below (Below.one _ _)) (Below.one _ _).size
 have HSTL:=zh hstL
 have HELL:=zh helL
 have HG1L:=zh (jj.out.keep HG1b.out htL)
 have HG2L:=zh (jj.out.keep HG2e.out htL)
 have HLVL:=zh (jj.out.keep HLV2.out htL)
 have HRL:=zh hrL
 obtain ⟨q0,q1,q2,q3,q4⟩:=hbxL.cells
 have ql:=hbxL.lt
 clear hstL helL htL ht5 hx5 hr5 hWL hbxL hrL hle2 hle2b
 go_upto_region 7 with fail
 obtain ⟨W8,hW8⟩:∃W8,WL.alloc (.cells #[.int .i64 k9,.int .i64 m9,.int .i64 d9,.string s9,.slice o9 len9 cap9] 26)=W8:=⟨_,rfl⟩
 rw[hW8]
 have je:Below WL.heap.size WL W8:=by rw[<-hW8];exact Below.one _ _
 have hz8:W8.heap.size=WL.heap.size+1:=by rw[<-hW8];simp
 have hag:GrownS W8 (S1 S (w.heap.size+2)) WL.heap.size [Sy.freshD (n+1)] (.slice (some ⟨WL.heap.size,0,none⟩) 1 1):=by rw[<-hW8];exact GrownS.one HSTL.out.lt HRL.out
 have jd:∀c,(S1 S (w.heap.size+2)) c->c<W8.heap.size:=fun c hc=>qzM (HSTL.out.lt c hc) je.size
 have hno:∀g,¬(Value.slice none 0 0).ownBlock=some g:=fun g h=>by simp[Value.ownBlock] at h
 have htr8:Trio W8 (S1 S (w.heap.size+2)) WL.heap.size [] [] [Sy.freshD (n+1)] (.slice none 0 0) (.slice none 0 0) (.slice (some ⟨WL.heap.size,0,none⟩) 1 1):=by
  refine ⟨⟨GrownS.nil _ ?_ je.size,GrownS.nil _ ?_ je.size⟩,hag.rehide qzL ?_ ?_ (fun _ _=>rfl) (Shown.less W8 ?_)⟩
  ·rintro c ((hc | hc) | hc)
   ·exact jd c hc
   ·exact (hag.block hc).2
   ·exact (hno c hc).elim
  ·rintro c ((hc | hc) | hc)
   ·exact jd c hc
   ·exact (hag.block hc).2
   ·exact (hno c hc).elim
  ·rintro c ((hc | hc) | hc)
   ·exact jd c hc
   ·exact (hno c hc).elim
   ·exact (hno c hc).elim
  ·rintro g hg ((hc | hc) | hc)
   ·exact hag.apart g hg hc
   ·exact hno g hc
   ·exact hno g hc
  ·rintro c _ (((hc | hc) | hc) | hc)
   ·exact .inl hc
   ·exact (hno c hc).elim
   ·exact (hno c hc).elim
   ·exact .inr hc
 have HI0:=zh (show DoI S b w WL (w.heap.size+2) n (Sy.split x).1 (Sy.freshD (n+1)) (Sy.split x).1.length (.slice none 0 0) (.slice none 0 0) (.slice (some ⟨WL.heap.size,0,none⟩) 1 1) (.int .i64 0) W8 from
  zh ⟨0,[],[],[],rfl,by simp,Nat.zero_le _,rfl,rfl,rfl,je,htr8,by simp⟩)
 clear je hz8 hag jd hno htr8 hW8 q0 q1 q2 q3 q4 ql
 go_upto_region 8 with fail
 go_loopg [14,15,16,50] (Sy.split x).1.length (fun g u14 u15 u16 iv wr=>DoI S b w WL (w.heap.size+2) n (Sy.split x).1 (Sy.freshD (n+1)) g u14 u15 u16 iv wr)
 case atStart=>exact HI0.out
 case round=>
  obtain ⟨i,dn,dv,av,rfl,rfl,hi,hdn,hdv,hav,hbl,htr,hst5⟩:=hrel.out
  clear hrel HI0
  have HBL:=zh hbl
  have HTR:=zh htr
  have HSTP:=zh hst5
  have HDN:=zh hdn
  have HDV:=zh hdv
  have HAV:=zh hav
  have HI:=zh hi
  have HSTr:=zh (HSTL.out.below hbl)
  have HOLD:=zh (htr.old hbl)
  have HALL:=zh (show (Sy.split x).1.length+1<=100000 from Nat.le_trans (zaY x) (Sy.small_iff.1 HSX.out).2)
  clear hi hdn hdv hav hbl htr hst5
  have hlb:len1<=100000:=by rw[HL1.out];have:=HALL.out;omega
  by_cases hlt:i<len1
  ·obtain ⟨y,hy⟩:∃y,(Sy.split x).1[i]?=some y:=⟨_,List.getElem?_eq_getElem (by rw[<-HL1.out];exact hlt)⟩
   have HY:=zh hy
   have HLI:=zh (show i<(Sy.split x).1.length from by rw[<-HL1.out];exact hlt)
   have hrow:(Sp.row (some (Sy.split x).1)).holds (SR (SR (SR (S1 S (w.heap.size+2)) u16) u15) u14) (.slice ol1 len1 cap1) wr:=Sp.shown HG1L.out HOLD.out HBL.out.size
   obtain ⟨c1,off1,rfl,hel⟩:=Sp.nth hrow hy
   obtain ⟨k3,m3,d3,s3,o3,len3,cap3,hxr,e0c,e1,e2,e3,e4,el⟩:=Sp.cells hel
   obtain ⟨W1,hW1⟩:∃W1,wr.alloc (.cells #[.int .i64 k3,.int .i64 m3,.int .i64 d3,.string s3,.slice o3 len3 cap3] 26)=W1:=⟨_,rfl⟩
   have hbw:Below wr.heap.size wr W1:=by rw[<-hW1];exact Below.one _ _
   have hbb:Box5 W1 wr.heap.size 26 (.int .i64 k3) (.int .i64 m3) (.int .i64 d3) (.string s3) (.slice o3 len3 cap3):=by rw[<-hW1];exact Box5.new _ _ _ _ _ _ _
   have hz1:W1.heap.size=wr.heap.size+1:=by rw[<-hW1];simp
   obtain ⟨q2,hq2⟩:∃q2,((Sy.split y).2.kind==4)=q2:=⟨_,rfl⟩
   have hys:=Sy.split_small HSX.out y (List.mem_of_getElem? hy)
   have HIT:=zh (sitemsG (SR (SR (SR (S1 S (w.heap.size+2)) u16) u15) u14) y _ W1.heap.size W1 q2 hq2 (fun c hc=>qzM (HTR.out.lt c hc) hbw.size) (hxr.shown (Shown.below hbw) hbw.size) qzL (Sy.small_iff.1 hys).1 (Sy.small_iff.1 hys).2)
   have HW1:=zh hW1
   have HBW1:=zh hbw
   have HZ1:=zh hz1
   have HQ2:=zh hq2
   clear hrow hel hxr hW1 hbw hz1 hq2 hys hy
   go_upto_region 10 with fail
   rw[HW1.out]
   obtain ⟨b0,b1,b2,b3,b4⟩:=hbb.cells
   have bl:=hbb.lt
   clear hbb e0c e1 e2 e3 e4 el
   go_upto_region 11 with (first | (go_at_call 73;refine HIT.out.mono ?_;rintro e' w7 ⟨o7,len7,cap7,rfl,hg7,hl7,hb7⟩;have HG7:=zh hg7;have HL7:=zh hl7;have HB7:=zh hb7;clear hg7 hl7 hb7) | fail)
   clear b0 b1 b2 b3 b4 bl
   have HBwr:=zh (HBW1.out.trans (HB7.out.mono HBW1.out.size))
   have HDROP:=zh (Sy.steps_drop HY.out)
   by_cases hok:q2=true∧(len7=2∨len7=3)
   ·obtain ⟨rfl,hl23⟩:=hok
    rcases hl23 with rfl | rfl
    ·obtain ⟨a,c,hab⟩:∃a c,(Sy.split y).1=[a,c]:=by
      match h:(Sy.split y).1,(show (Sy.split y).1.length=2 from HL7.out.symm) with
      | [a,c],_=>exact ⟨a,c,rfl⟩
     have HGP:=zh (show GrownS w7 (SR (SR (SR (S1 S (w.heap.size+2)) u16) u15) u14) W1.heap.size [a,c] (.slice o7 2 cap7) from by rw[<-hab];exact HG7.out)
     have HAB:=zh hab
     clear hab
     obtain ⟨ga,ka,na,da5,sa5,oa5,lna,cpa,rfl,x0,x1,x2,x3,x4,hra⟩:=HGP.out.elem (j:=0) rfl
     obtain ⟨gb,kb5,nb5,db5,sb5,ob5,lnb,cpb,hgb,y0,y1,y2,y3,y4,hrb⟩:=HGP.out.elem (j:=1) rfl
     simp only[Option.some.injEq,Addr.mk.injEq,and_true] at hgb
     subst hgb
     simp only[Nat.zero_mul,Nat.zero_add,Nat.one_mul,Nat.reduceAdd] at x0 x1 x2 x3 x4 y0 y1 y2 y3 y4
     have HXa:=zh (And.intro x0 (And.intro x1 (And.intro x2 (And.intro x3 x4))))
     have HYb:=zh (And.intro y0 (And.intro y1 (And.intro y2 (And.intro y3 y4))))
     have HRA:=zh (show RepD (hide w7 (SR (SR (SR (SR (S1 S (w.heap.size+2)) u16) u15) u14) (.slice (some ⟨ga,0,none⟩) 2 cap7))) w7.heap.size a (.agg #[.int .i64 ka,.int .i64 na,.int .i64 da5,.string sa5,.slice oa5 lna cpa]) from hra)
     have HRB:=zh (show RepD (hide w7 (SR (SR (SR (SR (S1 S (w.heap.size+2)) u16) u15) u14) (.slice (some ⟨ga,0,none⟩) 2 cap7))) w7.heap.size c (.agg #[.int .i64 kb5,.int .i64 nb5,.int .i64 db5,.string sb5,.slice ob5 lnb cpb]) from hrb)
     have HGA:=zh (show W1.heap.size<=ga∧ga<w7.heap.size from HGP.out.block rfl)
     have HNG:=zh (show ¬(SR (SR (SR (S1 S (w.heap.size+2)) u16) u15) u14) ga from HGP.out.apart ga rfl)
     have HT7:=zh (show Trio w7 (SR (S1 S (w.heap.size+2)) (.slice (some ⟨ga,0,none⟩) 2 cap7)) WL.heap.size dn dv (Sy.freshD (n+1)::av) u14 u15 u16 from HTR.out.more HBwr.out (fun c hc=>.inl hc) (fun c hc=>hc.imp id fun hg=>by simp only[Value.ownBlock,Option.some.injEq] at hg;have:=HGA.out.1;have:=HZ1.out;omega) (fun c hc=>hc.elim (fun hc=>qzM (HSTr.out.lt c hc) HBwr.out.size) fun hg=>by simp only[Value.ownBlock,Option.some.injEq] at hg;have:=HGA.out.2;omega))
     clear x0 x1 x2 x3 x4 y0 y1 y2 y3 y4 hra hrb
     obtain ⟨x0,x1,x2,x3,x4⟩:=HXa.out
     obtain ⟨y0,y1,y2,y3,y4⟩:=HYb.out
     have xl:=zai x0
     go_upto_region 12 with (first | (go_at_call 30;refine (zah _).mono ?_;rintro e' wN ⟨⟨vN,rfl⟩,rfl⟩) | fail)
     have HD5:=zh ((Below.refl wN.heap.size wN).drew)
     have HNE:=zh (show ¬(u14.ownBlock=some ga∨u15.ownBlock=some ga) from fun h=>HNG.out (h.elim .inr fun h=>.inl (.inr h)))
     have HCA:=zh (show ∀w1,Turned (fun c=>u14.ownBlock=some c∨u15.ownBlock=some c) wN.drew w1->∀i u,wN.cell? ⟨ga,i,none⟩=some u->w1.cell? ⟨ga,i,none⟩=some u from fun w1 h i u hu=>(Shown.turned (S:=fun c=>u14.ownBlock=some c∨u15.ownBlock=some c) h (fun _ _ h=>h) ga i u HNE.out hu).2)
     have hTW:Twin wN.drew (SR (SR (S1 S (w.heap.size+2)) (.slice (some ⟨ga,0,none⟩) 2 cap7)) u16) WL.heap.size dn dv u14 u15:=⟨HT7.out.1.1.below HD5.out,HT7.out.1.2.below HD5.out⟩
     have hXA:RepD (hide wN.drew (SR (SR (SR (SR (S1 S (w.heap.size+2)) (.slice (some ⟨ga,0,none⟩) 2 cap7)) u16) u15) u14)) wN.drew.heap.size a (.agg #[.int .i64 ka,.int .i64 na,.int .i64 da5,.string sa5,.slice oa5 lna cpa]):=HRA.out.shown ((Shown.less wN (S':=SR (SR (SR (SR (S1 S (w.heap.size+2)) (.slice (some ⟨ga,0,none⟩) 2 cap7)) u16) u15) u14) fun c _ hc=>by rcases hc with (((hc | hc) | hc) | hc) | hc<;>first | exact .inl (.inl (.inl (.inl hc))) | exact .inr hc | exact .inl (.inl (.inl (.inr hc))) | exact .inl (.inl (.inr hc)) | exact .inl (.inr hc)).trans (Shown.below HD5.out)) qzL
     have hXB:RepD (hide wN.drew (SR (SR (SR (SR (S1 S (w.heap.size+2)) (.slice (some ⟨ga,0,none⟩) 2 cap7)) u16) u14) u15)) wN.drew.heap.size c (.agg #[.int .i64 kb5,.int .i64 nb5,.int .i64 db5,.string sb5,.slice ob5 lnb cpb]):=HRB.out.shown ((Shown.less wN (S':=SR (SR (SR (SR (S1 S (w.heap.size+2)) (.slice (some ⟨ga,0,none⟩) 2 cap7)) u16) u14) u15) fun c _ hc=>by rcases hc with (((hc | hc) | hc) | hc) | hc<;>first | exact .inl (.inl (.inl (.inl hc))) | exact .inr hc | exact .inl (.inl (.inl (.inr hc))) | exact .inl (.inr hc) | exact .inl (.inl (.inr hc))).trans (Shown.below HD5.out)) qzL
     refine zbB 12 4 5 10 11 _ _ _ _ 75 76 81 82 [] (DrR u14 u15 (.slice (some ⟨ga,0,none⟩) 2 cap7) (.pointer (some ⟨ga,0,none⟩)) (.agg #[.int .i64 ka,.int .i64 na,.int .i64 da5,.string sa5,.slice oa5 lna cpa]) (.pointer (some ⟨ga,5,none⟩)) (.agg #[.int .i64 kb5,.int .i64 nb5,.int .i64 db5,.string sb5,.slice ob5 lnb cpb])) (by kernel_rfl) (by show monoB _ 12 137=true;kernel_rfl) ⟨rfl,rfl,by omega⟩ ⟨rfl,rfl,by omega⟩ ⟨rfl,rfl,by omega⟩ ⟨rfl,rfl,by omega⟩ (by decide) ?hdA ?hdB hTW hXA hXB (fun _ h=>by simp at h) (fun _ h=>by simp at h) (fun _ h=>by simp at h) ?hops ?hmA ?hmB ?hgA ?hgB ?hend
     case hdA=>exact zbi 4 (by kernel_rfl)
     case hdB=>exact zbi 10 (by kernel_rfl)
     case hops=>
      intro i8 o8 hi hsp _ ho x8 w8 hdf hsz hT jb ja _
      match i8,hi,hsp with
      | 0,_,_=>
       cases ho
       have h14:x8.tmps.getD 14 undef=u14:=ja.at 14 (by kernel_rfl)
       exact zak (v:=u14) rfl (by go_simp) rfl
      | 1,_,_=>
       cases ho
       have h19:x8.tmps.getD 19 undef=(.slice (some ⟨ga,0,none⟩) 2 cap7):=ja.at 19 (by kernel_rfl)
       exact zak (v:=(.slice (some ⟨ga,0,none⟩) 2 cap7)) rfl (by go_simp) rfl
      | 2,_,_=>
       cases ho
       have h72:x8.tmps.getD 72 undef=(.slice (some ⟨ga,0,none⟩) 2 cap7):=zaH jb 1 72 (by kernel_rfl) (by decide)
       exact zak (v:=.pointer (some ⟨ga,0,none⟩)) rfl (by go_simp) rfl
      | 3,_,_=>
       cases ho
       have h73:x8.tmps.getD 73 undef=.pointer (some ⟨ga,0,none⟩):=zaH jb 2 73 (by kernel_rfl) (by decide)
       have z0:=HCA.out w8 hT _ _ HXa.out.1
       have z1:=HCA.out w8 hT _ _ HXa.out.2.1
       have z2:=HCA.out w8 hT _ _ HXa.out.2.2.1
       have z3:=HCA.out w8 hT _ _ HXa.out.2.2.2.1
       have z4:=HCA.out w8 hT _ _ HXa.out.2.2.2.2
       have zl:=zai z0
       exact zak (v:=(.agg #[.int .i64 ka,.int .i64 na,.int .i64 da5,.string sa5,.slice oa5 lna cpa])) rfl (by go_simp) rfl
      | 4,_,h | 5,_,h | 10,_,h | 11,_,h=>exact absurd (by decide) h
      | 6,_,_=>
       cases ho
       have h15:x8.tmps.getD 15 undef=u15:=ja.at 15 (by kernel_rfl)
       exact zak (v:=u15) rfl (by go_simp) rfl
      | 7,_,_=>
       cases ho
       have h19:x8.tmps.getD 19 undef=(.slice (some ⟨ga,0,none⟩) 2 cap7):=ja.at 19 (by kernel_rfl)
       exact zak (v:=(.slice (some ⟨ga,0,none⟩) 2 cap7)) rfl (by go_simp) rfl
      | 8,_,_=>
       cases ho
       have h78:x8.tmps.getD 78 undef=(.slice (some ⟨ga,0,none⟩) 2 cap7):=zaH jb 7 78 (by kernel_rfl) (by decide)
       exact zak (v:=.pointer (some ⟨ga,5,none⟩)) rfl (by go_simp) rfl
      | 9,_,_=>
       cases ho
       have h79:x8.tmps.getD 79 undef=.pointer (some ⟨ga,5,none⟩):=zaH jb 8 79 (by kernel_rfl) (by decide)
       have z0:=HCA.out w8 hT _ _ HYb.out.1
       have z1:=HCA.out w8 hT _ _ HYb.out.2.1
       have z2:=HCA.out w8 hT _ _ HYb.out.2.2.1
       have z3:=HCA.out w8 hT _ _ HYb.out.2.2.2.1
       have z4:=HCA.out w8 hT _ _ HYb.out.2.2.2.2
       have zl:=zai z0
       exact zak (v:=(.agg #[.int .i64 kb5,.int .i64 nb5,.int .i64 db5,.string sb5,.slice ob5 lnb cpb])) rfl (by go_simp) rfl
     case hmA=>
      intro x8 w8 _ _ jb _
      exact zbj rfl rfl (zaH jb 3 74 (by kernel_rfl) (by decide))
     case hmB=>
      intro x8 w8 _ _ jb _
      exact zbj rfl rfl (zaH jb 9 80 (by kernel_rfl) (by decide))
     case hgA=>
      intro x8 w8 T8 _ _ jb _ hg hk
      exact za1 rfl rfl (zaH jb 0 71 (by kernel_rfl) (by decide)) hg hk (by have:=HDN.out;have:=HLI.out;have:=HALL.out;simp only[List.length_singleton];omega)
     case hgB=>
      intro x8 w8 T8 _ _ jb _ hg hk
      exact za1 rfl rfl (zaH jb 6 77 (by kernel_rfl) (by decide)) hg hk (by have:=HDV.out;have:=HLI.out;have:=HALL.out;simp only[List.length_singleton];omega)
     case hend=>
      intro x8 w9 hdf hsz hT ja htw hval _ hshw
      obtain ⟨f8,ha,hf8⟩:=zaq [false,false,false,false,false,false,false,false,false,false,false,false,false,false,false,false,false,false,false,false,false,false,false,false,false,false,false,false,false,false,false,false,false,false,false,false,false,false,false,false,false,false,false,false,false,false,false,false,false,false,false,false,false,false,false,false,false,false,false,false,false,false,false,false,false,false,false,false,false,false,false,true,true,true,true,true,true,true,true,true,true,true,true] (by kernel_rfl) hdf hsz ja
      rw[<-hf8,<-hf8] at htw hshw
      subst ha
      obtain ⟨v14,hv14⟩:∃v14,f8 76=v14:=⟨_,rfl⟩
      obtain ⟨v15,hv15⟩:∃v15,f8 82=v15:=⟨_,rfl⟩
      rw[hv14,hv15] at htw hshw
      have HT9:=zh (show Trio w9 (SR (S1 S (w.heap.size+2)) (.slice (some ⟨ga,0,none⟩) 2 cap7)) WL.heap.size (dn++[a]) (dv++[c]) (Sy.freshD (n+1)::av) v14 v15 u16 from (HT7.out.turned (T:=fun _=>False) (Turned.of_below HD5.out) (fun _ _ h=>h.elim)).twin htw hT hshw)
      have HTt:=zh hT
      have HP9:=zh (show GrownS w9 (SR (SR (SR (S1 S (w.heap.size+2)) u16) v15) v14) W1.heap.size [a,c] (.slice (some ⟨ga,0,none⟩) 2 cap7) from by
       have hsz9:wN.heap.size<=w9.heap.size:=hT.size
       refine HGP.out.rehide hsz9 (fun c hc=>?_) (fun g hg hc=>?_) (fun g hg=>?_) ?_
       ·exact HT9.out.lt c (by rcases hc with ((hc | hc) | hc) | hc<;>first | exact .inl (.inl (.inl (.inl hc))) | exact .inl (.inl (.inr hc)) | exact .inl (.inr hc) | exact .inr hc)
       ·rcases hc with ((hc | hc) | hc) | hc
        ·exact HGP.out.apart g hg (.inl (.inl (.inl hc)))
        ·exact HGP.out.apart g hg (.inl (.inl (.inr hc)))
        ·exact HT9.out.1.2.apart g hc (.inl (.inl (.inr hg)))
        ·exact HT9.out.1.1.apart g hc (.inl (.inl (.inr hg)))
       ·simp only[Value.ownBlock,Option.some.injEq] at hg
        subst hg
        exact hT.block ga (qzM HGA.out.2 HD5.out.size) HNE.out
       ·refine (((Shown.less wN (S':=SR (SR (SR (SR (S1 S (w.heap.size+2)) (.slice (some ⟨ga,0,none⟩) 2 cap7)) u16) u15) u14) fun c _ hc=>?_).trans (Shown.below HD5.out)).trans hshw).trans (Shown.less w9 fun c _ hc=>?_)
        ·rcases hc with (((hc | hc) | hc) | hc) | hc
         ·exact .inl (.inl (.inl (.inl hc)))
         ·exact .inr hc
         ·exact .inl (.inl (.inl (.inr hc)))
         ·exact .inl (.inl (.inr hc))
         ·exact .inl (.inr hc)
        ·rcases hc with (((hc | hc) | hc) | hc) | hc
         ·exact .inl (.inl (.inl (.inl hc)))
         ·exact .inl (.inl (.inr hc))
         ·exact .inl (.inr hc)
         ·exact .inr hc
         ·exact .inl (.inl (.inl (.inr hc))))
      have HBL9:=zh (show Below WL.heap.size WL w9 from HBL.out.trans ((HBwr.out.mono HBL.out.size).trans ((HD5.out.mono (Nat.le_trans HBL.out.size HBwr.out.size)).trans (Turned.below hT (fun c hc=>hc.elim (fun h=>(HTR.out.1.1.block h).1) fun h=>(HTR.out.1.2.block h).1) (Nat.le_trans HBL.out.size HBwr.out.size)))))
      clear htw hshw hT hdf hsz ja hf8 hTW hXA hXB HCA hval x0 x1 x2 x3 x4 y0 y1 y2 y3 y4 xl
      simp only[spellH,List.drop_succ_cons,List.drop_zero,hv14,hv15]
      clear hv14 hv15
      have HSN:=zh (show Sy.steps (Sy.split x).1=(Sy.steps ((Sy.split x).1.drop (i+1))).map fun p=>((dn++[a])++p.1,(dv++[c])++p.2.1,(av++[a])++p.2.2) from by
       rw[HSTP.out,HDROP.out,Sy.steps_two HQ2.out HAB.out,Option.map_map]
       simp[Function.comp_def])
      obtain ⟨gz,kz,nz,dz,sz,oz,lnz,cpz,hgz,x0,x1,x2,x3,x4,hrz⟩:=HP9.out.elem (j:=0) rfl
      simp only[Option.some.injEq,Addr.mk.injEq,and_true] at hgz
      subst hgz
      simp only[Nat.zero_mul,Nat.zero_add] at x0 x1 x2 x3 x4
      have xl:=zai x0
      have je:Below w9.heap.size w9 (w9.alloc (.cells #[.int .i64 kz,.int .i64 nz,.int .i64 dz,.string sz,.slice oz lnz cpz] 26)):=Below.one _ _
      have HGp:=zh (HP9.out.below je)
      have HKp:=zh (zax (S:=SR (SR (SR (SR (S1 S (w.heap.size+2)) u16) v15) v14) (.slice (some ⟨ga,0,none⟩) 2 cap7)) (fun c hc=>hc.elim (fun hc=>HP9.out.1 c hc) fun hc=>(HP9.out.block hc).2) hrz)
      have HT9a:=zh (HT9.out.turned (T:=fun _=>False) (Turned.of_below je) (fun _ _ h=>h.elim))
      have HO9:=zh je
      clear je hrz
      go_upto_region 15 with (first | (at_builtin;go_loud (refine zaj rfl fun K hK=>zav (S:=(SR (SR (SR (S1 S (w.heap.size+2)) u16) v15) v14)) (.tmp 86) (.tmp 90) rfl W1.heap.size (.slice (some ⟨ga,0,none⟩) 2 cap7) (.slice (some ⟨w9.heap.size,0,none⟩) 1 1) [a,c] [a] rfl HGp rfl HKp (by simp) fun o9 len9 cap9 w10 h9 h10 h11 h12=>hK _ _ ?_)) | fail)
      have HT10:=zh ((HT9a.out.turned h11.out (fun c _ hc=>.inr hc)).less (S':=(S1 S (w.heap.size+2))) (fun c hc=>.inl hc))
      obtain rfl:len9=3:=by
       obtain ⟨_,_,_,hq,_,hq2⟩:=GrownS.form h9.out
       cases hq
       exact hq2
      have HP10:=zh h9.out
      have HBL10:=zh (show Below WL.heap.size WL w10 from HBL9.out.trans ((HO9.out.mono HBL9.out.size).trans (h10.out.mono (by have:=HBL.out.size;have:=HZ1.out;omega))))
      clear h9 h10 h11 h12 HGp HKp HT9a x0 x1 x2 x3 x4 xl
      obtain ⟨ge,ke,ne5,de5,se5,oe5,lne,cpe,hge,x0,x1,x2,x3,x4,hrz⟩:=HP10.out.elem (j:=2) rfl
      subst hge
      simp only[Nat.reduceMul,Nat.reduceAdd] at x0 x1 x2 x3 x4
      have xl:=zai x0
      have je:Below w10.heap.size w10 (w10.alloc (.cells #[.int .i64 ke,.int .i64 ne5,.int .i64 de5,.string se5,.slice oe5 lne cpe] 26)):=Below.one _ _
      have HTa:=zh (HT10.out.turned (T:=fun _=>False) (Turned.of_below je) (fun _ _ h=>h.elim))
      have HGq:=zh HTa.out.2
      have HKq:=zh (zax (S:=SR (SR (SR (S1 S (w.heap.size+2)) v15) v14) u16) (fun c hc=>HT10.out.lt c (by rcases hc with ((hc | hc) | hc) | hc<;>first | exact .inl (.inl (.inl hc)) | exact .inl (.inr hc) | exact .inr hc | exact .inl (.inl (.inr hc)))) (hrz.shown (Shown.less w10 fun c _ hc=>by rcases hc with ((hc | hc) | hc) | hc<;>first | exact .inl (.inl (.inl (.inl hc))) | exact .inl (.inl (.inr hc)) | exact .inl (.inr hc) | exact .inl (.inl (.inl (.inr hc)))) qzL))
      have HOz:=zh je
      clear je hrz
      go_upto_region 16 with (first | (at_builtin;go_loud (refine zaj rfl fun K hK=>zav (S:=SR (SR (S1 S (w.heap.size+2)) v15) v14) (.tmp 92) (.tmp 96) rfl WL.heap.size u16 (.slice (some ⟨w10.heap.size,0,none⟩) 1 1) (Sy.freshD (n+1)::av) [a] rfl HGq rfl HKq (by have:=HAV.out;have:=HLI.out;have:=HALL.out;simp only[qzN,qzO];omega) fun o9q len9q cap9q w11 h9 h10 h11 h12=>hK _ _ ?_)) | fail)
      have HT11:=zh (HTa.out.third h9.out h11.out h12.out)
      have HBL11:=zh (show Below WL.heap.size WL w11 from HBL10.out.trans ((HOz.out.mono HBL10.out.size).trans h10.out))
      clear h9 h10 h11 h12 HGq HKq HTa x0 x1 x2 x3 x4 xl
      go_wp2_with fail
      go_roundg ((Sy.split x).1.length-(i+1))
      case measure=>have:=HLI.out;omega
      case rel=>
       exact zh ⟨i+1,dn++[a],dv++[c],av++[a],by go_num,rfl,by have:=HLI.out;omega,by simp[HDN.out],by simp[HDV.out],by simp[HAV.out],HBL11.out,HT11.out,HSN.out⟩
    ·obtain ⟨a,c,e,hab⟩:∃a c e,(Sy.split y).1=[a,c,e]:=by
      match h:(Sy.split y).1,(show (Sy.split y).1.length=3 from HL7.out.symm) with
      | [a,c,e],_=>exact ⟨a,c,e,rfl⟩
     have HGP:=zh (show GrownS w7 (SR (SR (SR (S1 S (w.heap.size+2)) u16) u15) u14) W1.heap.size [a,c,e] (.slice o7 3 cap7) from by rw[<-hab];exact HG7.out)
     have HAB:=zh hab
     clear hab
     obtain ⟨ga,ka,na,da5,sa5,oa5,lna,cpa,rfl,x0,x1,x2,x3,x4,hra⟩:=HGP.out.elem (j:=0) rfl
     obtain ⟨gb,kb5,nb5,db5,sb5,ob5,lnb,cpb,hgb,y0,y1,y2,y3,y4,hrb⟩:=HGP.out.elem (j:=1) rfl
     simp only[Option.some.injEq,Addr.mk.injEq,and_true] at hgb
     subst hgb
     simp only[Nat.zero_mul,Nat.zero_add,Nat.one_mul,Nat.reduceAdd] at x0 x1 x2 x3 x4 y0 y1 y2 y3 y4
     have HXa:=zh (And.intro x0 (And.intro x1 (And.intro x2 (And.intro x3 x4))))
     have HYb:=zh (And.intro y0 (And.intro y1 (And.intro y2 (And.intro y3 y4))))
     have HRA:=zh (show RepD (hide w7 (SR (SR (SR (SR (S1 S (w.heap.size+2)) u16) u15) u14) (.slice (some ⟨ga,0,none⟩) 3 cap7))) w7.heap.size a (.agg #[.int .i64 ka,.int .i64 na,.int .i64 da5,.string sa5,.slice oa5 lna cpa]) from hra)
     have HRB:=zh (show RepD (hide w7 (SR (SR (SR (SR (S1 S (w.heap.size+2)) u16) u15) u14) (.slice (some ⟨ga,0,none⟩) 3 cap7))) w7.heap.size c (.agg #[.int .i64 kb5,.int .i64 nb5,.int .i64 db5,.string sb5,.slice ob5 lnb cpb]) from hrb)
     have HGA:=zh (show W1.heap.size<=ga∧ga<w7.heap.size from HGP.out.block rfl)
     have HNG:=zh (show ¬(SR (SR (SR (S1 S (w.heap.size+2)) u16) u15) u14) ga from HGP.out.apart ga rfl)
     have HT7:=zh (show Trio w7 (SR (S1 S (w.heap.size+2)) (.slice (some ⟨ga,0,none⟩) 3 cap7)) WL.heap.size dn dv (Sy.freshD (n+1)::av) u14 u15 u16 from HTR.out.more HBwr.out (fun c hc=>.inl hc) (fun c hc=>hc.imp id fun hg=>by simp only[Value.ownBlock,Option.some.injEq] at hg;have:=HGA.out.1;have:=HZ1.out;omega) (fun c hc=>hc.elim (fun hc=>qzM (HSTr.out.lt c hc) HBwr.out.size) fun hg=>by simp only[Value.ownBlock,Option.some.injEq] at hg;have:=HGA.out.2;omega))
     clear x0 x1 x2 x3 x4 y0 y1 y2 y3 y4 hra hrb
     obtain ⟨x0,x1,x2,x3,x4⟩:=HXa.out
     obtain ⟨y0,y1,y2,y3,y4⟩:=HYb.out
     have xl:=zai x0
     go_upto_region 12 with (first | (go_at_call 30;refine (zah _).mono ?_;rintro e' wN ⟨⟨vN,rfl⟩,rfl⟩) | fail)
     have HD5:=zh ((Below.refl wN.heap.size wN).drew)
     have HNE:=zh (show ¬(u14.ownBlock=some ga∨u15.ownBlock=some ga) from fun h=>HNG.out (h.elim .inr fun h=>.inl (.inr h)))
     have HCA:=zh (show ∀w1,Turned (fun c=>u14.ownBlock=some c∨u15.ownBlock=some c) wN.drew w1->∀i u,wN.cell? ⟨ga,i,none⟩=some u->w1.cell? ⟨ga,i,none⟩=some u from fun w1 h i u hu=>(Shown.turned (S:=fun c=>u14.ownBlock=some c∨u15.ownBlock=some c) h (fun _ _ h=>h) ga i u HNE.out hu).2)
     have hTW:Twin wN.drew (SR (SR (S1 S (w.heap.size+2)) (.slice (some ⟨ga,0,none⟩) 3 cap7)) u16) WL.heap.size dn dv u14 u15:=⟨HT7.out.1.1.below HD5.out,HT7.out.1.2.below HD5.out⟩
     have hXA:RepD (hide wN.drew (SR (SR (SR (SR (S1 S (w.heap.size+2)) (.slice (some ⟨ga,0,none⟩) 3 cap7)) u16) u15) u14)) wN.drew.heap.size a (.agg #[.int .i64 ka,.int .i64 na,.int .i64 da5,.string sa5,.slice oa5 lna cpa]):=HRA.out.shown ((Shown.less wN (S':=SR (SR (SR (SR (S1 S (w.heap.size+2)) (.slice (some ⟨ga,0,none⟩) 3 cap7)) u16) u15) u14) fun c _ hc=>by rcases hc with (((hc | hc) | hc) | hc) | hc<;>first | exact .inl (.inl (.inl (.inl hc))) | exact .inr hc | exact .inl (.inl (.inl (.inr hc))) | exact .inl (.inl (.inr hc)) | exact .inl (.inr hc)).trans (Shown.below HD5.out)) qzL
     have hXB:RepD (hide wN.drew (SR (SR (SR (SR (S1 S (w.heap.size+2)) (.slice (some ⟨ga,0,none⟩) 3 cap7)) u16) u14) u15)) wN.drew.heap.size c (.agg #[.int .i64 kb5,.int .i64 nb5,.int .i64 db5,.string sb5,.slice ob5 lnb cpb]):=HRB.out.shown ((Shown.less wN (S':=SR (SR (SR (SR (S1 S (w.heap.size+2)) (.slice (some ⟨ga,0,none⟩) 3 cap7)) u16) u14) u15) fun c _ hc=>by rcases hc with (((hc | hc) | hc) | hc) | hc<;>first | exact .inl (.inl (.inl (.inl hc))) | exact .inr hc | exact .inl (.inl (.inl (.inr hc))) | exact .inl (.inr hc) | exact .inl (.inl (.inr hc))).trans (Shown.below HD5.out)) qzL
     refine zbB 12 4 5 10 11 _ _ _ _ 75 76 81 82 [] (DrR u14 u15 (.slice (some ⟨ga,0,none⟩) 3 cap7) (.pointer (some ⟨ga,0,none⟩)) (.agg #[.int .i64 ka,.int .i64 na,.int .i64 da5,.string sa5,.slice oa5 lna cpa]) (.pointer (some ⟨ga,5,none⟩)) (.agg #[.int .i64 kb5,.int .i64 nb5,.int .i64 db5,.string sb5,.slice ob5 lnb cpb])) (by kernel_rfl) (by show monoB _ 12 137=true;kernel_rfl) ⟨rfl,rfl,by omega⟩ ⟨rfl,rfl,by omega⟩ ⟨rfl,rfl,by omega⟩ ⟨rfl,rfl,by omega⟩ (by decide) ?hdA ?hdB hTW hXA hXB (fun _ h=>by simp at h) (fun _ h=>by simp at h) (fun _ h=>by simp at h) ?hops ?hmA ?hmB ?hgA ?hgB ?hend
     case hdA=>exact zbi 4 (by kernel_rfl)
     case hdB=>exact zbi 10 (by kernel_rfl)
     case hops=>
      intro i8 o8 hi hsp _ ho x8 w8 hdf hsz hT jb ja _
      match i8,hi,hsp with
      | 0,_,_=>
       cases ho
       have h14:x8.tmps.getD 14 undef=u14:=ja.at 14 (by kernel_rfl)
       exact zak (v:=u14) rfl (by go_simp) rfl
      | 1,_,_=>
       cases ho
       have h19:x8.tmps.getD 19 undef=(.slice (some ⟨ga,0,none⟩) 3 cap7):=ja.at 19 (by kernel_rfl)
       exact zak (v:=(.slice (some ⟨ga,0,none⟩) 3 cap7)) rfl (by go_simp) rfl
      | 2,_,_=>
       cases ho
       have h72:x8.tmps.getD 72 undef=(.slice (some ⟨ga,0,none⟩) 3 cap7):=zaH jb 1 72 (by kernel_rfl) (by decide)
       exact zak (v:=.pointer (some ⟨ga,0,none⟩)) rfl (by go_simp) rfl
      | 3,_,_=>
       cases ho
       have h73:x8.tmps.getD 73 undef=.pointer (some ⟨ga,0,none⟩):=zaH jb 2 73 (by kernel_rfl) (by decide)
       have z0:=HCA.out w8 hT _ _ HXa.out.1
       have z1:=HCA.out w8 hT _ _ HXa.out.2.1
       have z2:=HCA.out w8 hT _ _ HXa.out.2.2.1
       have z3:=HCA.out w8 hT _ _ HXa.out.2.2.2.1
       have z4:=HCA.out w8 hT _ _ HXa.out.2.2.2.2
       have zl:=zai z0
       exact zak (v:=(.agg #[.int .i64 ka,.int .i64 na,.int .i64 da5,.string sa5,.slice oa5 lna cpa])) rfl (by go_simp) rfl
      | 4,_,h | 5,_,h | 10,_,h | 11,_,h=>exact absurd (by decide) h
      | 6,_,_=>
       cases ho
       have h15:x8.tmps.getD 15 undef=u15:=ja.at 15 (by kernel_rfl)
       exact zak (v:=u15) rfl (by go_simp) rfl
      | 7,_,_=>
       cases ho
       have h19:x8.tmps.getD 19 undef=(.slice (some ⟨ga,0,none⟩) 3 cap7):=ja.at 19 (by kernel_rfl)
       exact zak (v:=(.slice (some ⟨ga,0,none⟩) 3 cap7)) rfl (by go_simp) rfl
      | 8,_,_=>
       cases ho
       have h78:x8.tmps.getD 78 undef=(.slice (some ⟨ga,0,none⟩) 3 cap7):=zaH jb 7 78 (by kernel_rfl) (by decide)
       exact zak (v:=.pointer (some ⟨ga,5,none⟩)) rfl (by go_simp) rfl
      | 9,_,_=>
       cases ho
       have h79:x8.tmps.getD 79 undef=.pointer (some ⟨ga,5,none⟩):=zaH jb 8 79 (by kernel_rfl) (by decide)
       have z0:=HCA.out w8 hT _ _ HYb.out.1
       have z1:=HCA.out w8 hT _ _ HYb.out.2.1
       have z2:=HCA.out w8 hT _ _ HYb.out.2.2.1
       have z3:=HCA.out w8 hT _ _ HYb.out.2.2.2.1
       have z4:=HCA.out w8 hT _ _ HYb.out.2.2.2.2
       have zl:=zai z0
       exact zak (v:=(.agg #[.int .i64 kb5,.int .i64 nb5,.int .i64 db5,.string sb5,.slice ob5 lnb cpb])) rfl (by go_simp) rfl
     case hmA=>
      intro x8 w8 _ _ jb _
      exact zbj rfl rfl (zaH jb 3 74 (by kernel_rfl) (by decide))
     case hmB=>
      intro x8 w8 _ _ jb _
      exact zbj rfl rfl (zaH jb 9 80 (by kernel_rfl) (by decide))
     case hgA=>
      intro x8 w8 T8 _ _ jb _ hg hk
      exact za1 rfl rfl (zaH jb 0 71 (by kernel_rfl) (by decide)) hg hk (by have:=HDN.out;have:=HLI.out;have:=HALL.out;simp only[List.length_singleton];omega)
     case hgB=>
      intro x8 w8 T8 _ _ jb _ hg hk
      exact za1 rfl rfl (zaH jb 6 77 (by kernel_rfl) (by decide)) hg hk (by have:=HDV.out;have:=HLI.out;have:=HALL.out;simp only[List.length_singleton];omega)
     case hend=>
      intro x8 w9 hdf hsz hT ja htw hval _ hshw
      obtain ⟨f8,ha,hf8⟩:=zaq [false,false,false,false,false,false,false,false,false,false,false,false,false,false,false,false,false,false,false,false,false,false,false,false,false,false,false,false,false,false,false,false,false,false,false,false,false,false,false,false,false,false,false,false,false,false,false,false,false,false,false,false,false,false,false,false,false,false,false,false,false,false,false,false,false,false,false,false,false,false,false,true,true,true,true,true,true,true,true,true,true,true,true] (by kernel_rfl) hdf hsz ja
      rw[<-hf8,<-hf8] at htw hshw
      subst ha
      obtain ⟨v14,hv14⟩:∃v14,f8 76=v14:=⟨_,rfl⟩
      obtain ⟨v15,hv15⟩:∃v15,f8 82=v15:=⟨_,rfl⟩
      rw[hv14,hv15] at htw hshw
      have HT9:=zh (show Trio w9 (SR (S1 S (w.heap.size+2)) (.slice (some ⟨ga,0,none⟩) 3 cap7)) WL.heap.size (dn++[a]) (dv++[c]) (Sy.freshD (n+1)::av) v14 v15 u16 from (HT7.out.turned (T:=fun _=>False) (Turned.of_below HD5.out) (fun _ _ h=>h.elim)).twin htw hT hshw)
      have HTt:=zh hT
      have HP9:=zh (show GrownS w9 (SR (SR (SR (S1 S (w.heap.size+2)) u16) v15) v14) W1.heap.size [a,c,e] (.slice (some ⟨ga,0,none⟩) 3 cap7) from by
       have hsz9:wN.heap.size<=w9.heap.size:=hT.size
       refine HGP.out.rehide hsz9 (fun c hc=>?_) (fun g hg hc=>?_) (fun g hg=>?_) ?_
       ·exact HT9.out.lt c (by rcases hc with ((hc | hc) | hc) | hc<;>first | exact .inl (.inl (.inl (.inl hc))) | exact .inl (.inl (.inr hc)) | exact .inl (.inr hc) | exact .inr hc)
       ·rcases hc with ((hc | hc) | hc) | hc
        ·exact HGP.out.apart g hg (.inl (.inl (.inl hc)))
        ·exact HGP.out.apart g hg (.inl (.inl (.inr hc)))
        ·exact HT9.out.1.2.apart g hc (.inl (.inl (.inr hg)))
        ·exact HT9.out.1.1.apart g hc (.inl (.inl (.inr hg)))
       ·simp only[Value.ownBlock,Option.some.injEq] at hg
        subst hg
        exact hT.block ga (qzM HGA.out.2 HD5.out.size) HNE.out
       ·refine (((Shown.less wN (S':=SR (SR (SR (SR (S1 S (w.heap.size+2)) (.slice (some ⟨ga,0,none⟩) 3 cap7)) u16) u15) u14) fun c _ hc=>?_).trans (Shown.below HD5.out)).trans hshw).trans (Shown.less w9 fun c _ hc=>?_)
        ·rcases hc with (((hc | hc) | hc) | hc) | hc
         ·exact .inl (.inl (.inl (.inl hc)))
         ·exact .inr hc
         ·exact .inl (.inl (.inl (.inr hc)))
         ·exact .inl (.inl (.inr hc))
         ·exact .inl (.inr hc)
        ·rcases hc with (((hc | hc) | hc) | hc) | hc
         ·exact .inl (.inl (.inl (.inl hc)))
         ·exact .inl (.inl (.inr hc))
         ·exact .inl (.inr hc)
         ·exact .inr hc
         ·exact .inl (.inl (.inl (.inr hc))))
      have HBL9:=zh (show Below WL.heap.size WL w9 from HBL.out.trans ((HBwr.out.mono HBL.out.size).trans ((HD5.out.mono (Nat.le_trans HBL.out.size HBwr.out.size)).trans (Turned.below hT (fun c hc=>hc.elim (fun h=>(HTR.out.1.1.block h).1) fun h=>(HTR.out.1.2.block h).1) (Nat.le_trans HBL.out.size HBwr.out.size)))))
      clear htw hshw hT hdf hsz ja hf8 hTW hXA hXB HCA hval x0 x1 x2 x3 x4 y0 y1 y2 y3 y4 xl
      simp only[spellH,List.drop_succ_cons,List.drop_zero,hv14,hv15]
      clear hv14 hv15
      have HSN:=zh (show Sy.steps (Sy.split x).1=(Sy.steps ((Sy.split x).1.drop (i+1))).map fun p=>((dn++[a])++p.1,(dv++[c])++p.2.1,(av++[e])++p.2.2) from by
       rw[HSTP.out,HDROP.out,Sy.steps_three HQ2.out HAB.out,Option.map_map]
       simp[Function.comp_def])
      go_upto_region 15 with fail
      have HT10:=zh (HT9.out.less (S':=(S1 S (w.heap.size+2))) (fun c hc=>.inl hc))
      obtain ⟨ge,ke,ne5,de5,se5,oe5,lne,cpe,hge,x0,x1,x2,x3,x4,hrz⟩:=HP9.out.elem (j:=2) rfl
      simp only[Option.some.injEq,Addr.mk.injEq,and_true] at hge
      subst hge
      simp only[Nat.reduceMul,Nat.reduceAdd] at x0 x1 x2 x3 x4
      have xl:=zai x0
      have je:Below w9.heap.size w9 (w9.alloc (.cells #[.int .i64 ke,.int .i64 ne5,.int .i64 de5,.string se5,.slice oe5 lne cpe] 26)):=Below.one _ _
      have HTa:=zh (HT10.out.turned (T:=fun _=>False) (Turned.of_below je) (fun _ _ h=>h.elim))
      have HGq:=zh HTa.out.2
      have HKq:=zh (zax (S:=SR (SR (SR (S1 S (w.heap.size+2)) v15) v14) u16) (fun c hc=>HT10.out.lt c (by rcases hc with ((hc | hc) | hc) | hc<;>first | exact .inl (.inl (.inl hc)) | exact .inl (.inr hc) | exact .inr hc | exact .inl (.inl (.inr hc)))) (hrz.shown (Shown.less w9 fun c _ hc=>by rcases hc with ((hc | hc) | hc) | hc<;>first | exact .inl (.inl (.inl (.inl hc))) | exact .inl (.inl (.inr hc)) | exact .inl (.inr hc) | exact .inl (.inl (.inl (.inr hc)))) qzL))
      have HOz:=zh je
      clear je hrz
      go_upto_region 16 with (first | (at_builtin;go_loud (refine zaj rfl fun K hK=>zav (S:=SR (SR (S1 S (w.heap.size+2)) v15) v14) (.tmp 92) (.tmp 96) rfl WL.heap.size u16 (.slice (some ⟨w9.heap.size,0,none⟩) 1 1) (Sy.freshD (n+1)::av) [e] rfl HGq rfl HKq (by have:=HAV.out;have:=HLI.out;have:=HALL.out;simp only[qzN,qzO];omega) fun o9q len9q cap9q w11 h9 h10 h11 h12=>hK _ _ ?_)) | fail)
      have HT11:=zh (HTa.out.third h9.out h11.out h12.out)
      have HBL11:=zh (show Below WL.heap.size WL w11 from HBL9.out.trans ((HOz.out.mono HBL9.out.size).trans h10.out))
      clear h9 h10 h11 h12 HGq HKq HTa x0 x1 x2 x3 x4 xl
      go_wp2_with fail
      go_roundg ((Sy.split x).1.length-(i+1))
      case measure=>have:=HLI.out;omega
      case rel=>
       exact zh ⟨i+1,dn++[a],dv++[c],av++[e],by go_num,rfl,by have:=HLI.out;omega,by simp[HDN.out],by simp[HDV.out],by simp[HAV.out],HBL11.out,HT11.out,HSN.out⟩
   ·have hno:(q2=false)∨(len7≠2∧len7≠3):=by
     cases q2
     ·exact .inl rfl
     ·refine .inr ⟨fun h=>hok ⟨rfl,.inl h⟩,fun h=>hok ⟨rfl,.inr h⟩⟩
    have hsn:Sy.steps (Sy.split x).1=none:=by
     rw[HSTP.out,HDROP.out,Sy.steps_bad (by rw[HQ2.out,<-HL7.out];exact hno)]
     rfl
    have hrn:r=none:=by
     have h:=HR2.out
     rw[hsn] at h
     exact Sy.bad_split h
    subst hrn
    have HSTb:=zh (HSTr.out.bad' (Turned.of_below HBwr.out))
    clear hsn
    cases q2
    ·go_wp2_with (first | (go_at_call 30;refine (zaf _).mono ?_;rintro e' wN ⟨rfl,rfl⟩) | fail)
     exact ⟨rfl,HSTb.out⟩
    ·have hn2:¬len7=2:=fun h=>hok ⟨rfl,.inl h⟩
     have hn3:¬len7=3:=fun h=>hok ⟨rfl,.inr h⟩
     have hn2b:((len7:Int)==2)=false:=by simp;omega
     have hn3b:((len7:Int)==3)=false:=by simp;omega
     clear hno hok
     go_wp2_with (first | (go_at_call 30;refine (zaf _).mono ?_;rintro e' wN ⟨rfl,rfl⟩) | fail)
     exact ⟨rfl,HSTb.out⟩
  ·have hsn:Sy.steps (Sy.split x).1=some (dn,dv,av):=by
    rw[HSTP.out,List.drop_of_length_le (by rw[<-HL1.out];omega)]
    simp[Sy.steps]
   have HR3:=zh (show Sy.need (Sy.distinct dn) (Sy.bnd (E e0) fun test=>Sy.bnd (if es.isEmpty then Sy.ret Sy.void else Sy.begin E es) fun out=>Sy.bnd (Sy.begin E (l++[Dat.list (Sy.freshD (n+1)::av)])) fun go=>Sy.loopF E (Sy.freshD (n+1)) (Sy.form Sy.lambdaB [Dat.list dn,Sy.form Sy.ifB [test,out,go]]) dv) (n+1)=some r from by have h:=HR2.out;rw[hsn] at h;exact h)
   clear hsn
   have HD0:=zh (show (Sp.row (some dn)).holds (S1 S (w.heap.size+2)) u14 wr from Sp.ofS (HTR.out.1.1.less (S:=(S1 S (w.heap.size+2))) (fun c h=>.inl (.inl h)) qzL).rep)
   have HV0:=zh (show (Sp.row (some dv)).holds (S1 S (w.heap.size+2)) u15 wr from Sp.ofS (HTR.out.1.2.less (S:=(S1 S (w.heap.size+2))) (fun c h=>.inl (.inl h)) qzL).rep)
   have HA0:=zh (show (Sp.row (some (Sy.freshD (n+1)::av))).holds (S1 S (w.heap.size+2)) u16 wr from Sp.ofS (HTR.out.2.less (S:=(S1 S (w.heap.size+2))) (fun c h=>.inl (.inl h)) qzL).rep)
   have HF0:=zh (Sp.below HELL.out HBL.out)
   have HE0:=zh (Sp.below HG2L.out HBL.out)
   have HL0:=zh (Sp.below HLVL.out HBL.out)
   have HDI:=zh (HSTr.out.distinct dn u14 HD0.out (by have:=HDN.out;have:=HI.out;have:=HALL.out;omega))
   obtain ⟨di,hdi⟩:∃di,Sy.distinct dn=di:=⟨_,rfl⟩
   have HNS:=zh (Sy.need_split HR3.out)
   rw[hdi] at HDI HNS
   have HLDV:=zh (show dv.length<=100000 from by have:=HDV.out;have:=HI.out;have:=HALL.out;omega)
   have HLAV:=zh (show av.length<=100000 from by have:=HAV.out;have:=HI.out;have:=HALL.out;omega)
   clear hdi hlb HR3
   cases di
   ·have hrn:=HNS.out.1 (by trivial)
    subst hrn
    go_wp2_with (first | (go_at_call 49;refine HDI.out.mono ?_;rintro e' w2d ⟨rfl,hb2d⟩) | (go_at_call 30;refine (zaf _).mono ?_;rintro e' wN ⟨rfl,rfl⟩) | fail)
    exact ⟨rfl,HSTr.out.bad' (Turned.of_below hb2d)⟩
   ·go_upto_region 18 with (first | (go_at_call 49;refine HDI.out.mono ?_;rintro e' w2d ⟨rfl,hb2d⟩) | (go_at_call 30;refine (zah _).mono ?_;rintro e' wN ⟨⟨vN,rfl⟩,rfl⟩) | fail)
    have HSTs:=zh (HSTr.out.below hb2d)
    have HD0s:=zh (Sp.below HD0.out hb2d)
    have HV0s:=zh (Sp.below HV0.out hb2d)
    have HA0s:=zh (Sp.below HA0.out hb2d)
    have HF0s:=zh (Sp.below HF0.out hb2d)
    have HE0s:=zh (Sp.below HE0.out hb2d)
    have HL0s:=zh (Sp.below HL0.out hb2d)
    obtain ⟨p1,hp1,hn1,hk⟩:=Sy.bnd_split (HNS.out.2 (by trivial))
    have HP1:=zh hp1
    have jh:=zh hn1
    have HK:=zh hk
    clear hb2d hp1 hn1 hk
    refine zad (dr:=false) (S:=S) (b:=b) (H:=(w.heap.size+2)) 5 [4] (fun j=>[(n+1),cnt p1].getD j 0) [.val (.pointer (some ⟨b,0,none⟩)),.row (some (e0::es)),.elm (some (e0)),.dat (some (e0)),.dat (p1.map (·.1))] HSTs.out (by show zB _ _ 5 137=true;kernel_rfl) (by decide) (by decide) (by kernel_rfl) ?hops ?hcall ?hend
    case hops=>
     intro i o8 hi hip ho a8 w8 hdf jd ht8 jb ja
     match i,hi,hip with
     | 0,_,_=>cases ho;exact zac rfl (Sp.at ja 0 (by kernel_rfl) (rfl) (.inl HSTs.out.own) ht8)
     | 1,_,_=>cases ho;exact zac rfl (Sp.at ja 11 (by kernel_rfl) (HE0s.out) (.inl HSTs.out.own) ht8)
     | 2,_,_=>cases ho;exact zas (k:=0) rfl (Sp.dep jb 1 103 (by kernel_rfl)) rfl (by decide)
     | 3,_,_=>cases ho;exact zal rfl (Sp.dep jb 2 104 (by kernel_rfl))
     | 4,_,h=>exact absurd (by decide) h
     | i+5,hi,_=>exact absurd hi (by omega)
    case hcall=>
     intro j i o8 hj ho a8 w8 hdf jc ht8 jb jg ja
     match j,hj with
     | 0,hj=>
      cases hj;cases ho
      refine zaN (p:=p1) rfl (Sp.dep jb 0 102 (by kernel_rfl)) (fun _ _=>rfl) (HE.out (S1 S (w.heap.size+2)) b _ e0 _ w8 p1 HP1.out jc.lt (.inl jc.own) jc.hx jc.hE (Sp.datum (Sp.dep jb 3 105 (by kernel_rfl)))) fun hp w9 ht9=>?_
      cases jh.out hp;exact ⟨hdf,jc.bad' ht9⟩
     | _+1,hj=>simp at hj
    case hend=>
     intro a8 w8 hdf hsz jc ht8 hval ja
     obtain ⟨x8,hx8,hr8⟩:∃x8,p1.map (·.1)=some x8∧RepD (hide w8 (S1 S (w.heap.size+2))) w8.heap.size x8 (a8.tmps.getD 106 undef):=hval 4 _ 106 (by omega) rfl rfl
     rcases p1 with _ | ⟨y1,n1⟩
     ·simp at hx8
     have hx9:some (y1)=some x8:=hx8
     obtain rfl:=Option.some.inj hx9
     obtain ⟨f8,ha,hf8⟩:=zaq [false,false,false,false,false,false,false,false,false,false,false,false,false,false,false,false,false,false,false,false,false,false,false,false,false,false,false,false,false,false,false,false,false,false,false,false,false,false,false,false,false,false,false,false,false,false,false,false,false,false,false,false,false,false,false,false,false,false,false,false,false,false,false,false,false,false,false,false,false,false,false,false,false,false,false,false,false,false,false,false,false,false,false,false,false,false,false,false,false,false,false,false,false,false,false,false,false,false,false,false,false,false,true,true,true,true,true] (by kernel_rfl) hdf hsz ja
     rw[<-hf8] at hr8
     subst ha
     obtain ⟨k8,m8,d8,s8,o8,len8,cap8,h8⟩:=zae hr8.unhide
     rw[h8] at hr8
     obtain ⟨W8,hW8⟩:∃W8,w8.alloc (.cells #[.int .i64 k8,.int .i64 m8,.int .i64 d8,.string s8,.slice o8 len8 cap8] 26)=W8:=⟨_,rfl⟩
     obtain ⟨hst9,hel9,ht9⟩:=(show XS S b (w.heap.size+2) n1 w w8 from jc).stored (Turned.refl _ _) jc.hx hr8 hW8
     have HSTt:=zh hst9
     have HTt:=zh hel9
     have HW8:=zh hW8
     have HD0t:=zh (HSTs.out.keep (HD0s.out) (ht8.next ht9))
     have HV0t:=zh (HSTs.out.keep (HV0s.out) (ht8.next ht9))
     have HA0t:=zh (HSTs.out.keep (HA0s.out) (ht8.next ht9))
     have HF0t:=zh (HSTs.out.keep (HF0s.out) (ht8.next ht9))
     have HE0t:=zh (HSTs.out.keep (HE0s.out) (ht8.next ht9))
     have HL0t:=zh (HSTs.out.keep (HL0s.out) (ht8.next ht9))
     clear hval ja hf8 hdf hsz hr8 jc ht8 hx8 hx9 hst9 hel9 ht9 hW8
     simp only[spellH,List.drop_succ_cons,List.drop_zero,h8]
     go_upto_region 19 with fail
     rw[HW8.out]
     clear HW8
     have HR4:=zh (HK.out y1 n1 rfl)
     clear HP1 jh HK
     refine zad (dr:=false) (S:=S) (b:=b) (H:=(w.heap.size+2)) 1 [] (fun j=>[n1].getD j 0) [.dat (some (Sy.void))] HSTt.out (by show zB _ _ 1 137=true;kernel_rfl) (by decide) (by decide) (by kernel_rfl) ?hops ?hcall ?hend
     case hops=>
      intro i o8 hi hip ho a8 w8 hdf jd ht8 jb ja
      match i,hi,hip with
      | 0,_,_=>cases ho;exact zeb rfl jd
      | i+1,hi,_=>exact absurd hi (by omega)
     case hcall=>
      intro j i o8 hj ho a8 w8 hdf jc ht8 jb jg ja
      simp at hj
     case hend=>
      intro a8 w8 hdf hsz jc ht8 hval ja
      obtain ⟨x8,hx8,hr8⟩:∃x8,some (Sy.void)=some x8∧RepD (hide w8 (S1 S (w.heap.size+2))) w8.heap.size x8 (a8.tmps.getD 107 undef):=hval 0 _ 107 (by omega) rfl rfl
      have hx9:some (Sy.void)=some x8:=hx8
      obtain rfl:=Option.some.inj hx9
      obtain ⟨f8,ha,hf8⟩:=zaq [false,false,false,false,false,false,false,false,false,false,false,false,false,false,false,false,false,false,false,false,false,false,false,false,false,false,false,false,false,false,false,false,false,false,false,false,false,false,false,false,false,false,false,false,false,false,false,false,false,false,false,false,false,false,false,false,false,false,false,false,false,false,false,false,false,false,false,false,false,false,false,false,false,false,false,false,false,false,false,false,false,false,false,false,false,false,false,false,false,false,false,false,false,false,false,false,false,false,false,false,false,false,false,false,false,false,false,true] (by kernel_rfl) hdf hsz ja
      rw[<-hf8] at hr8
      subst ha
      obtain ⟨k8,m8,d8,s8,o8,len8,cap8,h8⟩:=zae hr8.unhide
      rw[h8] at hr8
      obtain ⟨W8,hW8⟩:∃W8,w8.alloc (.cells #[.int .i64 k8,.int .i64 m8,.int .i64 d8,.string s8,.slice o8 len8 cap8] 26)=W8:=⟨_,rfl⟩
      obtain ⟨hst9,hel9,ht9⟩:=(show XS S b (w.heap.size+2) n1 w w8 from jc).stored (Turned.refl _ _) jc.hx hr8 hW8
      have HSTu:=zh hst9
      have HOu:=zh hel9
      have HW8:=zh hW8
      have HD0u:=zh (HSTt.out.keep (HD0t.out) (ht8.next ht9))
      have HV0u:=zh (HSTt.out.keep (HV0t.out) (ht8.next ht9))
      have HA0u:=zh (HSTt.out.keep (HA0t.out) (ht8.next ht9))
      have HF0u:=zh (HSTt.out.keep (HF0t.out) (ht8.next ht9))
      have HE0u:=zh (HSTt.out.keep (HE0t.out) (ht8.next ht9))
      have HL0u:=zh (HSTt.out.keep (HL0t.out) (ht8.next ht9))
      have HTu:=zh (HSTt.out.keep (HTt.out) (ht8.next ht9))
      have HB22:=zh (show ∃(k n d:Int) (s:ByteArray) (p:Option Addr) (ln cp:Nat),Box5 W8 w8.heap.size 26 (.int .i64 k) (.int .i64 n) (.int .i64 d) (.string s) (.slice p ln cp) from ⟨_,_,_,_,_,_,_,by rw[<-hW8];exact Box5.new _ _ _ _ _ _ _⟩)
      have je:Below w8.heap.size w8 W8:=by rw[<-hW8];exact Below.one _ _
      have HD0x:=zh (Sp.shown (HSTt.out.keep HD0t.out ht8) (za5 rfl je) je.size)
      have HV0x:=zh (Sp.shown (HSTt.out.keep HV0t.out ht8) (za5 rfl je) je.size)
      have HA0x:=zh (Sp.shown (HSTt.out.keep HA0t.out ht8) (za5 rfl je) je.size)
      have HF0x:=zh (Sp.shown (HSTt.out.keep HF0t.out ht8) (za5 rfl je) je.size)
      have HE0x:=zh (Sp.shown (HSTt.out.keep HE0t.out ht8) (za5 rfl je) je.size)
      have HL0x:=zh (Sp.shown (HSTt.out.keep HL0t.out ht8) (za5 rfl je) je.size)
      have HTx:=zh (Sp.shown (HSTt.out.keep HTt.out ht8) (za5 rfl je) je.size)
      clear je
      have HGW:=zh (show w.heap.size+2<w8.heap.size from jc.box.lt)
      have HLG:=zh (show ∀c,S1 (S1 S (w.heap.size+2)) w8.heap.size c->c<W8.heap.size from fun c hc=>hc.elim (fun hc=>hst9.lt c hc) fun hc=>by subst hc;rw[<-hW8];simp)
      have HNG22:=zh (show ¬(S1 S (w.heap.size+2)) w8.heap.size from fun h=>by have:=jc.lt _ h;omega)
      clear hval ja hf8 hdf hsz hr8 jc ht8 hx8 hx9 hst9 hel9 ht9 hW8
      simp only[spellH,List.drop_succ_cons,List.drop_zero,h8]
      go_upto_region 20 with fail
      rw[HW8.out]
      clear HW8
      generalize w8.heap.size=G22 at HOu HB22 HLG HNG22 HGW HD0x HV0x HA0x HF0x HE0x HL0x HTx ⊢
      match es,HE0u,HE0x,HLE2,HR4 with
      | [],HE0u,HE0x,HLE2,HR4=>
       obtain rfl:len2=1:=HLE2.out
       go_upto_region 22 with fail
       obtain ⟨WX,hWX⟩:∃WX,W8=WX:=⟨_,rfl⟩
       subst hWX
       obtain ⟨p1,hp1,hn1,hk⟩:=Sy.bnd_split (show Sy.bnd (Sy.begin E (l++[Dat.list (Sy.freshD (n+1)::av)])) _ n1=some r from HR4.out)
       have HKg:=zh hk
       have HNg:=zh hn1
       have hone0:Below W8.heap.size W8 (W8.alloc (.cells #[] 26)):=Below.one _ _
       have HG0:=zh (GrownS.empty (W:=W8) HSTu.out.lt)
       have HK0:=zh (show RepS (hide (W8.alloc (.cells #[] 26)) (SR (S1 S (w.heap.size+2)) (.slice (some ⟨W8.heap.size,0,none⟩) 0 0))) (W8.alloc (.cells #[] 26)).heap.size l _ from (Sp.data HL0u.out).shown (fun c o u hc hu=>by
        have hcl:=zai hu
        refine ⟨fun hs=>hs.elim hc fun hs=>?_,(hone0.cell (p:=⟨c,o,none⟩) hcl).trans hu⟩
        simp only[Value.ownBlock,Option.some.injEq] at hs
        omega) hone0.size)
       have HO0:=zh hone0
       clear hone0
       match p1,hp1,HKg,HNg with
       | none,hp1,HKg,HNg=>
        have hrn:=HNg.out rfl
        subst hrn
        go_wp2_with (first | (at_builtin;(refine zaj rfl fun K hK=>zav (S:=(S1 S (w.heap.size+2))) (.tmp 116) (.tmp 117) rfl W8.heap.size (.slice (some ⟨W8.heap.size,0,none⟩) 0 0) _ [] l rfl HG0 rfl HK0 (by have:=HLL.out;simp;omega) fun oA lenA capA wA h9 h10 h11 h12=>hK _ _ ?_)) | (go_at_call 87;refine (zaW (SR (S1 S (w.heap.size+2)) (.slice oA lenA capA)) (Sy.freshD (n+1)::av) u16 wA.heap.size wA (fun c hc=>hc.elim (fun hc=>h9.out.1 c hc) fun hc=>(h9.out.block hc).2) ((Sp.data HA0u.out).shown (fun c o u hc hu=>⟨fun hs=>hs.elim hc fun hs=>by have:=(h9.out.block hs).1;have:=zai hu;omega,((h10.out.cell (p:=⟨c,o,none⟩) (zai hu)).trans ((HO0.out.cell (p:=⟨c,o,none⟩) (zai hu)).trans hu))⟩) (Nat.le_trans HO0.out.size h10.out.size)) qzL).mono ?_;rintro e' wD ⟨vD,rfl,hrD,hbD⟩;obtain ⟨kD,mD,dD,sD,oD,lenD,capD,rfl⟩:=zae hrD.unhide;have HGD:=zh ((h9.out.below hbD).below (Below.one wD (.cells #[.int .i64 kD,.int .i64 mD,.int .i64 dD,.string sD,.slice oD lenD capD] 26)));have HKD:=zh (zax (S:=(SR (S1 S (w.heap.size+2)) (.slice oA lenA capA))) (fun c hc=>hc.elim (fun hc=>qzM (h9.out.1 c hc) hbD.size) fun hc=>qzM (h9.out.block hc).2 hbD.size) hrD)) | (at_builtin;(refine zaj rfl fun K hK=>zav (S:=(S1 S (w.heap.size+2))) (.tmp 118) (.tmp 121) rfl W8.heap.size (.slice oA lenA capA) (.slice (some ⟨wD.heap.size,0,none⟩) 1 1) ([]++l) [Dat.list (Sy.freshD (n+1)::av)] rfl HGD rfl HKD (by have:=HLL.out;simp;omega) fun oB lenB capB wB k9 k10 k11 k12=>hK _ _ ?_)) | (go_at_call 51;(have hbB:Below W8.heap.size W8 wB:=(HO0.out.trans ((h10.out.mono qzL).trans ((hbD.mono (Nat.le_trans HO0.out.size h10.out.size)).trans (((Below.one wD (.cells #[.int .i64 kD,.int .i64 mD,.int .i64 dD,.string sD,.slice oD lenD capD] 26)).mono (Nat.le_trans HO0.out.size (Nat.le_trans h10.out.size hbD.size))).trans (k10.out.mono qzL))))));(refine (zaU HE.out (S1 S (w.heap.size+2)) b n1 (l++[Dat.list (Sy.freshD (n+1)::av)]) (.slice oB lenB capB) wB _ hp1 (fun c hc=>qzM (HSTu.out.lt c hc) hbB.size) (.inl HSTu.out.own) (HSTu.out.hx.keepB hbB) (HSTu.out.hE.below hbB) k9.out.rep (by have:=HLL.out;simp;omega)).mono ?_);rintro e' wE ⟨rfl,htE⟩) | fail)
        exact ⟨rfl,HSTu.out.bad' ((Turned.of_below hbB).next htE)⟩
       | some (go,ng),hp1,HKg,HNg=>
        go_upto_region 23 with (first | (at_builtin;(refine zaj rfl fun K hK=>zav (S:=(S1 S (w.heap.size+2))) (.tmp 116) (.tmp 117) rfl W8.heap.size (.slice (some ⟨W8.heap.size,0,none⟩) 0 0) _ [] l rfl HG0 rfl HK0 (by have:=HLL.out;simp;omega) fun oA lenA capA wA h9 h10 h11 h12=>hK _ _ ?_)) | (go_at_call 87;refine (zaW (SR (S1 S (w.heap.size+2)) (.slice oA lenA capA)) (Sy.freshD (n+1)::av) u16 wA.heap.size wA (fun c hc=>hc.elim (fun hc=>h9.out.1 c hc) fun hc=>(h9.out.block hc).2) ((Sp.data HA0u.out).shown (fun c o u hc hu=>⟨fun hs=>hs.elim hc fun hs=>by have:=(h9.out.block hs).1;have:=zai hu;omega,((h10.out.cell (p:=⟨c,o,none⟩) (zai hu)).trans ((HO0.out.cell (p:=⟨c,o,none⟩) (zai hu)).trans hu))⟩) (Nat.le_trans HO0.out.size h10.out.size)) qzL).mono ?_;rintro e' wD ⟨vD,rfl,hrD,hbD⟩;obtain ⟨kD,mD,dD,sD,oD,lenD,capD,rfl⟩:=zae hrD.unhide;have HGD:=zh ((h9.out.below hbD).below (Below.one wD (.cells #[.int .i64 kD,.int .i64 mD,.int .i64 dD,.string sD,.slice oD lenD capD] 26)));have HKD:=zh (zax (S:=(SR (S1 S (w.heap.size+2)) (.slice oA lenA capA))) (fun c hc=>hc.elim (fun hc=>qzM (h9.out.1 c hc) hbD.size) fun hc=>qzM (h9.out.block hc).2 hbD.size) hrD)) | (at_builtin;(refine zaj rfl fun K hK=>zav (S:=(S1 S (w.heap.size+2))) (.tmp 118) (.tmp 121) rfl W8.heap.size (.slice oA lenA capA) (.slice (some ⟨wD.heap.size,0,none⟩) 1 1) ([]++l) [Dat.list (Sy.freshD (n+1)::av)] rfl HGD rfl HKD (by have:=HLL.out;simp;omega) fun oB lenB capB wB k9 k10 k11 k12=>hK _ _ ?_)) | (go_at_call 51;(have hbB:Below W8.heap.size W8 wB:=(HO0.out.trans ((h10.out.mono qzL).trans ((hbD.mono (Nat.le_trans HO0.out.size h10.out.size)).trans (((Below.one wD (.cells #[.int .i64 kD,.int .i64 mD,.int .i64 dD,.string sD,.slice oD lenD capD] 26)).mono (Nat.le_trans HO0.out.size (Nat.le_trans h10.out.size hbD.size))).trans (k10.out.mono qzL))))));(refine (zaU HE.out (S1 S (w.heap.size+2)) b n1 (l++[Dat.list (Sy.freshD (n+1)::av)]) (.slice oB lenB capB) wB _ hp1 (fun c hc=>qzM (HSTu.out.lt c hc) hbB.size) (.inl HSTu.out.own) (HSTu.out.hx.keepB hbB) (HSTu.out.hE.below hbB) k9.out.rep (by have:=HLL.out;simp;omega)).mono ?_);rintro e' wE ⟨vE,rfl,hrE,htE,hxE⟩;obtain ⟨kE,mE,dE,sE,oE,lenE,capE,rfl⟩:=zae hrE.unhide) | fail)
        obtain ⟨WG,hWG⟩:∃WG,wE.alloc (.cells #[.int .i64 kE,.int .i64 mE,.int .i64 dE,.string sE,.slice oE lenE capE] 26)=WG:=⟨_,rfl⟩
        obtain ⟨hstG,helG,htG⟩:=HSTu.out.stored ((Turned.of_below hbB).next htE) hxE hrE hWG
        rw[hWG]
        have HSTg:=zh hstG
        have HGg:=zh helG
        have HD0g:=zh (HSTu.out.keep HD0u.out htG)
        have HV0g:=zh (HSTu.out.keep HV0u.out htG)
        have HF0g:=zh (HSTu.out.keep HF0u.out htG)
        have HTg:=zh (HSTu.out.keep HTu.out htG)
        have HOg:=zh (HSTu.out.keep HOu.out htG)
        have HKh:=zh (HKg.out go ng rfl)
        clear hstG helG htG hWG h9 h10 h11 h12 k9 k10 k11 k12 hbB HGD HKD HG0 HK0 hrD hbD hrE htE hxE hp1 HKg HNg hn1 hk
        obtain ⟨p1,hp1⟩:∃p1,r=p1:=⟨_,rfl⟩
        have HP1:=zh (show Sy.loopF E (Sy.freshD (n+1)) (Sy.form Sy.lambdaB [Dat.list dn,Sy.form Sy.ifB [y1,Sy.void,go]]) dv ng=some p1 from by rw[<-hp1];exact HKh.out)
        have jh:=zh (show p1=none->r=none from fun h=>by rw[hp1];exact h)
        have HRF:=zh hp1
        clear hp1
        refine zad (dr:=true) (S:=S) (b:=b) (H:=(w.heap.size+2)) 13 [12] (fun j=>[ng,cnt p1].getD j 0) [.val (.pointer (some ⟨b,0,none⟩)),.dat (some (Sy.freshD (n+1))),.row (some (dn)),.dat ((some (dn)).map Dat.list),.dat (some (y1)),.dat (some (Sy.void)),.dat (some (go)),.row ((some (y1)).bind fun u0_131=>(some (Sy.void)).bind fun u1_131=>(some (go)).bind fun u2_131=>some [u0_131,u1_131,u2_131]),.dat (((some (y1)).bind fun u0_131=>(some (Sy.void)).bind fun u1_131=>(some (go)).bind fun u2_131=>some [u0_131,u1_131,u2_131]).map (Sy.form ⟨#[105,102]⟩)),.row (((some (dn)).map Dat.list).bind fun u0_133=>(((some (y1)).bind fun u0_131=>(some (Sy.void)).bind fun u1_131=>(some (go)).bind fun u2_131=>some [u0_131,u1_131,u2_131]).map (Sy.form ⟨#[105,102]⟩)).bind fun u1_133=>some [u0_133,u1_133]),.dat ((((some (dn)).map Dat.list).bind fun u0_133=>(((some (y1)).bind fun u0_131=>(some (Sy.void)).bind fun u1_131=>(some (go)).bind fun u2_131=>some [u0_131,u1_131,u2_131]).map (Sy.form ⟨#[105,102]⟩)).bind fun u1_133=>some [u0_133,u1_133]).map (Sy.form ⟨#[108,97,109,98,100,97]⟩)),.row (some (dv)),.dat (p1.map (·.1))] HSTg.out (by show zB _ _ 13 137=true;kernel_rfl) (by decide) (by decide) (by kernel_rfl) ?hops ?hcall ?hend
        case hops=>
         intro i o8 hi hip ho a8 w8 hdf jd ht8 jb ja
         match i,hi,hip with
         | 0,_,_=>cases ho;exact zac rfl (Sp.at ja 0 (by kernel_rfl) (rfl) (.inl HSTg.out.own) ht8)
         | 1,_,_=>cases ho;exact zal rfl (Sp.at ja 13 (by kernel_rfl) (HF0g.out) (.inl HSTg.out.own) ht8)
         | 2,_,_=>cases ho;exact zac rfl (Sp.at ja 14 (by kernel_rfl) (HD0g.out) (.inl HSTg.out.own) ht8)
         | 3,_,_=>cases ho;exact zcc rfl (Sp.dep jb 2 126 (by kernel_rfl)) jd
         | 4,_,_=>cases ho;exact zal rfl (Sp.at ja 21 (by kernel_rfl) (HTg.out) (.inl HSTg.out.own) ht8)
         | 5,_,_=>cases ho;exact zal rfl (Sp.at ja 22 (by kernel_rfl) (HOg.out) (.inl HSTg.out.own) ht8)
         | 6,_,_=>cases ho;exact zal rfl (Sp.at ja 23 (by kernel_rfl) (HGg.out) (.inl HSTg.out.own) ht8)
         | 7,_,_=>cases ho;exact zbX rfl (Sp.dep jb 4 128 (by kernel_rfl)) (Sp.dep jb 5 129 (by kernel_rfl)) (Sp.dep jb 6 130 (by kernel_rfl)) jd
         | 8,_,_=>cases ho;exact za9 rfl (Sp.dep jb 7 131 (by kernel_rfl)) (by decide) (rowlen3) jd
         | 9,_,_=>cases ho;exact zdp rfl (Sp.dep jb 3 127 (by kernel_rfl)) (Sp.dep jb 8 132 (by kernel_rfl)) jd
         | 10,_,_=>cases ho;exact za9 rfl (Sp.dep jb 9 133 (by kernel_rfl)) (by decide) (rowlen2) jd
         | 11,_,_=>cases ho;exact zac rfl (Sp.at ja 15 (by kernel_rfl) (HV0g.out) (.inl HSTg.out.own) ht8)
         | 12,_,h=>exact absurd (by decide) h
         | i+13,hi,_=>exact absurd hi (by omega)
        case hcall=>
         intro j i o8 hj ho a8 w8 hdf jc ht8 jb jg ja
         match j,hj with
         | 0,hj=>
          cases hj;cases ho
          have hv0:a8.tmps.getD 124 undef=.pointer (some ⟨b,0,none⟩):=(Sp.dep jb 0 124 (by kernel_rfl))
          refine zaI (p:=p1) (vals:=#[.pointer (some ⟨b,0,none⟩),a8.tmps.getD 125 undef,a8.tmps.getD 134 undef,a8.tmps.getD 135 undef]) rfl (by simp only[List.map_toArray,List.map_cons,List.map_nil];rw[<-hv0];rfl) (fun _ _=>rfl) (zdO HE.out (S1 S (w.heap.size+2)) b _ (Sy.freshD (n+1)) (Sy.form Sy.lambdaB [Dat.list dn,Sy.form Sy.ifB [y1,Sy.void,go]]) _ _ dv _ w8 p1 HP1.out jc.lt (.inl jc.own) jc.hx jc.hE (Sp.datum (Sp.dep jb 1 125 (by kernel_rfl))) (Sp.datum (x:=Sy.form Sy.lambdaB [Dat.list dn,Sy.form Sy.ifB [y1,Sy.void,go]]) (Sp.dep jb 10 134 (by kernel_rfl))) (Sp.data (Sp.dep jb 11 135 (by kernel_rfl))) HLDV.out) fun hp w9 ht9=>?_
          have hrn:=jh.out hp
          subst hrn
          exact ⟨hdf,jc.bad' ht9⟩
         | _+1,hj=>simp at hj
        case hend=>
         intro a8 w8 hdf hsz jc ht8 hval ja
         refine fin_s (r:=r) jc (hval 12 _ 136 (by omega) rfl rfl) (fun x8 hx8=>?_) ((ja.at 8 (by kernel_rfl)).trans rfl) hdf rfl results150 fun w9 h9=>?_
         ·clear hval ja hdf hsz jc ht8
          rcases p1 with _ | ⟨z9,n9⟩
          ·simp at hx8
          cases hx8
          exact HRF.out
         ·go_wp2_with fail
      | e1::es,HE0u,HE0x,HLE2,HR4=>
       have hg1a:decide ((len2:Int) > 1)=true:=by have:=HLE2.out;simp only[qzN] at this;simp;omega
       have hg1b:1<len2:=by have:=HLE2.out;simp only[qzN] at this;omega
       have hg1c:(1:Int)<len2:=by omega
       obtain ⟨p1,hp1,hn1,hk⟩:=Sy.bnd_split (show Sy.bnd (Sy.begin E (e1::es)) _ n1=some r from HR4.out)
       have HP1:=zh hp1
       have jh:=zh hn1
       have HK:=zh hk
       have HLES:=zh (show (e1::es).length<=100000 from by have h1:=zaY t;have h2:=(Sy.small_iff.1 HST0.out).2;have h3:=HL2.out;have h4:=HLE2.out;omega)
       have HSP:=zh (show XR (S1 S (w.heap.size+2)) b G22 n1 W8 W8 from ⟨HLG.out,.inl HSTu.out.own,Turned.refl _ _,HSTu.out.hx,HSTu.out.hE⟩)
       clear hp1 hn1 hk
       go_upto_region 21 with fail
       refine zhv (dr:=false) (S:=(S1 S (w.heap.size+2))) (b:=b) (H:=G22) 4 [3] (fun j=>[n1,cnt p1].getD j 0) [.val (.pointer (some ⟨b,0,none⟩)),.row (some (e0::e1::es)),.row (some (e1::es)),.dat (p1.map (·.1))] HSP.out (by show zB _ _ 4 137=true;kernel_rfl) (by decide) (by decide) (by kernel_rfl) ?hops ?hcall ?hend
       case hops=>
        intro i o8 hi hip ho a8 w8 hdf jd ht8 jb ja
        match i,hi,hip with
        | 0,_,_=>cases ho;exact zac rfl (Sp.at ja 0 (by kernel_rfl) (rfl) (.inl HSP.out.own) ht8)
        | 1,_,_=>cases ho;exact zac rfl (Sp.at ja 11 (by kernel_rfl) (HE0x.out) (.inl HSP.out.own) ht8)
        | 2,_,_=>cases ho;exact zaD (k:=1) rfl (Sp.dep jb 1 112 (by kernel_rfl)) (by decide) (by simp) (by decide)
        | 3,_,h=>exact absurd (by decide) h
        | i+4,hi,_=>exact absurd hi (by omega)
       case hcall=>
        intro j i o8 hj ho a8 w8 hdf jc ht8 jb jg ja
        match j,hj with
        | 0,hj=>
         cases hj;cases ho
         have hv0:a8.tmps.getD 111 undef=.pointer (some ⟨b,0,none⟩):=(Sp.dep jb 0 111 (by kernel_rfl))
         refine zaI (p:=p1) (vals:=#[.pointer (some ⟨b,0,none⟩),a8.tmps.getD 113 undef]) rfl (by simp only[List.map_toArray,List.map_cons,List.map_nil];rw[<-hv0];rfl) (fun _ _=>rfl) (zaU HE.out (S1 (S1 S (w.heap.size+2)) G22) b _ (e1::es) _ w8 p1 HP1.out jc.lt (.inl jc.own) jc.hx jc.hE (Sp.data (Sp.dep jb 2 113 (by kernel_rfl))) HLES.out) fun hp w9 ht9=>?_
         have hrn:=jh.out hp
         subst hrn
         exact ⟨hdf,HSTu.out.bad' (jc.ht.next ht9)⟩
        | _+1,hj=>simp at hj
       case hend=>
        intro a8 w8 hdf hsz jc ht8 hval ja
        obtain ⟨y2,n2,hq1,hr8⟩:=Sp.got (hval 3 _ 114 (by omega) rfl rfl)
        subst hq1
        obtain ⟨f8,ha,hf8⟩:=zaq [false,false,false,false,false,false,false,false,false,false,false,false,false,false,false,false,false,false,false,false,false,false,false,false,false,false,false,false,false,false,false,false,false,false,false,false,false,false,false,false,false,false,false,false,false,false,false,false,false,false,false,false,false,false,false,false,false,false,false,false,false,false,false,false,false,false,false,false,false,false,false,false,false,false,false,false,false,false,false,false,false,false,false,false,false,false,false,false,false,false,false,false,false,false,false,false,false,false,false,false,false,false,false,false,false,false,false,false,false,false,false,true,true,true,true] (by kernel_rfl) hdf hsz ja
        rw[<-hf8] at hr8
        subst ha
        obtain ⟨k8,m8,d8,s8,o8,len8,cap8,h8⟩:=zae hr8.unhide
        rw[h8] at hr8
        obtain ⟨kv,nv,dv5,sv,ov,lnv,cpv,hbv⟩:=HB22.out
        have hne:G22≠b:=fun h=>HNG22.out (by rw[h];exact .inl HSTu.out.own)
        replace hbv:=(ht8.block G22 hbv.lt hne).trans hbv
        replace hbv:=(show Box5 w8 G22 _ _ _ _ _ _ from hbv)
        obtain ⟨g0,g1,g2,g3,g4⟩:=hbv.cells
        obtain ⟨z0,z1,z2,z3,z4⟩:=hbv.free
        have pl:=hbv.lt
        obtain ⟨W9,hW9⟩:∃W9,set5 w8 G22 (.int .i64 k8) (.int .i64 m8) (.int .i64 d8) (.string s8) (.slice o8 len8 cap8)=W9:=⟨_,rfl⟩
        have hgw:w.heap.size+2<G22:=HGW.out
        have htt:Turned (fun c=>c=b) w W9:=by rw[<-hW9];exact (HSTu.out.ht.next ht8).seq (zag _ _ _ _ _ _ _ _ (by omega))
        have hxp:XP W9 b n2:=by rw[<-hW9];exact (zam w8 _ _ _ _ _ _ (Ne.symm hne)).trans jc.hx
        have hst9:XS S b (w.heap.size+2) n2 w W9:=⟨HSTu.out.hS,HSTu.out.own,HSTu.out.le,htt,hxp,Env.turned HV0e.out HX0e.out htt,by rw[<-hW9];exact (zam w8 _ _ _ _ _ _ (by omega)).trans ((HSTu.out.next ht8 jc.hx).box)⟩
        have hb9:Box5 W9 G22 26 (.int .i64 k8) (.int .i64 m8) (.int .i64 d8) (.string s8) (.slice o8 len8 cap8):=by rw[<-hW9];exact hbv.set (.int .i64 k8) (.int .i64 m8) (.int .i64 d8) (.string s8) (.slice o8 len8 cap8)
        have hsh:Shown w8 (S1 (S1 S (w.heap.size+2)) G22) W9 (S1 S (w.heap.size+2)):=by rw[<-hW9];exact (Shown.five w8 (S:=(S1 (S1 S (w.heap.size+2)) G22)) (.inr rfl) (.int .i64 k8) (.int .i64 m8) (.int .i64 d8) (.string s8) (.slice o8 len8 cap8)).trans (Shown.less _ fun _ _ h=>.inl h)
        have hz9:w8.heap.size<=W9.heap.size:=by rw[<-hW9,zan];exact qzL
        have HOv:=zh (show (Sp.elm (some y2)).holds (S1 S (w.heap.size+2)) (.pointer (some ⟨G22,0,none⟩)) W9 from Sp.box hb9 (hr8.shown hsh hz9) HNG22.out)
        have HSTv:=zh hst9
        have HD0v:=zh (Sp.shown (Sp.turned HD0x.out (.inl (.inl HSTu.out.own)) ht8) hsh hz9)
        have HV0v:=zh (Sp.shown (Sp.turned HV0x.out (.inl (.inl HSTu.out.own)) ht8) hsh hz9)
        have HA0v:=zh (Sp.shown (Sp.turned HA0x.out (.inl (.inl HSTu.out.own)) ht8) hsh hz9)
        have HF0v:=zh (Sp.shown (Sp.turned HF0x.out (.inl (.inl HSTu.out.own)) ht8) hsh hz9)
        have HL0v:=zh (Sp.shown (Sp.turned HL0x.out (.inl (.inl HSTu.out.own)) ht8) hsh hz9)
        have HTv:=zh (Sp.shown (Sp.turned HTx.out (.inl (.inl HSTu.out.own)) ht8) hsh hz9)
        have HR5:=zh (HK.out y2 n2 rfl)
        have HW9:=zh hW9
        clear hval ja hf8 hdf hsz hr8 jc ht8 htt hxp hst9 hb9 hsh hz9 hbv hW9 hne hgw HP1 jh HK
        simp only[spellH,List.drop_succ_cons,List.drop_zero,h8]
        go_upto_region 22 with fail
        show Code.wp _ _ _ _ (set5 w8 G22 (.int .i64 k8) (.int .i64 m8) (.int .i64 d8) (.string s8) (.slice o8 len8 cap8))
        rw[HW9.out]
        clear HW9 g0 g1 g2 g3 g4 z0 z1 z2 z3 z4 pl
        obtain ⟨p1,hp1,hn1,hk⟩:=Sy.bnd_split (show Sy.bnd (Sy.begin E (l++[Dat.list (Sy.freshD (n+1)::av)])) _ n2=some r from HR5.out)
        have HKg:=zh hk
        have HNg:=zh hn1
        have hone0:Below W9.heap.size W9 (W9.alloc (.cells #[] 26)):=Below.one _ _
        have HG0:=zh (GrownS.empty (W:=W9) HSTv.out.lt)
        have HK0:=zh (show RepS (hide (W9.alloc (.cells #[] 26)) (SR (S1 S (w.heap.size+2)) (.slice (some ⟨W9.heap.size,0,none⟩) 0 0))) (W9.alloc (.cells #[] 26)).heap.size l _ from (Sp.data HL0v.out).shown (fun c o u hc hu=>by
         have hcl:=zai hu
         refine ⟨fun hs=>hs.elim hc fun hs=>?_,(hone0.cell (p:=⟨c,o,none⟩) hcl).trans hu⟩
         simp only[Value.ownBlock,Option.some.injEq] at hs
         omega) hone0.size)
        have HO0:=zh hone0
        clear hone0
        match p1,hp1,HKg,HNg with
        | none,hp1,HKg,HNg=>
         have hrn:=HNg.out rfl
         subst hrn
         go_wp2_with (first | (at_builtin;(refine zaj rfl fun K hK=>zav (S:=(S1 S (w.heap.size+2))) (.tmp 116) (.tmp 117) rfl W9.heap.size (.slice (some ⟨W9.heap.size,0,none⟩) 0 0) _ [] l rfl HG0 rfl HK0 (by have:=HLL.out;simp;omega) fun oA lenA capA wA h9 h10 h11 h12=>hK _ _ ?_)) | (go_at_call 87;refine (zaW (SR (S1 S (w.heap.size+2)) (.slice oA lenA capA)) (Sy.freshD (n+1)::av) u16 wA.heap.size wA (fun c hc=>hc.elim (fun hc=>h9.out.1 c hc) fun hc=>(h9.out.block hc).2) ((Sp.data HA0v.out).shown (fun c o u hc hu=>⟨fun hs=>hs.elim hc fun hs=>by have:=(h9.out.block hs).1;have:=zai hu;omega,((h10.out.cell (p:=⟨c,o,none⟩) (zai hu)).trans ((HO0.out.cell (p:=⟨c,o,none⟩) (zai hu)).trans hu))⟩) (Nat.le_trans HO0.out.size h10.out.size)) qzL).mono ?_;rintro e' wD ⟨vD,rfl,hrD,hbD⟩;obtain ⟨kD,mD,dD,sD,oD,lenD,capD,rfl⟩:=zae hrD.unhide;have HGD:=zh ((h9.out.below hbD).below (Below.one wD (.cells #[.int .i64 kD,.int .i64 mD,.int .i64 dD,.string sD,.slice oD lenD capD] 26)));have HKD:=zh (zax (S:=(SR (S1 S (w.heap.size+2)) (.slice oA lenA capA))) (fun c hc=>hc.elim (fun hc=>qzM (h9.out.1 c hc) hbD.size) fun hc=>qzM (h9.out.block hc).2 hbD.size) hrD)) | (at_builtin;(refine zaj rfl fun K hK=>zav (S:=(S1 S (w.heap.size+2))) (.tmp 118) (.tmp 121) rfl W9.heap.size (.slice oA lenA capA) (.slice (some ⟨wD.heap.size,0,none⟩) 1 1) ([]++l) [Dat.list (Sy.freshD (n+1)::av)] rfl HGD rfl HKD (by have:=HLL.out;simp;omega) fun oB lenB capB wB k9 k10 k11 k12=>hK _ _ ?_)) | (go_at_call 51;(have hbB:Below W9.heap.size W9 wB:=(HO0.out.trans ((h10.out.mono qzL).trans ((hbD.mono (Nat.le_trans HO0.out.size h10.out.size)).trans (((Below.one wD (.cells #[.int .i64 kD,.int .i64 mD,.int .i64 dD,.string sD,.slice oD lenD capD] 26)).mono (Nat.le_trans HO0.out.size (Nat.le_trans h10.out.size hbD.size))).trans (k10.out.mono qzL))))));(refine (zaU HE.out (S1 S (w.heap.size+2)) b n2 (l++[Dat.list (Sy.freshD (n+1)::av)]) (.slice oB lenB capB) wB _ hp1 (fun c hc=>qzM (HSTv.out.lt c hc) hbB.size) (.inl HSTv.out.own) (HSTv.out.hx.keepB hbB) (HSTv.out.hE.below hbB) k9.out.rep (by have:=HLL.out;simp;omega)).mono ?_);rintro e' wE ⟨rfl,htE⟩) | fail)
         exact ⟨rfl,HSTv.out.bad' ((Turned.of_below hbB).next htE)⟩
        | some (go,ng),hp1,HKg,HNg=>
         go_upto_region 23 with (first | (at_builtin;(refine zaj rfl fun K hK=>zav (S:=(S1 S (w.heap.size+2))) (.tmp 116) (.tmp 117) rfl W9.heap.size (.slice (some ⟨W9.heap.size,0,none⟩) 0 0) _ [] l rfl HG0 rfl HK0 (by have:=HLL.out;simp;omega) fun oA lenA capA wA h9 h10 h11 h12=>hK _ _ ?_)) | (go_at_call 87;refine (zaW (SR (S1 S (w.heap.size+2)) (.slice oA lenA capA)) (Sy.freshD (n+1)::av) u16 wA.heap.size wA (fun c hc=>hc.elim (fun hc=>h9.out.1 c hc) fun hc=>(h9.out.block hc).2) ((Sp.data HA0v.out).shown (fun c o u hc hu=>⟨fun hs=>hs.elim hc fun hs=>by have:=(h9.out.block hs).1;have:=zai hu;omega,((h10.out.cell (p:=⟨c,o,none⟩) (zai hu)).trans ((HO0.out.cell (p:=⟨c,o,none⟩) (zai hu)).trans hu))⟩) (Nat.le_trans HO0.out.size h10.out.size)) qzL).mono ?_;rintro e' wD ⟨vD,rfl,hrD,hbD⟩;obtain ⟨kD,mD,dD,sD,oD,lenD,capD,rfl⟩:=zae hrD.unhide;have HGD:=zh ((h9.out.below hbD).below (Below.one wD (.cells #[.int .i64 kD,.int .i64 mD,.int .i64 dD,.string sD,.slice oD lenD capD] 26)));have HKD:=zh (zax (S:=(SR (S1 S (w.heap.size+2)) (.slice oA lenA capA))) (fun c hc=>hc.elim (fun hc=>qzM (h9.out.1 c hc) hbD.size) fun hc=>qzM (h9.out.block hc).2 hbD.size) hrD)) | (at_builtin;(refine zaj rfl fun K hK=>zav (S:=(S1 S (w.heap.size+2))) (.tmp 118) (.tmp 121) rfl W9.heap.size (.slice oA lenA capA) (.slice (some ⟨wD.heap.size,0,none⟩) 1 1) ([]++l) [Dat.list (Sy.freshD (n+1)::av)] rfl HGD rfl HKD (by have:=HLL.out;simp;omega) fun oB lenB capB wB k9 k10 k11 k12=>hK _ _ ?_)) | (go_at_call 51;(have hbB:Below W9.heap.size W9 wB:=(HO0.out.trans ((h10.out.mono qzL).trans ((hbD.mono (Nat.le_trans HO0.out.size h10.out.size)).trans (((Below.one wD (.cells #[.int .i64 kD,.int .i64 mD,.int .i64 dD,.string sD,.slice oD lenD capD] 26)).mono (Nat.le_trans HO0.out.size (Nat.le_trans h10.out.size hbD.size))).trans (k10.out.mono qzL))))));(refine (zaU HE.out (S1 S (w.heap.size+2)) b n2 (l++[Dat.list (Sy.freshD (n+1)::av)]) (.slice oB lenB capB) wB _ hp1 (fun c hc=>qzM (HSTv.out.lt c hc) hbB.size) (.inl HSTv.out.own) (HSTv.out.hx.keepB hbB) (HSTv.out.hE.below hbB) k9.out.rep (by have:=HLL.out;simp;omega)).mono ?_);rintro e' wE ⟨vE,rfl,hrE,htE,hxE⟩;obtain ⟨kE,mE,dE,sE,oE,lenE,capE,rfl⟩:=zae hrE.unhide) | fail)
         obtain ⟨WG,hWG⟩:∃WG,wE.alloc (.cells #[.int .i64 kE,.int .i64 mE,.int .i64 dE,.string sE,.slice oE lenE capE] 26)=WG:=⟨_,rfl⟩
         obtain ⟨hstG,helG,htG⟩:=HSTv.out.stored ((Turned.of_below hbB).next htE) hxE hrE hWG
         rw[hWG]
         have HSTg:=zh hstG
         have HGg:=zh helG
         have HD0g:=zh (HSTv.out.keep HD0v.out htG)
         have HV0g:=zh (HSTv.out.keep HV0v.out htG)
         have HF0g:=zh (HSTv.out.keep HF0v.out htG)
         have HTg:=zh (HSTv.out.keep HTv.out htG)
         have HOg:=zh (HSTv.out.keep HOv.out htG)
         have HKh:=zh (HKg.out go ng rfl)
         clear hstG helG htG hWG h9 h10 h11 h12 k9 k10 k11 k12 hbB HGD HKD HG0 HK0 hrD hbD hrE htE hxE hp1 HKg HNg hn1 hk
         obtain ⟨p1,hp1⟩:∃p1,r=p1:=⟨_,rfl⟩
         have HP1:=zh (show Sy.loopF E (Sy.freshD (n+1)) (Sy.form Sy.lambdaB [Dat.list dn,Sy.form Sy.ifB [y1,y2,go]]) dv ng=some p1 from by rw[<-hp1];exact HKh.out)
         have jh:=zh (show p1=none->r=none from fun h=>by rw[hp1];exact h)
         have HRF:=zh hp1
         clear hp1
         refine zad (dr:=true) (S:=S) (b:=b) (H:=(w.heap.size+2)) 13 [12] (fun j=>[ng,cnt p1].getD j 0) [.val (.pointer (some ⟨b,0,none⟩)),.dat (some (Sy.freshD (n+1))),.row (some (dn)),.dat ((some (dn)).map Dat.list),.dat (some (y1)),.dat (some (y2)),.dat (some (go)),.row ((some (y1)).bind fun u0_131=>(some (y2)).bind fun u1_131=>(some (go)).bind fun u2_131=>some [u0_131,u1_131,u2_131]),.dat (((some (y1)).bind fun u0_131=>(some (y2)).bind fun u1_131=>(some (go)).bind fun u2_131=>some [u0_131,u1_131,u2_131]).map (Sy.form ⟨#[105,102]⟩)),.row (((some (dn)).map Dat.list).bind fun u0_133=>(((some (y1)).bind fun u0_131=>(some (y2)).bind fun u1_131=>(some (go)).bind fun u2_131=>some [u0_131,u1_131,u2_131]).map (Sy.form ⟨#[105,102]⟩)).bind fun u1_133=>some [u0_133,u1_133]),.dat ((((some (dn)).map Dat.list).bind fun u0_133=>(((some (y1)).bind fun u0_131=>(some (y2)).bind fun u1_131=>(some (go)).bind fun u2_131=>some [u0_131,u1_131,u2_131]).map (Sy.form ⟨#[105,102]⟩)).bind fun u1_133=>some [u0_133,u1_133]).map (Sy.form ⟨#[108,97,109,98,100,97]⟩)),.row (some (dv)),.dat (p1.map (·.1))] HSTg.out (by show zB _ _ 13 137=true;kernel_rfl) (by decide) (by decide) (by kernel_rfl) ?hops ?hcall ?hend
         case hops=>
          intro i o8 hi hip ho a8 w8 hdf jd ht8 jb ja
          match i,hi,hip with
          | 0,_,_=>cases ho;exact zac rfl (Sp.at ja 0 (by kernel_rfl) (rfl) (.inl HSTg.out.own) ht8)
          | 1,_,_=>cases ho;exact zal rfl (Sp.at ja 13 (by kernel_rfl) (HF0g.out) (.inl HSTg.out.own) ht8)
          | 2,_,_=>cases ho;exact zac rfl (Sp.at ja 14 (by kernel_rfl) (HD0g.out) (.inl HSTg.out.own) ht8)
          | 3,_,_=>cases ho;exact zcc rfl (Sp.dep jb 2 126 (by kernel_rfl)) jd
          | 4,_,_=>cases ho;exact zal rfl (Sp.at ja 21 (by kernel_rfl) (HTg.out) (.inl HSTg.out.own) ht8)
          | 5,_,_=>cases ho;exact zal rfl (Sp.at ja 22 (by kernel_rfl) (HOg.out) (.inl HSTg.out.own) ht8)
          | 6,_,_=>cases ho;exact zal rfl (Sp.at ja 23 (by kernel_rfl) (HGg.out) (.inl HSTg.out.own) ht8)
          | 7,_,_=>cases ho;exact zbX rfl (Sp.dep jb 4 128 (by kernel_rfl)) (Sp.dep jb 5 129 (by kernel_rfl)) (Sp.dep jb 6 130 (by kernel_rfl)) jd
          | 8,_,_=>cases ho;exact za9 rfl (Sp.dep jb 7 131 (by kernel_rfl)) (by decide) (rowlen3) jd
          | 9,_,_=>cases ho;exact zdp rfl (Sp.dep jb 3 127 (by kernel_rfl)) (Sp.dep jb 8 132 (by kernel_rfl)) jd
          | 10,_,_=>cases ho;exact za9 rfl (Sp.dep jb 9 133 (by kernel_rfl)) (by decide) (rowlen2) jd
          | 11,_,_=>cases ho;exact zac rfl (Sp.at ja 15 (by kernel_rfl) (HV0g.out) (.inl HSTg.out.own) ht8)
          | 12,_,h=>exact absurd (by decide) h
          | i+13,hi,_=>exact absurd hi (by omega)
         case hcall=>
          intro j i o8 hj ho a8 w8 hdf jc ht8 jb jg ja
          match j,hj with
          | 0,hj=>
           cases hj;cases ho
           have hv0:a8.tmps.getD 124 undef=.pointer (some ⟨b,0,none⟩):=(Sp.dep jb 0 124 (by kernel_rfl))
           refine zaI (p:=p1) (vals:=#[.pointer (some ⟨b,0,none⟩),a8.tmps.getD 125 undef,a8.tmps.getD 134 undef,a8.tmps.getD 135 undef]) rfl (by simp only[List.map_toArray,List.map_cons,List.map_nil];rw[<-hv0];rfl) (fun _ _=>rfl) (zdO HE.out (S1 S (w.heap.size+2)) b _ (Sy.freshD (n+1)) (Sy.form Sy.lambdaB [Dat.list dn,Sy.form Sy.ifB [y1,y2,go]]) _ _ dv _ w8 p1 HP1.out jc.lt (.inl jc.own) jc.hx jc.hE (Sp.datum (Sp.dep jb 1 125 (by kernel_rfl))) (Sp.datum (x:=Sy.form Sy.lambdaB [Dat.list dn,Sy.form Sy.ifB [y1,y2,go]]) (Sp.dep jb 10 134 (by kernel_rfl))) (Sp.data (Sp.dep jb 11 135 (by kernel_rfl))) HLDV.out) fun hp w9 ht9=>?_
           have hrn:=jh.out hp
           subst hrn
           exact ⟨hdf,jc.bad' ht9⟩
          | _+1,hj=>simp at hj
         case hend=>
          intro a8 w8 hdf hsz jc ht8 hval ja
          refine fin_s (r:=r) jc (hval 12 _ 136 (by omega) rfl rfl) (fun x8 hx8=>?_) ((ja.at 8 (by kernel_rfl)).trans rfl) hdf rfl results150 fun w9 h9=>?_
          ·clear hval ja hdf hsz jc ht8
           rcases p1 with _ | ⟨z9,n9⟩
           ·simp at hx8
           cases hx8
           exact HRF.out
          ·go_wp2_with fail
end
end Go.Proofs.YtnbjhmafnigefaaGreatDoor
