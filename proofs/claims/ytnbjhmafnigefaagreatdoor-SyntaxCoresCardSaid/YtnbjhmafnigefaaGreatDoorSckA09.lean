/- .. -/
import Derived.Test.YtnbjhmafnigefaaGreatDoorSckA08
open Go.Proofs.Tryz
set_option maxRecDepth 100000
set_option maxHeartbeats 16000000
namespace Go.Proofs.YtnbjhmafnigefaaGreatDoor
section
open Go Go.RowKit
namespace Sy
def pairsL (l m:List Dat):List Dat:=List.zipWith (fun a b=>Dat.list [a,b]) l m
def pairs (l m:List Dat):Dat:=Dat.list (pairsL l m)
theorem pairsL_snoc {l m:List Dat} {i:Nat} {a b:Dat} (ha:l[i]?=some a) (hb:m[i]?=some b):pairsL (l.take (i+1)) (m.take (i+1))=pairsL (l.take i) (m.take i)++[Dat.list [a,b]]:=by
 obtain ⟨h1,rfl⟩:=List.getElem?_eq_some_iff.1 ha
 obtain ⟨h2,rfl⟩:=List.getElem?_eq_some_iff.1 hb
 unfold pairsL
 rw[List.take_succ_eq_append_getElem h1,List.take_succ_eq_append_getElem h2,List.zipWith_append (by simp;omega)]
 rfl
end Sy
theorem zbs {W:World} {S:Nat->Prop} {l:List Dat} {cs:List Value} {n:Nat} (hn:n=l.length) (hm:n<=1000) (hS:∀b,S b->b<W.heap.size) (h:CellsD (hide W S) W.heap.size l cs):RepS (hide (W.alloc (.cells cs.toArray 26)) S) (W.alloc (.cells cs.toArray 26)).heap.size l (.slice (some ⟨W.heap.size,0,none⟩) n n):=by
 have hb:Below W.heap.size W (W.alloc (.cells cs.toArray 26)):=Below.one _ _
 have h1:CellsD (hide (W.alloc (.cells cs.toArray 26)) S) (hide (W.alloc (.cells cs.toArray 26)) S).heap.size l cs:=h.shown (Shown.below hb) (by rw[za7];exact hb.size)
 have h2:=zi5 (W:=hide (W.alloc (.cells cs.toArray 26)) S) (b:=W.heap.size) (n:=n) hn hm (by rw[zdX (fun h=>by have:=hS _ h;omega)];exact World.alloc_heap_new W _) h1
 rwa[za7] at h2
section
variable {P : Program} {ops : Array Oper} {o : Oper} {a : Act} {w : World}
theorem zbZ {K:Act->World->Prop} {f:FuncId} {s:Nat} {ts:Array TypeId} {x:Value} {R:Ending->World->Prop} (hg:o.guard=none) (ho:o.op=.call { callee:=.value (.func f),args:=#[.tmp s],argTypes:=ts }) (hx:a.tmps.getD s undef=x) (hf:∀args w,(callFunc f args).run P w=.ok (.enter f args) w)
  (hc:Calls P f #[x] w R) (hR:∀e w',R e w'->∃v,e=.returned v∧K (a.put o.dst v) w'):wpList P ops (fun e a' w'=>e=.normal∧K a' w') [o] a w:=by
 refine wpList_plain hg fun K' hK'=>?_
 have hev:a.eval (.tmp s)=x:=hx
 have hef:a.eval (.func f)=.func (.func f) #[] #[]:=rfl
 have hrun:(execOp a.eval o).run P w=.ok (.enter f #[x]) w:=by
  simp[execOp,ho,resolve,Deferred.ofValue,invoke,hev,hef,hf]
 unfold Oper.wp
 rw[hrun]
 simp only[Oper.upon]
 refine hc.mono fun e w' h=>?_
 obtain ⟨v,rfl,hv⟩:=hR e w' h
 exact hK' _ _ ⟨rfl,hv⟩
theorem zaA {R:Nat->Value->World->Prop} {Ext:World->World->Prop} {i:Nat} {v:Value} {w':World} (hg:o.guard=none) (h:(execOp a.eval o).run P w=.ok (.value v) w') (hv:R i v w') (he:Ext w w'):wpList P ops (StepPost R Ext i o a w) [o] a w:=
 wpList_plain hg fun K hK=>by unfold Oper.wp;rw[h];exact hK _ _ ⟨rfl,v,rfl,hv,he⟩
end
theorem zj6 (w:World) (k n d k' n' d':Int) (s s':ByteArray) (o o':Option Addr) (l c l' c':Nat):(Instr.buildSlice 22 2 #[(0,.agg #[.int .i64 k,.int .i64 n,.int .i64 d,.string s,.slice o l c]),(1,.agg #[.int .i64 k',.int .i64 n',.int .i64 d',.string s',.slice o' l' c'])]).run prog w=.ok (.slice (some ⟨w.heap.size,0,none⟩) 2 2) (w.alloc (.cells #[.int .i64 k,.int .i64 n,.int .i64 d,.string s,.slice o l c,.int .i64 k',.int .i64 n',.int .i64 d',.string s',.slice o' l' c'] 26)):=by go_simp
theorem zd8 {o:Oper} {a:Act} {w:World} {s:Nat} {k n d:Int} {st:ByteArray} {p:Option Addr} {l c:Nat} (ho:o.op=.buildSlice 22 1 #[(0,.tmp s)]) (hx:a.tmps.getD s undef=.agg #[.int .i64 k,.int .i64 n,.int .i64 d,.string st,.slice p l c]):(execOp a.eval o).run prog w=.ok (.value (.slice (some ⟨w.heap.size,0,none⟩) 1 1)) (w.alloc (.cells #[.int .i64 k,.int .i64 n,.int .i64 d,.string st,.slice p l c] 26)):=by
 have hmap:(#[(0,Operand.tmp s)]:Array (Nat × Operand)).map (fun (i,x)=>(i,a.eval x))=#[(0,.agg #[.int .i64 k,.int .i64 n,.int .i64 d,.string st,.slice p l c])]:=by
  simp only[List.map_toArray,List.map_cons,List.map_nil]
  rw[<-hx];rfl
 unfold execOp
 rw[ho]
 show (do let r <-Instr.buildSlice 22 1 ((#[(0,Operand.tmp s)]:Array (Nat × Operand)).map (fun (i,x)=>(i,a.eval x)));pure (Next.value r):Sem Next).run prog w=_
 rw[hmap]
 simp only[Sem.run_bind,Sem.run_pure,zhL,Result.andThen_ok]
theorem zcE {o:Oper} {a:Act} {w:World} {s s':Nat} {k n d k' n' d':Int} {st st':ByteArray} {p p':Option Addr} {l c l' c':Nat} (ho:o.op=.buildSlice 22 2 #[(0,.tmp s),(1,.tmp s')]) (hx:a.tmps.getD s undef=.agg #[.int .i64 k,.int .i64 n,.int .i64 d,.string st,.slice p l c]) (hx':a.tmps.getD s' undef=.agg #[.int .i64 k',.int .i64 n',.int .i64 d',.string st',.slice p' l' c']):(execOp a.eval o).run prog w=.ok (.value (.slice (some ⟨w.heap.size,0,none⟩) 2 2)) (w.alloc (.cells #[.int .i64 k,.int .i64 n,.int .i64 d,.string st,.slice p l c,.int .i64 k',.int .i64 n',.int .i64 d',.string st',.slice p' l' c'] 26)):=by
 have hmap:(#[(0,Operand.tmp s),(1,Operand.tmp s')]:Array (Nat × Operand)).map (fun (i,x)=>(i,a.eval x))=#[(0,.agg #[.int .i64 k,.int .i64 n,.int .i64 d,.string st,.slice p l c]),(1,.agg #[.int .i64 k',.int .i64 n',.int .i64 d',.string st',.slice p' l' c'])]:=by
  simp only[List.map_toArray,List.map_cons,List.map_nil]
  rw[<-hx,<-hx'];rfl
 unfold execOp
 rw[ho]
 show (do let r <-Instr.buildSlice 22 2 ((#[(0,Operand.tmp s),(1,Operand.tmp s')]:Array (Nat × Operand)).map (fun (i,x)=>(i,a.eval x)));pure (Next.value r):Sem Next).run prog w=_
 rw[hmap]
 simp only[Sem.run_bind,Sem.run_pure,zj6,Result.andThen_ok]
theorem keepN {W W2:World} {p b off:Nat} (hb:Below p W W2) (hlt:b<p) {c0 c1 c2 c3 c4:Value} (h:W.cell? ⟨b,off,none⟩=some c0∧W.cell? ⟨b,off+1,none⟩=some c1∧W.cell? ⟨b,off+2,none⟩=some c2∧W.cell? ⟨b,off+3,none⟩=some c3∧W.cell? ⟨b,off+4,none⟩=some c4):W2.cell? ⟨b,off,none⟩=some c0∧W2.cell? ⟨b,off+1,none⟩=some c1∧W2.cell? ⟨b,off+2,none⟩=some c2∧W2.cell? ⟨b,off+3,none⟩=some c3∧W2.cell? ⟨b,off+4,none⟩=some c4:=by
 have g:∀i,W2.cell? ⟨b,i,none⟩=W.cell? ⟨b,i,none⟩:=fun i=>hb.cell (p:=⟨b,i,none⟩) hlt
 simp only[g]
 exact h
def PaR (S:Nat->Prop) (ov vs pv vx vy:Value) (i:Nat) (x y:Dat) (n:Nat) (v:Value) (W:World):Prop:=match n with
 | 0=>v=ov
 | 1=>v=vx
 | 2=>v=vs
 | 3=>v=.int .i64 i
 | 4=>v=pv
 | 5=>v=vy
 | 6=>RepS (hide W S) W.heap.size [x,y] v
 | 7=>RepD (hide W S) W.heap.size (Dat.list [x,y]) v
 | 8=>RepS (hide W S) W.heap.size [Dat.list [x,y]] v
 | _=>True
theorem zkL {S:Nat->Prop} {ov vs pv vx vy:Value} {i:Nat} {x y:Dat} {m:Nat}:∀n v (A C:World),n<m->PaR S ov vs pv vx vy i x y n v A->Below A.heap.size A C->PaR S ov vs pv vx vy i x y n v C:=by
 intro n v A C _ h hb
 match n,h with
 | 0,h | 1,h | 2,h | 3,h | 4,h | 5,h=>exact h
 | 6,h=>exact RepS.shown h (Shown.below hb) hb.size
 | 7,h=>exact RepD.shown h (Shown.below hb) hb.size
 | 8,h=>exact RepS.shown h (Shown.below hb) hb.size
 | n+9,_=>exact trivial
def PaI (S:Nat->Prop) (nl vl:List Dat) (w:World) (g:Nat) (ov iv:Value) (wr:World):Prop:=Hid (∃(i:Nat),iv=.int .i64 i∧g=nl.length-i∧i<=nl.length∧GrownS wr (S1 S w.heap.size) (w.heap.size+1) (Sy.pairsL (nl.take i) (vl.take i)) ov∧Box5 wr w.heap.size 26 (.int .i64 0) (.int .i64 0) (.int .i64 0) (.string ⟨#[]⟩) (.slice none 0 0)∧Below w.heap.size w wr)
theorem ziA (S:Nat->Prop) (nl vl:List Dat) (ns vs:Value) (B:Nat) (w:World) (hS:∀b,S b->b<w.heap.size) (hn:RepS (hide w S) B nl ns) (hv:RepS (hide w S) B vl vs) (hB:B<=w.heap.size) (jk:nl.length=vl.length) (hl:nl.length<=100000) :
  Calls prog 53 #[ns,vs] w (DatPostH S (Sy.pairs nl vl) w):=by
 obtain ⟨on,lenn,capn,rfl,hln,hcn,hmn,hrn⟩:=id hn
 obtain ⟨ov,lenv,capv,rfl,hlv,hcv,hmv,hrv⟩:=id hv
 obtain ⟨W0,hW0⟩:∃W0,w.alloc (.cells #[.int .i64 0,.int .i64 0,.int .i64 0,.string ⟨#[]⟩,.slice none 0 0] 26)=W0:=⟨_,rfl⟩
 have hb:Box5 W0 w.heap.size 26 (.int .i64 0) (.int .i64 0) (.int .i64 0) (.string ⟨#[]⟩) (.slice none 0 0):=by rw[<-hW0];exact Box5.new w _ _ _ _ _ _
 have hbl:Below w.heap.size w W0:=by rw[<-hW0];exact Below.one _ _
 have hsz:W0.heap.size=w.heap.size+1:=by rw[<-hW0];simp
 have HI0:=zh (show PaI S nl vl w nl.length (.slice none 0 0) (.int .i64 0) W0 from
  zh ⟨0,rfl,rfl,Nat.zero_le _,GrownS.nil _ (fun b h=>by rw[hsz];exact s1_lt hS (Nat.lt_succ_self _) b h) (by omega),hb,hbl⟩)
 have HN:=zh hn
 have HV:=zh hv
 have HLN:=zh hln
 have HLV:=zh (hlv.trans jk.symm)
 have HS:=zh hS
 have HL:=zh hl
 have HW0:=zh hW0
 have hlb:lenn<=100000:=by omega
 clear hn hv hrn hrv hln hlv hb hbl hsz hW0 hS jk hl
 go_enter func53,ntmps53
 go_upto_region 3 with fail
 rw[HW0.out]
 clear HW0
 go_loopg [5,10] nl.length (fun g ov iv wr=>PaI S nl vl w g ov iv wr)
 case atStart=>exact HI0.out
 case round=>
  obtain ⟨i,rfl,rfl,hi,hg,hbx,hbl⟩:=hrel.out
  clear hrel HI0
  by_cases hlt:i<lenn
  ·obtain ⟨x,hx⟩:∃x,nl[i]?=some x:=⟨_,List.getElem?_eq_getElem (by rw[<-HLN.out];exact hlt)⟩
   obtain ⟨y,hy⟩:∃y,vl[i]?=some y:=by
    refine ⟨_,List.getElem?_eq_getElem ?_⟩
    have hh:=HN.out
    have hh2:=HV.out
    have:=(zbd hh2).1
    have:=HLV.out
    have:=HLN.out
    omega
   have hsh:Shown w S wr (SR (S1 S w.heap.size) u5):=fun c o' u hc hu=>by
    have hcl:=zai hu
    refine ⟨fun h=>?_,(hbl.cell (p:=⟨c,o',none⟩) hcl).trans hu⟩
    rcases h with (h | h) | h
    ·exact hc h
    ·omega
    ·have:=(hg.block h).1;omega
   obtain ⟨o6,len6,cap6,he6,hl6,hc6,hm6,hr6⟩:=(HN.out.wider hB).shown hsh hbl.size
   simp only[Value.slice.injEq] at he6
   obtain ⟨rfl,rfl,rfl⟩:=he6
   obtain ⟨o7,len7,cap7,he7,hl7,hc7,hm7,hr7⟩:=(HV.out.wider hB).shown hsh hbl.size
   simp only[Value.slice.injEq] at he7
   obtain ⟨rfl,rfl,rfl⟩:=he7
   obtain ⟨b1,off1,k1,n1,d1,s1,l1,o1,len1,cap1,ho1,hx1,e0,e1,e2,e3,e4,er⟩:=zat hr6 qzB hx
   subst ho1
   obtain ⟨b2,off2,k2,n2,d2,s2,l2,o2,len2,cap2,ho2,hx2,f0,f1,f2,f3,f4,fr⟩:=zat hr7 qzB hy
   subst ho2
   replace e0:=(zaa e0).2
   replace e1:=(zaa e1).2
   replace e2:=(zaa e2).2
   replace e3:=(zaa e3).2
   replace e4:=(zaa e4).2
   replace f0:=(zaa f0).2
   replace f1:=(zaa f1).2
   replace f2:=(zaa f2).2
   replace f3:=(zaa f3).2
   replace f4:=(zaa f4).2
   have hlv2:i<lenv:=by have:=HLV.out;have:=HLN.out;omega
   have er':RepD (hide wr (SR (S1 S w.heap.size) u5)) wr.heap.size x (.agg #[.int .i64 k1,.int .i64 n1,.int .i64 d1,.string s1,.slice o1 len1 cap1]):=by rw[hx1];exact er
   have fr':RepD (hide wr (SR (S1 S w.heap.size) u5)) wr.heap.size y (.agg #[.int .i64 k2,.int .i64 n2,.int .i64 d2,.string s2,.slice o2 len2 cap2]):=by rw[hx2];exact fr
   have HX:=zh hx
   have HY:=zh hy
   have HBX:=zh hbx
   have HG0:=zh hg
   have HBL:=zh hbl
   have HI:=zh hi
   clear er fr hx1 hx2 hr6 hr7 hl6 hl7 hx hy hsh hbx hg hbl hi
   go_upto_region 5 with fail
   have je:Below wr.heap.size wr (wr.alloc (.cells #[.int .i64 k1,.int .i64 n1,.int .i64 d1,.string s1,.slice o1 len1 cap1] 26)):=Below.one _ _
   have hbn:Box5 (wr.alloc (.cells #[.int .i64 k1,.int .i64 n1,.int .i64 d1,.string s1,.slice o1 len1 cap1] 26)) wr.heap.size 26 (.int .i64 k1) (.int .i64 n1) (.int .i64 d1) (.string s1) (.slice o1 len1 cap1):=Box5.new wr _ _ _ _ _ _
   have hc:∀o' u,wr.cell? ⟨b2,o',none⟩=some u->(wr.alloc (.cells #[.int .i64 k1,.int .i64 n1,.int .i64 d1,.string s1,.slice o1 len1 cap1] 26)).cell? ⟨b2,o',none⟩=some u:=fun o' u hu=>(je.cell (p:=⟨b2,o',none⟩) (zai hu)).trans hu
   replace f0:=hc _ _ f0
   replace f1:=hc _ _ f1
   replace f2:=hc _ _ f2
   replace f3:=hc _ _ f3
   replace f4:=hc _ _ f4
   replace er':=er'.shown (Shown.below je) je.size
   replace fr':=fr'.shown (Shown.below je) je.size
   have hg1:=HG0.out.below je
   have hb1:=HBL.out.trans (je.mono HBL.out.size)
   have hbx1:=HBX.out.alloc (.cells #[.int .i64 k1,.int .i64 n1,.int .i64 d1,.string s1,.slice o1 len1 cap1] 26)
   clear hc je e0 e1 e2 e3 e4
   generalize wr.alloc (.cells #[.int .i64 k1,.int .i64 n1,.int .i64 d1,.string s1,.slice o1 len1 cap1] 26)=W1 at *
   obtain ⟨q0,q1,q2,q3,q4⟩:=hbn.cells
   have ql:=hbn.lt
   have fl:=zai f0
   have HD1:=zh (show Below W1.heap.size W1 W1.drew from (Below.refl W1.heap.size W1).drew)
   have HSL:=zh (sr_lt hg1 qzL)
   have HG1:=zh hg1
   have HB1:=zh hb1
   have HBX1:=zh hbx1
   have HEX:=zh er'
   have HFY:=zh fr'
   have HBN:=zh hbn
   have HFC:=zh (show W1.cell? ⟨b2,off2+i*5,none⟩=some (.int .i64 k2)∧W1.cell? ⟨b2,off2+i*5+1,none⟩=some (.int .i64 n2)∧W1.cell? ⟨b2,off2+i*5+2,none⟩=some (.int .i64 d2)∧W1.cell? ⟨b2,off2+i*5+3,none⟩=some (.string s2)∧W1.cell? ⟨b2,off2+i*5+4,none⟩=some (.slice o2 len2 cap2) from ⟨f0,f1,f2,f3,f4⟩)
   have HPX:=zh ql
   generalize wr.heap.size=X at *
   clear hg1 hb1 hbx1 er' fr' hbn f0 f1 f2 f3 f4 q0 q1 q2 q3 q4
   refine zeq 9 (PaR (SR (S1 S w.heap.size) u5) u5 (.slice (some ⟨b2,off2,none⟩) lenv capv) (.pointer (some ⟨b2,off2+i*5,none⟩)) (.agg #[.int .i64 k1,.int .i64 n1,.int .i64 d1,.string s1,.slice o1 len1 cap1]) (.agg #[.int .i64 k2,.int .i64 n2,.int .i64 d2,.string s2,.slice o2 len2 cap2]) i x y) (fun A B=>Below A.heap.size A B) (by kernel_rfl) (by show monoB _ 9 28=true;kernel_rfl) (fun h k=>Below.next h k) qzB zkL ?hops ?hend
   case hops=>
    intro j o hj ho x8 w8 hdf hsz hex jb ja
    have hb8:Below W1.heap.size W1 w8:=HD1.out.trans hex
    match j,hj with
    | 0,_=>
      obtain rfl:_=o:=Option.some.inj ho
      have h5:x8.tmps.getD 5 undef=u5:=ja.at 5 (by kernel_rfl)
      exact zaA (v:=u5) rfl (by go_simp) rfl qzB
    | 1,_=>
      obtain rfl:_=o:=Option.some.inj ho
      have h7:x8.tmps.getD 7 undef=.pointer (some ⟨X,0,none⟩):=ja.at 7 (by kernel_rfl)
      have hbq:Box5 w8 X 26 (.int .i64 k1) (.int .i64 n1) (.int .i64 d1) (.string s1) (.slice o1 len1 cap1):=(hb8.block _ HPX.out).trans HBN.out
      obtain ⟨q0,q1,q2,q3,q4⟩:=hbq.cells
      have ql:=hbq.lt
      exact zaA (v:=(.agg #[.int .i64 k1,.int .i64 n1,.int .i64 d1,.string s1,.slice o1 len1 cap1])) rfl (by go_simp) rfl qzB
    | 2,_=>
      obtain rfl:_=o:=Option.some.inj ho
      have h1:x8.tmps.getD 1 undef=.slice (some ⟨b2,off2,none⟩) lenv capv:=ja.at 1 (by kernel_rfl)
      exact zaA (v:=(.slice (some ⟨b2,off2,none⟩) lenv capv)) rfl (by go_simp) rfl qzB
    | 3,_=>
      obtain rfl:_=o:=Option.some.inj ho
      have h6:x8.tmps.getD 6 undef=.int .i64 i:=ja.at 6 (by kernel_rfl)
      exact zaA (v:=(.int .i64 i)) rfl (by go_simp) rfl qzB
    | 4,_=>
      obtain rfl:_=o:=Option.some.inj ho
      have h17:x8.tmps.getD 17 undef=.slice (some ⟨b2,off2,none⟩) lenv capv:=zaX jb 2 17 (by kernel_rfl)
      have h18:x8.tmps.getD 18 undef=.int .i64 i:=zaX jb 3 18 (by kernel_rfl)
      exact zaA (v:=(.pointer (some ⟨b2,off2+i*5,none⟩))) rfl (by go_simp) rfl qzB
    | 5,_=>
      obtain rfl:_=o:=Option.some.inj ho
      have h19:x8.tmps.getD 19 undef=.pointer (some ⟨b2,off2+i*5,none⟩):=zaX jb 4 19 (by kernel_rfl)
      obtain ⟨f0,f1,f2,f3,f4⟩:=keepN hb8 fl HFC.out
      have fl8:=zai f0
      exact zaA (v:=(.agg #[.int .i64 k2,.int .i64 n2,.int .i64 d2,.string s2,.slice o2 len2 cap2])) rfl (by go_simp) rfl qzB
    | 6,_=>
      obtain rfl:_=o:=Option.some.inj ho
      have h16:x8.tmps.getD 16 undef=.agg #[.int .i64 k1,.int .i64 n1,.int .i64 d1,.string s1,.slice o1 len1 cap1]:=zaX jb 1 16 (by kernel_rfl)
      have h20:x8.tmps.getD 20 undef=.agg #[.int .i64 k2,.int .i64 n2,.int .i64 d2,.string s2,.slice o2 len2 cap2]:=zaX jb 5 20 (by kernel_rfl)
      refine zaA rfl (zcE rfl h16 h20) ?_ (Below.one _ _)
      exact zbs (W:=w8) (n:=2) (cs:=[.int .i64 k1,.int .i64 n1,.int .i64 d1,.string s1,.slice o1 len1 cap1,.int .i64 k2,.int .i64 n2,.int .i64 d2,.string s2,.slice o2 len2 cap2]) rfl (by omega) (fun b hb=>qzM (HSL.out b hb) hb8.size) ⟨_,_,_,_,_,_,rfl,HEX.out.shown (Shown.below hb8) hb8.size,_,_,_,_,_,_,rfl,HFY.out.shown (Shown.below hb8) hb8.size,rfl⟩
    | 7,_=>
      obtain rfl:_=o:=Option.some.inj ho
      have h21:RepS (hide w8 (SR (S1 S w.heap.size) u5)) w8.heap.size [x,y] (x8.tmps.getD 21 undef):=zaX jb 6 21 (by kernel_rfl)
      refine zbZ (K:=fun a' w'=>∃v,a'=Act.put x8 (some 22) v∧PaR (SR (S1 S w.heap.size) u5) u5 (.slice (some ⟨b2,off2,none⟩) lenv capv) (.pointer (some ⟨b2,off2+i*5,none⟩)) (.agg #[.int .i64 k1,.int .i64 n1,.int .i64 d1,.string s1,.slice o1 len1 cap1]) (.agg #[.int .i64 k2,.int .i64 n2,.int .i64 d2,.string s2,.slice o2 len2 cap2]) i x y 7 v w'∧Below w8.heap.size w8 w') (f:=87) (s:=21) (x:=x8.tmps.getD 21 undef) rfl rfl rfl (fun _ _=>rfl) (zaW (SR (S1 S w.heap.size) u5) [x,y] _ _ _ (fun b hb=>qzM (HSL.out b hb) hb8.size) h21 qzL) ?_
      rintro e w' ⟨v,rfl,h1,h2⟩
      exact ⟨v,rfl,v,rfl,h1,h2⟩
    | 8,_=>
      obtain rfl:_=o:=Option.some.inj ho
      have h22:RepD (hide w8 (SR (S1 S w.heap.size) u5)) w8.heap.size (Dat.list [x,y]) (x8.tmps.getD 22 undef):=zaX jb 7 22 (by kernel_rfl)
      obtain ⟨k8,n8,d8,s8,o8,len8,cap8,h8⟩:=zae h22.unhide
      rw[h8] at h22
      exact zaA rfl (zd8 rfl h8) (zax (fun b hb=>qzM (HSL.out b hb) hb8.size) h22) (Below.one _ _)
   case hend=>
    intro x8 w8 hdf hsz hex hval ja
    have h15:x8.tmps.getD 15 undef=u5:=hval 0 _ 15 (by omega) rfl rfl
    have h23:RepS (hide w8 (SR (S1 S w.heap.size) u5)) w8.heap.size [Dat.list [x,y]] (x8.tmps.getD 23 undef):=hval 8 _ 23 (by omega) rfl rfl
    obtain ⟨f,ha,hf⟩:=zaq [false,false,false,false,false,false,false,false,false,false,false,false,false,false,false,true,true,true,true,true,true,true,true,true,false,false,false,false] (by kernel_rfl) hdf hsz ja
    rw[<-hf] at h15 h23
    subst ha
    have hb8:Below W1.heap.size W1 w8:=HD1.out.trans hex
    have HG8:=zh (HG1.out.below hb8)
    have HB8:=zh (HB1.out.trans (hb8.mono HB1.out.size))
    have HX8:=zh ((hb8.block _ HBX1.out.lt).trans HBX1.out)
    obtain ⟨y23,h23y⟩:∃y23,f 23=y23:=⟨_,rfl⟩
    rw[h23y] at h23
    have HK8:=zh h23
    clear hval ja hf hex hdf hsz h23 hb8
    simp only[spellH,List.drop_succ_cons,List.drop_zero,h15,h23y]
    go_wp2_with (first | (at_builtin;go_loud (refine zaj rfl fun K hK=>zav (S:=S1 S w.heap.size) (.tmp 15) (.tmp 23) rfl (w.heap.size+1) u5 y23 (Sy.pairsL (nl.take i) (vl.take i)) [Dat.list [x,y]] rfl HG8 rfl HK8 (by have:=HL.out;simp[Sy.pairsL];omega) fun o9 len9 cap9 w9 h9 h10 h11 h12=>hK _ _ ?_)) | fail)
    go_roundg (nl.length-(i+1))
    case measure=>have:=HLN.out;omega
    case rel=>
     have hb9:Below w.heap.size w8 w9:=h10.out.mono (by omega)
     refine zh ⟨i+1,by go_num,rfl,by have:=HLN.out;omega,by rw[Sy.pairsL_snoc HX.out HY.out];exact h9.out,?_,HB8.out.trans hb9⟩
     exact (h10.out.block _ (Nat.lt_succ_self _)).trans HX8.out
  ·have hii:i=nl.length:=by have:=HLN.out;omega
   have hvl:vl.length=nl.length:=(zbd HV.out).1.symm.trans HLV.out
   have HE:=zh (show Sy.pairsL (nl.take i) (vl.take i)=Sy.pairsL nl vl from by rw[hii,List.take_length,<-hvl,List.take_length])
   have HG:=zh (hg.rep)
   have HSL:=zh hg.1
   have HBX:=zh hbx
   have HBL:=zh hbl
   clear hg hbx hbl hii hvl
   go_wp2_with (first | (go_at_call 87;refine (zaW (S1 S w.heap.size) _ _ _ _ HSL.out HG.out qzL).mono ?_;rintro e' w8 ⟨v8,rfl,hr8,hb8⟩;obtain ⟨k8,n8,d8,s8,o8,len8,cap8,rfl⟩:=zae hr8.unhide;have hx8:Box5 w8 w.heap.size 26 (.int .i64 0) (.int .i64 0) (.int .i64 0) (.string ⟨#[]⟩) (.slice none 0 0):=(hb8.block _ HBX.out.lt).trans HBX.out;obtain ⟨p0,p1,p2,p3,p4⟩:=hx8.cells;obtain ⟨z0,z1,z2,z3,z4⟩:=hx8.free;have pl:=hx8.lt;have HX8:=zh hx8;have HR8:=zh hr8;have HB8:=zh (HBL.out.trans (hb8.mono HBL.out.size));clear hr8 hb8 hx8) | fail)
   have HR5:=zh (HX8.out.set (.int .i64 k8) (.int .i64 n8) (.int .i64 d8) (.string s8) (.slice o8 len8 cap8))
   obtain ⟨r0,r1,r2,r3,r4⟩:=HR5.out.cells
   refine bodyPost_ret (v:=.agg #[.int .i64 k8,.int .i64 n8,.int .i64 d8,.string s8,.slice o8 len8 cap8]) (by simp[results,results53,go_sem,r0,r1,r2,r3,r4]) rfl ?_
   have h8:=HR8.out
   rw[HE.out] at h8
   exact zcG qzL HB8.out h8
end
section
open Go Go.RowKit
namespace Sy
def isNm (x:Dat) (s:ByteArray):Bool:=x.kind==2&&x.s.data.toList==s.data.toList
def elseB:ByteArray:=⟨#[101,108,115,101]⟩
def clause (x:Dat) (r:List Dat) (least:Nat):Option (List Dat × Bool):=
 if (split x).2.kind=4∧least<=(split x).1.length then
  (if isNm ((split x).1.headD Dat.null) elseB=false∨r=[] then some ((split x).1,isNm ((split x).1.headD Dat.null) elseB) else none)
 else none
end Sy
def ziy (S:Nat->Prop) (r:Option (List Dat × Bool)) (w:World) (e:Ending) (w':World):Prop:=Below w.heap.size w w'∧match r with
 | some (c,last)=>∃(o:Option Addr) (len cap:Nat),e=.returned (.tuple #[.slice o len cap,.bool last])∧RepS (hide w' S) w'.heap.size c (.slice o len cap)
 | none=>e=.panicked badE
theorem zdW (S:Nat->Prop) (x:Dat) (r:List Dat) (sl:Value) (least:Nat) (B:Nat) (w:World) (hS:∀b,S b->b<w.heap.size) (hv:RepS (hide w S) B (x::r) sl) (hB:B<=w.heap.size) (hsh:Dat.shaped x=true) (hal:Dat.all x<=100000) (hle:1<=least) (hl2:least<=1000) (hrl:r.length<=1000000) :
  Calls prog 163 #[sl,.int .i64 least] w (ziy S (Sy.clause x r least) w):=by
 obtain ⟨o,len,cap,rfl,hln,hcp,hmx,hrc⟩:=hv
 obtain ⟨b1,off1,k1,n1,d1,s1,l1,o1,len1,cap1,ho1,hx1,e0,e1,e2,e3,e4,er⟩:=zat hrc qzB (show (x::r)[0]?=some x from rfl)
 subst ho1
 replace e0:=(zaa e0).2
 replace e1:=(zaa e1).2
 replace e2:=(zaa e2).2
 replace e3:=(zaa e3).2
 replace e4:=(zaa e4).2
 simp only[Nat.zero_mul,Nat.add_zero] at e0 e1 e2 e3 e4
 have el:=zai e0
 obtain ⟨q,hq⟩:∃q,((Sy.split x).2.kind==4)=q:=⟨_,rfl⟩
 have HC:=zh (zbn S x (.agg #[.int .i64 k1,.int .i64 n1,.int .i64 d1,.string s1,.slice o1 len1 cap1]) B w q hq hS (by rw[hx1];exact er) hB hsh hal)
 have hlen0:0<len:=by rw[hln];simp
 have HLN:=zh hln
 have HQ:=zh hq
 have HSA:=zh (zaY x)
 have HAL:=zh hal
 have HRL:=zh hrl
 have hlenb:len<=1000001:=by rw[hln];simp;omega
 clear hrc er hx1 hln hq hal hrl hsh
 go_enter func163,ntmps163
 go_upto_region 2 with (first | (go_at_call 73;refine HC.out.mono ?_;rintro e' w1 ⟨o',len',cap',rfl,hl1,hb1⟩) | fail)
 have HL1:=zh hl1
 have HB1:=zh hb1
 have HLL:=zh (zbd hl1).1
 clear hl1 hb1 e0 e1 e2 e3 e4 el
 by_cases hok:q=true∧least<=len'
 ·obtain ⟨rfl,hle2⟩:=hok
  have hge:decide ((len':Int)≥(least:Int))=true:=by simp;omega
  go_upto_region 3 with (first | (go_at_call 30;refine (zah _).mono ?_;rintro e' w2 ⟨⟨v2,rfl⟩,rfl⟩) | fail)
  obtain ⟨c,cs,hcs⟩:∃c cs,(Sy.split x).1=c::cs:=by
   have:=HLL.out
   match h:(Sy.split x).1 with
   | c::cs=>exact ⟨c,cs,rfl⟩
   | []=>rw[h] at this;simp at this;omega
  have hl1:=HL1.out
  rw[hcs] at hl1
  obtain ⟨o6,len6,cap6,he6,hl6,hc6,hm6,hr6⟩:=hl1
  simp only[Value.slice.injEq] at he6
  obtain ⟨rfl,rfl,rfl⟩:=he6
  obtain ⟨b2,off2,k2,n2,d2,s2,l2,o2,len2,cap2,ho2,hx2,f0,f1,f2,f3,f4,fr⟩:=zat hr6 qzB (show (c::cs)[0]?=some c from rfl)
  subst ho2
  replace f0:=(zaa f0).2
  replace f1:=(zaa f1).2
  replace f2:=(zaa f2).2
  replace f3:=(zaa f3).2
  replace f4:=(zaa f4).2
  simp only[Nat.zero_mul,Nat.add_zero] at f0 f1 f2 f3 f4
  have fl:=zai f0
  have hl0:0<len':=by omega
  obtain ⟨last,hlast⟩:∃last,(k2==2&&s2.data.toList==Sy.elseB.data.toList)=last:=⟨_,rfl⟩
  have HIS:=zh (zjb k2 n2 d2 s2 Sy.elseB o2 len2 cap2 w2 last hlast)
  have HNM:=zh (show Sy.isNm ((Sy.split x).1.headD Dat.null) Sy.elseB=last from by rw[hcs,List.headD_cons,hx2];exact hlast)
  have HK:=zh (show (Sy.split x).2.kind=4∧least<=(Sy.split x).1.length from ⟨by simpa using HQ.out,by rw[<-HLL.out];exact hle2⟩)
  clear hr6 hl6 hx2 hlast hcs fr
  go_upto_region 4 with (first | (go_at_call 74;refine HIS.out.mono ?_;rintro e' w3 ⟨rfl,hb3⟩) | fail)
  have HB3:=zh hb3
  clear hb3 f0 f1 f2 f3 f4 fl
  by_cases hfin:last=false∨r=[]
  ·have HCL:=zh (show Sy.clause x r least=some ((Sy.split x).1,last) from by unfold Sy.clause;rw[if_pos HK.out,HNM.out,if_pos hfin])
   have hl1:last=true->len=1:=fun h=>by
    have:=HLN.out
    rcases hfin with h' | h'
    ·rw[h] at h';cases h'
    ·rw[this,h'];rfl
   cases last
   ·go_wp2_with (first | (go_at_call 30;refine (zah _).mono ?_;rintro e' w2 ⟨⟨v2,rfl⟩,rfl⟩) | fail)
    refine bodyPost_ret (v:=.tuple #[.slice (some ⟨b2,off2,none⟩) len' cap',.bool false]) (by simp[results,results163,go_sem]) rfl ?_
    rw[HCL.out]
    exact ⟨HB1.out.trans (HB3.out.mono HB1.out.size),_,_,_,rfl,HL1.out.shown (Shown.below HB3.out) HB3.out.size⟩
   ·have hl1':=hl1 rfl
    subst hl1'
    go_wp2_with (first | (go_at_call 30;refine (zah _).mono ?_;rintro e' w2 ⟨⟨v2,rfl⟩,rfl⟩) | fail)
    refine bodyPost_ret (v:=.tuple #[.slice (some ⟨b2,off2,none⟩) len' cap',.bool true]) (by simp[results,results163,go_sem]) rfl ?_
    rw[HCL.out]
    exact ⟨HB1.out.trans (HB3.out.mono HB1.out.size),_,_,_,rfl,HL1.out.shown (Shown.below HB3.out) HB3.out.size⟩
  ·have HCL:=zh (show Sy.clause x r least=none from by unfold Sy.clause;rw[if_pos HK.out,HNM.out,if_neg hfin])
   cases last
   ·exact absurd (.inl rfl) hfin
   ·have hne:((len:Int)==1)=false:=by
     have:=HLN.out
     have hr0:r≠[]:=fun h=>hfin (.inr h)
     have:r.length≠0:=by simpa using hr0
     simp only[beq_eq_false_iff_ne,ne_eq]
     simp only[qzN] at *
     omega
    go_wp2_with (first | (go_at_call 30;refine (zaf _).mono ?_;rintro e' w2 ⟨rfl,rfl⟩) | fail)
    refine ⟨rfl,?_⟩
    rw[HCL.out]
    exact ⟨HB1.out.trans (HB3.out.mono HB1.out.size),rfl⟩
 ·have HCL:=zh (show Sy.clause x r least=none from by
   unfold Sy.clause
   rw[if_neg fun h=>hok ⟨by rw[<-HQ.out];simpa using h.1,by rw[HLL.out];exact h.2⟩])
  cases q
  ·go_wp2_with (first | (go_at_call 30;refine (zaf _).mono ?_;rintro e' w2 ⟨rfl,rfl⟩) | fail)
   refine ⟨rfl,?_⟩
   rw[HCL.out]
   exact ⟨HB1.out,rfl⟩
  ·have hge:decide (least<=len')=false:=by simp at hok ⊢;omega
   go_wp2_with (first | (go_at_call 30;refine (zaf _).mono ?_;rintro e' w2 ⟨rfl,rfl⟩) | fail)
   refine ⟨rfl,?_⟩
   rw[HCL.out]
   exact ⟨HB1.out,rfl⟩
end
section
open Go Go.RowKit
def XP (W:World) (b:Nat) (n:Nat):Prop:=BoxL W b 45 [.int .i64 n]
theorem XP.ne {W:World} {b n:Nat} (h:XP W b n) (hE:Env W):b≠1:=by
 rintro rfl
 have hg : prog.globalNamed "internal/strconv.uint64pow10" = some 1 := by kernel_rfl
 unfold Env Lib.TabIs World.var? at hE
 rw[hg] at hE
 simp only[Option.bind_some] at hE
 unfold XP BoxL at h
 rw[h] at hE
 simp only[Option.some.injEq] at hE
 have h1:=congrArg Array.size hE
 simp only[List.size_toArray,List.length_map,qzN,qzO] at h1
 exact absurd h1 (by decide)
theorem Env.turned {W W':World} {b n:Nat} (hE:Env W) (h:XP W b n) (ht:Turned (fun c=>c=b) W W'):Env W':=by
 have hne:=h.ne hE
 have hg : prog.globalNamed "internal/strconv.uint64pow10" = some 1 := by kernel_rfl
 have hlt:=zi9 hg hE
 unfold Env Lib.TabIs World.var? at hE ⊢
 rw[hg] at hE ⊢
 simp only[Option.bind_some] at hE ⊢
 rw[ht.block _ hlt (fun h=>hne h.symm)]
 exact hE
theorem Turned.seq {S:Nat->Prop} {A B C:World} (h:Turned S A B) (hb:Below A.heap.size B C):Turned S A C:=
 ⟨hb.os.trans h.os,hb.tape.trans h.tape,hb.output.trans h.output,Nat.le_trans h.size hb.size,fun b hlt hn=>(hb.block b hlt).trans (h.block b hlt hn)⟩
namespace Sy
def freshB (k:Nat):ByteArray:=⟨(37::Lib.itoa k).toArray⟩
def freshD (k:Nat):Dat:=sym (freshB k)
end Sy
def XPost (S:Nat->Prop) (b:Nat) (x:Dat) (n:Nat) (w:World) (e:Ending) (w':World):Prop:=∃v,e=.returned v∧RepD (hide w' S) w'.heap.size x v∧Turned (fun c=>c=b) w w'∧XP w' b n
theorem zbP (S:Nat->Prop) (b n:Nat) (w:World) (_hS:∀b,S b->b<w.heap.size) (_hb:S b) (hx:XP w b n) (hE:Env w) (hn:n<=1000000) :
  Calls prog 147 #[.pointer (some ⟨b,0,none⟩)] w (XPost S b (Sy.freshD (n+1)) (n+1) w):=by
 obtain ⟨W0,hW0⟩:∃W0,w.alloc (.cells #[.int .i64 0,.int .i64 0,.int .i64 0,.string ⟨#[]⟩,.slice none 0 0] 26)=W0:=⟨_,rfl⟩
 have hbl:Below w.heap.size w W0:=by rw[<-hW0];exact Below.one _ _
 have hx0:XP W0 b n:=hx.keep hbl
 have c0:=hx0.cell 0 rfl
 have z0:=hx0.free 0
 have cl:=hx0.lt
 have hw:w.heap.size≠b:=fun h=>by have:=hx.lt;omega
 have hbx:Box5 W0 w.heap.size 26 (.int .i64 0) (.int .i64 0) (.int .i64 0) (.string ⟨#[]⟩) (.slice none 0 0):=by rw[<-hW0];exact Box5.new w _ _ _ _ _ _
 have HW0:=zh hW0
 have hx1:XP (W0.setCell ⟨b,0,none⟩ (.int .i64 ((n:Int)+1))) b (n+1):=by have h:=hx0.set 0 (.int .i64 ((n:Int)+1));exact h
 have ht1:Turned (fun c=>c=b) w (W0.setCell ⟨b,0,none⟩ (.int .i64 ((n:Int)+1))):=(Turned.of_below hbl).next (Turned.set W0 ⟨b,0,none⟩ _ rfl)
 have hb1:Box5 (W0.setCell ⟨b,0,none⟩ (.int .i64 ((n:Int)+1))) w.heap.size 26 (.int .i64 0) (.int .i64 0) (.int .i64 0) (.string ⟨#[]⟩) (.slice none 0 0):=(zay W0 ⟨b,0,none⟩ _ hw).trans hbx
 have he1:Env (W0.setCell ⟨b,0,none⟩ (.int .i64 ((n:Int)+1))):=Env.turned hE hx ht1
 have HX1:=zh hx1
 have HT1:=zh ht1
 have HB1:=zh hb1
 have HE1:=zh he1
 clear hW0 hx1 ht1 hb1 he1 hbx
 go_enter func147,ntmps147
 go_upto_region 1 with fail
 rw[HW0.out]
 go_upto_region 2 with fail
 generalize W0.setCell ⟨b,0,none⟩ (.int .i64 ((n:Int)+1))=W1 at HX1 HT1 HB1 HE1 ⊢
 clear c0 z0 cl
 have c1:=HX1.out.cell 0 rfl
 have cl:=HX1.out.lt
 have hs0:w.heap.size<W1.heap.size:=HB1.out.lt
 have hl21:=Lib.itoa_length_le ((n:Int)+1) (by omega) (by omega)
 have jk:¬9223372036854775807<1+(Lib.itoa ((n:Int)+1)).length:=by omega
 go_wp2_with (first | (go_at_call 98;refine (zdD ((n+1:Nat):Int) (by omega) (by omega) _ HE1.out).mono ?_;rintro e' w2 ⟨rfl,hb2⟩) | (go_at_call 90;refine (zd1 _ _).mono ?_;rintro e' w3 ⟨rfl,hb3⟩;have hx3:Box5 w3 w.heap.size 26 (.int .i64 0) (.int .i64 0) (.int .i64 0) (.string ⟨#[]⟩) (.slice none 0 0):=(hb3.block _ (qzM hs0 hb2.size)).trans ((hb2.block _ hs0).trans HB1.out);obtain ⟨p0,p1,p2,p3,p4⟩:=hx3.cells;obtain ⟨z0,z1,z2,z3,z4⟩:=hx3.free;have pl:=hx3.lt;have HX3:=zh hx3;clear hx3) | fail)
 have hq:((⟨#[37]⟩:ByteArray)++(⟨(Lib.itoa ((n:Int)+1)).toArray⟩:ByteArray))=Sy.freshB (n+1):=zgW [37] (Lib.itoa ((n:Int)+1))
 rw[hq]
 have HR5:=zh (HX3.out.set (.int .i64 2) (.int .i64 0) (.int .i64 0) (.string (Sy.freshB (n+1))) (.slice none 0 0))
 obtain ⟨r0,r1,r2,r3,r4⟩:=HR5.out.cells
 refine bodyPost_ret (v:=.agg #[.int .i64 2,.int .i64 0,.int .i64 0,.string (Sy.freshB (n+1)),.slice none 0 0]) (by simp[results,results147,go_sem,r0,r1,r2,r3,r4]) rfl ?_
 have h5:=zag w3 w.heap.size w.heap.size (.int .i64 2) (.int .i64 0) (.int .i64 0) (.string (Sy.freshB (n+1))) (.slice none 0 0) qzL
 have ht:Turned (fun c=>c=b) w (set5 w3 w.heap.size (.int .i64 2) (.int .i64 0) (.int .i64 0) (.string (Sy.freshB (n+1))) (.slice none 0 0)):=((HT1.out.next (Turned.of_below hb2)).next (Turned.of_below hb3)).seq h5
 refine ⟨_,rfl,zgH _ ?_,ht,?_⟩
 ·rw[<-hq,ByteArray.size_append]
  show 1+(Lib.itoa ((n:Int)+1)).toArray.size<=_
  rw[List.size_toArray]
  omega
 ·exact (zam w3 _ _ _ _ _ _ (fun h=>hw h.symm)).trans (((hb3.block _ (qzM cl hb2.size)).trans (hb2.block _ cl)).trans HX1.out)
end
section
open Go Go.RowKit
namespace Sy
abbrev M (α:Type):=Nat->Option (Option (α × Nat))
def ret {α:Type} (a:α):M α:=fun n=>some (some (a,n))
def bad {α:Type}:M α:=fun _=>some none
def bnd {α β:Type} (m:M α) (k:α->M β):M β:=fun n=>match m n with
 | none=>none
 | some none=>some none
 | some (some (a,n'))=>k a n'
def need {α:Type} (b:Bool) (m:M α):M α:=if b then m else bad
def within {α:Type} (b:Bool) (m:M α):M α:=fun n=>if b then m n else none
def fresh:M Dat:=fun n=>if n<=1000000 then some (some (freshD (n+1),n+1)) else none
def form (s:ByteArray) (l:List Dat):Dat:=Dat.list (sym s::l)
def quoteB:ByteArray:=⟨#[113,117,111,116,101]⟩
def ifB:ByteArray:=⟨#[105,102]⟩
def lambdaB:ByteArray:=⟨#[108,97,109,98,100,97]⟩
def setB:ByteArray:=⟨#[115,101,116,33]⟩
def beginB:ByteArray:=⟨#[98,101,103,105,110]⟩
def letrecB:ByteArray:=⟨#[108,101,116,114,101,99]⟩
def letrecSB:ByteArray:=⟨#[108,101,116,114,101,99,42]⟩
def defineB:ByteArray:=⟨#[100,101,102,105,110,101]⟩
def letB:ByteArray:=⟨#[108,101,116]⟩
def letSB:ByteArray:=⟨#[108,101,116,42]⟩
def condB:ByteArray:=⟨#[99,111,110,100]⟩
def caseB:ByteArray:=⟨#[99,97,115,101]⟩
def andB:ByteArray:=⟨#[97,110,100]⟩
def orB:ByteArray:=⟨#[111,114]⟩
def whenB:ByteArray:=⟨#[119,104,101,110]⟩
def unlessB:ByteArray:=⟨#[117,110,108,101,115,115]⟩
def doB:ByteArray:=⟨#[100,111]⟩
def arrowB:ByteArray:=⟨#[61,62]⟩
def eqB:ByteArray:=⟨#[37,101,113,63]⟩
def all (E:Dat->M Dat):List Dat->M (List Dat)
 | []=>ret []
 | x::l=>bnd (E x) fun y=>bnd (all E l) fun r=>ret (y::r)
def begin (E:Dat->M Dat) (l:List Dat):M Dat:=need (!l.isEmpty) (bnd (all E l) fun r=>ret (form beginB r))
def define (E:Dat->M Dat) (L:Dat->List Dat->M Dat) (x:Dat):Option (M (Dat × Dat)):=
 match (split x).1 with
 | []=>none
 | h::t=>
  if (split x).2.kind=4∧isNm h defineB=true then
   some (match t with
    | []=>bad
    | [_]=>bad
    | name::v::r=>
     if name.kind=6 then (match name.l with
      | [a,f]=>bnd (L f (v::r)) fun y=>ret (a,y)
      | _=>bad)
     else need r.isEmpty (bnd (E v) fun y=>ret (name,y)))
  else none
def bodyF (E:Dat->M Dat) (L:Dat->List Dat->M Dat):List Dat->List Dat->List Dat->M Dat
 | [],_,_=>bad
 | x::r,names,values=>match define E L x with
  | some m=>bnd m fun p=>bodyF E L r (names++[p.1]) (values++[p.2])
  | none=>need (distinct names) (bnd (if r.isEmpty then E x else begin E (x::r)) fun rest=>
    ret (if names.isEmpty then rest else form letrecSB [pairs names values,rest]))
def body (E:Dat->M Dat) (L:Dat->List Dat->M Dat) (l:List Dat):M Dat:=bodyF E L l [] []
def lambda (E:Dat->M Dat) (L:Dat->List Dat->M Dat) (f:Dat) (b:List Dat):M Dat:=need (formals f) (bnd (body E L b) fun y=>ret (form lambdaB [f,y]))
def over (E:Dat->M Dat) (v b a:Dat):M Dat:=bnd (E a) fun y=>ret (Dat.list [form lambdaB [Dat.list [v],b],y])
def letF (E:Dat->M Dat) (L:Dat->List Dat->M Dat) (names values:List Dat) (b:List Dat):M Dat:=
 need (distinct names) (bnd (L (Dat.list names) b) fun f=>bnd (all E values) fun r=>ret (Dat.list (f::r)))
def chainF (E:Dat->M Dat) (L:Dat->List Dat->M Dat):List Dat->List Dat->List Dat->M Dat
 | n::ns,v::vs,b=>need (isVar n) (bnd (chainF E L ns vs b) fun r=>over E n r v)
 | _,_,b=>letF E L [] [] b
def loopF (E:Dat->M Dat) (f g:Dat) (values:List Dat):M Dat:=
 bnd (all E values) fun r=>ret (Dat.list (form letrecB [Dat.list [Dat.list [f,g]],f]::r))
def orBad {α:Type} (o:Option (List Dat × List Dat)) (k:List Dat->List Dat->M α):M α:=match o with
 | none=>bad
 | some p=>k p.1 p.2
def namedF (E:Dat->M Dat) (L:Dat->List Dat->M Dat) (f b:Dat) (body:List Dat):M Dat:=
 orBad (binds b) fun names values=>need (distinct names) (bnd (L (Dat.list names) body) fun g=>loopF E f g values)
def andF (E:Dat->M Dat):List Dat->M Dat
 | []=>ret (truth 1)
 | [x]=>E x
 | x::r=>bnd (E x) fun a=>bnd (andF E r) fun b=>ret (form ifB [a,b,truth 0])
def orF (E:Dat->M Dat):List Dat->M Dat
 | []=>ret (truth 0)
 | [x]=>E x
 | x::r=>bnd fresh fun v=>bnd (orF E r) fun d=>over E v (form ifB [v,v,d]) x
def condF (E:Dat->M Dat):List Dat->M Dat
 | []=>ret void
 | x::r=>match clause x r 1 with
  | none=>bad
  | some (c,true)=>begin E c.tail
  | some ([],false)=>bad
  | some ([a],false)=>bnd fresh fun v=>bnd (condF E r) fun d=>over E v (form ifB [v,v,d]) a
  | some (a::b::t,false)=>
   if isNm b arrowB=true then
    (match t with
     | [g]=>bnd fresh fun v=>bnd (E g) fun f=>bnd (condF E r) fun d=>over E v (form ifB [v,Dat.list [f,v],d]) a
     | _=>bad)
   else bnd (E a) fun y=>bnd (begin E (b::t)) fun z=>bnd (condF E r) fun d=>ret (form ifB [y,z,d])
def test (v:Dat) (data:List Dat):Dat:=data.foldr (fun d t=>form ifB [Dat.list [sym eqB,v,const d],truth 1,t]) (truth 0)
def choiceF (E:Dat->M Dat) (v:Dat):List Dat->M Dat
 | []=>ret void
 | x::r=>match clause x r 2 with
  | none=>bad
  | some (c,true)=>begin E c.tail
  | some ([],false)=>bad
  | some (a::t,false)=>need ((split a).2.kind==4) (bnd (begin E t) fun b=>bnd (choiceF E v r) fun d=>ret (form ifB [test v (split a).1,b,d]))
def steps:List Dat->Option (List Dat × List Dat × List Dat)
 | []=>some ([],[],[])
 | x::r=>if (split x).2.kind=4 then
   (match (split x).1 with
    | [a,b]=>(steps r).map fun p=>(a::p.1,b::p.2.1,a::p.2.2)
    | [a,b,c]=>(steps r).map fun p=>(a::p.1,b::p.2.1,c::p.2.2)
    | _=>none)
  else none
def doF (E:Dat->M Dat) (b t:Dat) (l:List Dat):M Dat:=
 need ((split b).2.kind==4&&((split t).2.kind==4 && !(split t).1.isEmpty))
  (bnd fresh fun f=>match steps (split b).1 with
   | none=>bad
   | some (names,values,again)=>need (distinct names)
    (bnd (E ((split t).1.headD Dat.null)) fun test=>
     bnd (if (split t).1.tail.isEmpty then ret void else begin E (split t).1.tail) fun out=>
      bnd (begin E (l++[Dat.list (f::again)])) fun go=>
       loopF E f (form lambdaB [Dat.list names,form ifB [test,out,go]]) values))
def derivedF (E:Dat->M Dat) (key:ByteArray) (l:List Dat):M Dat:=
 if key=andB then andF E l
 else if key=orB then orF E l
 else if key=whenB then (match l with
  | x::y::r=>bnd (E x) fun a=>bnd (begin E (y::r)) fun b=>ret (form ifB [a,b,void])
  | _=>bad)
 else if key=unlessB then (match l with
  | x::y::r=>bnd (E x) fun a=>bnd (begin E (y::r)) fun b=>ret (form ifB [a,void,b])
  | _=>bad)
 else if key=condB then condF E l
 else if key=caseB then (match l with
  | x::r=>bnd fresh fun v=>bnd (choiceF E v r) fun d=>over E v d x
  | []=>bad)
 else if key=doB then (match l with
  | b::t::r=>doF E b t r
  | _=>bad)
 else bad
def formF (E:Dat->M Dat) (L:Dat->List Dat->M Dat) (key:ByteArray) (l:List Dat):M Dat:=
 if key=quoteB then (match l with | [x]=>ret (const x) | _=>bad)
 else if key=ifB then (match l with
  | [_,_]=>bnd (all E l) fun r=>ret (form ifB (r++[void]))
  | [_,_,_]=>bnd (all E l) fun r=>ret (form ifB r)
  | _=>bad)
 else if key=lambdaB then (match l with | f::b::r=>L f (b::r) | _=>bad)
 else if key=setB then (match l with | [x,y]=>need (isVar x) (bnd (E y) fun v=>ret (form setB [x,v])) | _=>bad)
 else if key=beginB then begin E l
 else if key=letrecB∨key=letrecSB then (match l with
  | x::b::r=>orBad (binds x) fun names values=>need (distinct names) (bnd (all E values) fun vs=>bnd (body E L (b::r)) fun y=>ret (form key [pairs names vs,y]))
  | _=>bad)
 else if key=letSB then (match l with
  | x::b::r=>orBad (binds x) fun names values=>chainF E L names values (b::r)
  | _=>bad)
 else if key=letB then (match l with
  | x::b::r=>if isVar x then (match r with | c::r=>namedF E L x b (c::r) | []=>bad)
   else orBad (binds x) fun names values=>letF E L names values (b::r)
  | _=>bad)
 else derivedF E key l
def exprF (E:Dat->M Dat) (L:Dat->List Dat->M Dat) (x:Dat):M Dat:=
 if x.kind=2 then need (isVar x) (ret x)
 else if x.kind=4 then bad
 else if x.kind=6 then need ((split x).2.kind==4) (match (split x).1 with
  | []=>bad
  | h::t=>if h.kind=2∧keyword h.s=true then formF E L h.s t else bnd (all E (h::t)) fun r=>ret (Dat.list r))
 else ret (const x)
def small (x:Dat):Bool:=Dat.shaped x&&decide (Dat.all x<=100000)
mutual
def expr:Nat->Dat->M Dat
 | 0,_=>fun _=>none
 | f+1,x=>within (small x) (exprF (expr f) (lam f) x)
def lam:Nat->Dat->List Dat->M Dat
 | 0,_,_=>fun _=>none
 | f+1,x,b=>within (small x&&(b.all small&&decide (b.length<=100000))) (lambda (expr f) (lam f) x b)
end
end Sy
end
section
open Go Go.RowKit
def XRes (S:Nat->Prop) (b:Nat) (r:Option (Dat × Nat)) (w:World) (e:Ending) (w':World):Prop:=match r with
 | some (x,n)=>XPost S b x n w e w'
 | none=>e=.panicked badE∧Turned (fun c=>c=b) w w'
def EOk (E:Dat->Sy.M Dat):Prop:=∀(S:Nat->Prop) (b n:Nat) (x:Dat) (v:Value) (w:World) (r:Option (Dat × Nat)),E x n=some r->(∀c,S c->c<w.heap.size)->S b->XP w b n->Env w->RepD (hide w S) w.heap.size x v ->
 Calls prog 50 #[.pointer (some ⟨b,0,none⟩),v] w (XRes S b r w)
def XAll (S:Nat->Prop) (b:Nat) (r:Option (List Dat × Nat)) (w:World) (e:Ending) (w':World):Prop:=match r with
 | some (ys,n)=>∃v,e=.returned v∧GrownS w' S w.heap.size ys v∧Turned (fun c=>c=b) w w'∧XP w' b n
 | none=>e=.panicked badE∧Turned (fun c=>c=b) w w'
def AlI (S:Nat->Prop) (b:Nat) (E:Dat->Sy.M Dat) (l:List Dat) (r:Option (List Dat × Nat)) (w:World) (g:Nat) (ov iv:Value) (wr:World):Prop:=Hid (∃(i n:Nat) (ys:List Dat),iv=.int .i64 i∧g=l.length-i∧i<=l.length∧ys.length=i∧GrownS wr S w.heap.size ys ov∧Turned (fun c=>c=b) w wr∧XP wr b n∧Env wr∧Sy.bnd (Sy.all E (l.drop i)) (fun r=>Sy.ret (ys++r)) n=some r)
theorem zbr {E:Dat->Sy.M Dat} (hE:EOk E) (S:Nat->Prop) (b n:Nat) (l:List Dat) (sl:Value) (w:World) (r:Option (List Dat × Nat)) (hr:Sy.all E l n=some r) (hS:∀c,S c->c<w.heap.size) (hb:S b) (hx:XP w b n) (hV:Env w) (hv:RepS (hide w S) w.heap.size l sl) (hl:l.length<=100000) :
  Calls prog 88 #[.pointer (some ⟨b,0,none⟩),sl] w (XAll S b r w):=by
 obtain ⟨o,len,cap,rfl,hln,hcp,hmx, -⟩:=id hv
 have HI0:=zh (show AlI S b E l r w l.length (.slice none 0 0) (.int .i64 0) w from
  zh ⟨0,n,[],rfl,rfl,Nat.zero_le _,rfl,GrownS.nil _ hS qzL,Turned.refl _ _,hx,hV,by
   rw[List.drop_zero]
   unfold Sy.bnd
   rw[hr]
   match r with
   | none=>rfl
   | some (ys,n')=>rfl⟩)
 have HL:=zh hv
 have HLN:=zh hln
 have HS:=zh hS
 have HB:=zh hb
 have HE:=zh hE
 have HV0:=zh hV
 have HX0:=zh hx
 have hlb:len<=100000:=by omega
 clear hv hln hS hb hx hV hr hl hE
 go_enter func88,ntmps88
 go_upto_region 3 with fail
 go_loopg [5,10] l.length (fun g ov iv wr=>AlI S b E l r w g ov iv wr)
 case atStart=>exact HI0.out
 case round=>
  obtain ⟨i,n1,ys,rfl,rfl,hi,hys,hg,ht,hx,hV,hrr⟩:=hrel.out
  clear hrel HI0
  by_cases hlt:i<len
  ·obtain ⟨x,hxx⟩:∃x,l[i]?=some x:=⟨_,List.getElem?_eq_getElem (by rw[<-HLN.out];exact hlt)⟩
   have hli:i<l.length:=by rw[<-HLN.out];exact hlt
   have hdrop:l.drop i=x::l.drop (i+1):=by
    rw[List.drop_eq_getElem_cons hli]
    congr 1
    exact (List.getElem?_eq_some_iff.1 hxx).2
   have hsh:Shown w S wr (SR S u5):=fun c o' u hc hu=>by
    have hcl:=zai hu
    refine ⟨fun h=>?_,(Shown.turned (S:=S) ht (fun c' _ h=>by subst h;exact HB.out) c o' u hc hu).2⟩
    rcases h with h | h
    ·exact hc h
    ·have:=(hg.block h).1;omega
   obtain ⟨o6,len6,cap6,he6,hl6,hc6,hm6,hr6⟩:=HL.out.shown hsh ht.size
   simp only[Value.slice.injEq] at he6
   obtain ⟨rfl,rfl,rfl⟩:=he6
   obtain ⟨b1,off1,k1,m1,d1,s1,l1,o1,len1,cap1,ho1,hx1,e0,e1,e2,e3,e4,er⟩:=zat hr6 qzB hxx
   subst ho1
   replace e0:=(zaa e0).2
   replace e1:=(zaa e1).2
   replace e2:=(zaa e2).2
   replace e3:=(zaa e3).2
   replace e4:=(zaa e4).2
   have er':RepD (hide wr (SR S u5)) wr.heap.size x (.agg #[.int .i64 k1,.int .i64 m1,.int .i64 d1,.string s1,.slice o1 len1 cap1]):=by rw[hx1];exact er
   rw[hdrop] at hrr
   have je:Below wr.heap.size wr (wr.alloc (.cells #[.int .i64 k1,.int .i64 m1,.int .i64 d1,.string s1,.slice o1 len1 cap1] 26)):=Below.one _ _
   have hbn:Box5 (wr.alloc (.cells #[.int .i64 k1,.int .i64 m1,.int .i64 d1,.string s1,.slice o1 len1 cap1] 26)) wr.heap.size 26 (.int .i64 k1) (.int .i64 m1) (.int .i64 d1) (.string s1) (.slice o1 len1 cap1):=Box5.new wr _ _ _ _ _ _
   have HG1:=zh (hg.below je)
   have HT1:=zh (ht.next (Turned.of_below je))
   have HX1:=zh (show XP _ b n1 from hx.keep je)
   have HV1:=zh (hV.below je)
   have HR1:=zh (er'.shown (Shown.below je) je.size)
   have HYS:=zh hys
   have HLI:=zh hli
   have HRR:=zh hrr
   have HZ:=zh je.size
   clear er er' hx1 hr6 hl6 hxx hsh hg ht hx hV hys hrr hdrop hi je
   go_upto_region 5 with fail
   generalize wr.alloc (.cells #[.int .i64 k1,.int .i64 m1,.int .i64 d1,.string s1,.slice o1 len1 cap1] 26)=W1 at *
   obtain ⟨q0,q1,q2,q3,q4⟩:=hbn.cells
   have ql:=hbn.lt
   obtain ⟨r1,hr1⟩:∃r1,E x n1=r1:=⟨_,rfl⟩
   have hSL:=sr_lt HG1.out qzL
   match r1,hr1 with
   | none,hr1=>
    have h:=HRR.out
    simp only[Sy.all,Sy.bnd,hr1] at h
    cases h
   | some none,hr1=>
    have hrn:r=none:=by
     have h:=HRR.out
     simp only[Sy.all,Sy.bnd,hr1] at h
     exact (Option.some.inj h).symm
    subst hrn
    have HC:=zh (HE.out (SR S u5) b n1 x _ W1 none hr1 hSL (.inl HB.out) HX1.out HV1.out HR1.out)
    clear hSL hr1
    go_wp2_with (first | (go_at_call 50;refine HC.out.mono ?_;rintro e' w8 ⟨rfl,ht8⟩) | fail)
    exact ⟨rfl,rfl,HT1.out.next ht8⟩
   | some (some (y,n2)),hr1=>
    have HC:=zh (HE.out (SR S u5) b n1 x _ W1 (some (y,n2)) hr1 hSL (.inl HB.out) HX1.out HV1.out HR1.out)
    have HR2:=zh (show Sy.bnd (Sy.all E (l.drop (i+1))) (fun r=>Sy.ret ((ys++[y])++r)) n2=some r from by
     have h:=HRR.out
     simp only[Sy.all,Sy.bnd,hr1] at h
     rw[<-h]
     simp only[Sy.bnd]
     cases h2:Sy.all E (l.drop (i+1)) n2 with
     | none=>rfl
     | some q=>
      cases q with
      | none=>rfl
      | some p=>simp[Sy.ret])
    have HSL:=zh hSL
    clear hSL hr1
    go_upto_region 6 with (first | (go_at_call 50;refine HC.out.mono ?_;rintro e' w8 ⟨v8,rfl,hr8,ht8,hx8⟩;obtain ⟨k8,m8,d8,s8,o8,len8,cap8,rfl⟩:=zae hr8.unhide;have HG8:=zh ((HG1.out.turned ht8 (fun c _ h=>by subst h;exact HB.out)).below (Below.one w8 (.cells #[.int .i64 k8,.int .i64 m8,.int .i64 d8,.string s8,.slice o8 len8 cap8] 26)));have HK8:=zh (zax (fun c hc=>qzM (HSL.out c hc) ht8.size) hr8)) | (at_builtin;go_loud (refine zaj rfl fun K hK=>zav (S:=S) (.tmp 14) (.tmp 18) rfl w.heap.size u5 (.slice (some ⟨w8.heap.size,0,none⟩) 1 1) ys [y] rfl HG8 rfl HK8 (by have:=HYS.out;have:=HLI.out;have:=HLN.out;simp;omega) fun o9 len9 cap9 w9 h9 h10 h11 h12=>hK _ _ ?_)) | fail)
    have hone8:Below w8.heap.size w8 (w8.alloc (.cells #[.int .i64 k8,.int .i64 m8,.int .i64 d8,.string s8,.slice o8 len8 cap8] 26)):=Below.one _ _
    have ht9:Turned (fun c=>c=b) w w9:=(((HT1.out.next ht8).next (Turned.of_below hone8)).seq h10.out)
    have hx9:XP w9 b n2:=(h10.out.block b (HS.out b HB.out)).trans (hx8.keep hone8)
    go_wp2_with fail
    go_roundg (l.length-(i+1))
    case measure=>have:=HLI.out;omega
    case rel=>
     exact zh ⟨i+1,n2,ys++[y],by go_num,rfl,by have:=HLI.out;omega,by rw[List.length_append,HYS.out];rfl,h9.out,ht9,hx9,Env.turned HV0.out HX0.out ht9,HR2.out⟩
  ·have hlast:i=l.length:=by have:=HLN.out;omega
   rw[hlast,List.drop_length] at hrr
   simp only[Sy.all,Sy.bnd,Sy.ret,List.append_nil,Option.some.injEq] at hrr
   subst hrr
   go_wp2_with fail
   go_ret
   exact ⟨_,rfl,hg,ht,hx⟩
end
section
open Go Go.RowKit
namespace Sy
theorem all_len {E:Dat->M Dat}:∀{l:List Dat} {n:Nat} {ys:List Dat} {n':Nat},all E l n=some (some (ys,n'))->ys.length=l.length
 | [],n,ys,n',h=>by
  simp only[all,ret,Option.some.injEq,Prod.mk.injEq] at h
  rw[<-h.1]
 | x::l,n,ys,n',h=>by
  simp only[all,bnd] at h
  cases h1:E x n with
  | none=>rw[h1] at h;cases h
  | some q=>
   rw[h1] at h
   cases q with
   | none=>cases h
   | some p=>
    simp only at h
    cases h2:all E l p.2 with
    | none=>rw[h2] at h;cases h
    | some q2=>
     rw[h2] at h
     cases q2 with
     | none=>cases h
     | some p2=>
      have h3:=all_len (ys:=p2.1) (n':=p2.2) h2
      simp only[ret,Option.some.injEq,Prod.mk.injEq] at h
      rw[<-h.1,qzN,qzN,h3]
end Sy
theorem XP.keepB {W W':World} {b n:Nat} (h:XP W b n) (hb:Below W.heap.size W W'):XP W' b n:=BoxL.keep h hb
theorem zb8 {w W:World} {S:Nat->Prop} {H b m:Nat} {x:Dat} {k n d:Int} {s:ByteArray} {o:Option Addr} {len cap:Nat} (hH:w.heap.size<=H) (hb:b<w.heap.size) (ht:Turned (fun c=>c=b) w W) (hx:RepD (hide W (S1 S H)) W.heap.size x (.agg #[.int .i64 k,.int .i64 n,.int .i64 d,.string s,.slice o len cap])) (hp:XP W b m) :
  XPost S b x m w (.returned (.agg #[.int .i64 k,.int .i64 n,.int .i64 d,.string s,.slice o len cap])) (set5 W H (.int .i64 k) (.int .i64 n) (.int .i64 d) (.string s) (.slice o len cap)):=
 ⟨_,rfl,hx.shown ((Shown.five W (S:=S1 S H) (.inr rfl) _ _ _ _ _).trans (Shown.less _ fun _ _ h=>.inl h)) (by rw[zan];exact qzL),ht.seq (zag _ _ _ _ _ _ _ _ hH),(zam W _ _ _ _ _ _ (by omega)).trans hp⟩
theorem zaU {E:Dat->Sy.M Dat} (hE:EOk E) (S:Nat->Prop) (b n:Nat) (l:List Dat) (sl:Value) (w:World) (r:Option (Dat × Nat)) (hr:Sy.begin E l n=some r) (hS:∀c,S c->c<w.heap.size) (hb:S b) (hx:XP w b n) (hV:Env w) (hv:RepS (hide w S) w.heap.size l sl) (hl:l.length<=100000) :
  Calls prog 51 #[.pointer (some ⟨b,0,none⟩),sl] w (XRes S b r w):=by
 obtain ⟨o,len,cap,rfl,hln,hcp,hmx, -⟩:=id hv
 obtain ⟨W0,hW0⟩:∃W0,w.alloc (.cells #[.int .i64 0,.int .i64 0,.int .i64 0,.string ⟨#[]⟩,.slice none 0 0] 26)=W0:=⟨_,rfl⟩
 have hbl:Below w.heap.size w W0:=by rw[<-hW0];exact Below.one _ _
 have hbx:Box5 W0 w.heap.size 26 (.int .i64 0) (.int .i64 0) (.int .i64 0) (.string ⟨#[]⟩) (.slice none 0 0):=by rw[<-hW0];exact Box5.new w _ _ _ _ _ _
 have hS1:∀c,S1 S w.heap.size c->c<W0.heap.size:=s1_lt hS hbx.lt
 have hl0:RepS (hide W0 (S1 S w.heap.size)) W0.heap.size l (.slice o len cap):=hv.shown (za5 rfl hbl) hbl.size
 have HBX:=zh hbx
 have HBL:=zh hbl
 have HW0:=zh hW0
 have HLT:=zh (hS b hb)
 by_cases hnil:l=[]
 ·subst hnil
  have hl00:len=0:=by simpa using hln
  subst hl00
  have hrn:r=none:=by
   simp only[Sy.begin,Sy.need,List.isEmpty_nil,Bool.not_true,Bool.false_eq_true,if_false,Sy.bad] at hr
   exact (Option.some.inj hr).symm
  subst hrn
  clear hv hbl hbx hS1 hl0 hW0 hr hS hb hx hV hln hl hE
  go_enter func51,ntmps51
  go_upto_region 1 with fail
  rw[HW0.out]
  go_wp2_with (first | (go_at_call 30;refine (zaf _).mono ?_;rintro e' w2 ⟨rfl,rfl⟩) | fail)
  exact ⟨rfl,rfl,Turned.of_below HBL.out⟩
 ·have jk:0<len:=by rw[hln];exact List.length_pos_iff.2 hnil
  obtain ⟨q,hq⟩:∃q,Sy.all E l n=q:=⟨_,rfl⟩
  clear hln
  have hne:l.isEmpty=false:=by simpa using hnil
  unfold Sy.begin Sy.need at hr
  rw[hne] at hr
  replace hr:Sy.bnd (Sy.all E l) (fun r=>Sy.ret (Sy.form Sy.beginB r)) n=some r:=hr
  unfold Sy.bnd at hr
  rw[hq] at hr
  match q,hq with
  | none,hq=>cases hr
  | some none,hq=>
   have hrn:r=none:=by
    exact (Option.some.inj hr).symm
   subst hrn
   have HC:=zh (zbr hE (S1 S w.heap.size) b n l _ W0 none hq hS1 (.inl hb) (hx.keep hbl) (hV.below hbl) hl0 hl)
   clear hv hbl hbx hS1 hl0 hW0 hr hS hb hx hV hq hE hne hl
   go_enter func51,ntmps51
   go_upto_region 1 with fail
   rw[HW0.out]
   go_wp2_with (first | (go_at_call 30;refine (zah _).mono ?_;rintro e' w2 ⟨⟨v2,rfl⟩,rfl⟩) | (go_at_call 88;refine HC.out.mono ?_;rintro e' w3 ⟨rfl,ht3⟩) | fail)
   exact ⟨rfl,rfl,(Turned.of_below HBL.out).next ht3⟩
  | some (some (ys,n2)),hq=>
   have hrn:r=some (Sy.form Sy.beginB ys,n2):=by
    exact (Option.some.inj hr).symm
   subst hrn
   have HC:=zh (zbr hE (S1 S w.heap.size) b n l _ W0 (some (ys,n2)) hq hS1 (.inl hb) (hx.keep hbl) (hV.below hbl) hl0 hl)
   have HYL:=zh (show ys.length<=999999 from by rw[Sy.all_len hq];omega)
   have HS1:=zh hS1
   have HB:=zh hb
   clear hv hbl hbx hS1 hl0 hW0 hr hS hb hx hV hq hE hne hl
   go_enter func51,ntmps51
   go_upto_region 1 with fail
   rw[HW0.out]
   go_wp2_with (first | (go_at_call 30;refine (zah _).mono ?_;rintro e' w2 ⟨⟨v2,rfl⟩,rfl⟩) | (go_at_call 88;refine HC.out.mono ?_;rintro e' w3 ⟨v3,rfl,hg3,ht3,hx3⟩) | (go_at_call 52;refine (zbD (S1 S w.heap.size) Sy.beginB (by decide) ys v3 _ w3 (fun c hc=>qzM (HS1.out c hc) ht3.size) hg3.rep qzL HYL.out).mono ?_;rintro e' w8 ⟨v8,rfl,hr8,hb8⟩;obtain ⟨k8,m8,d8,s8,o8,len8,cap8,rfl⟩:=zae hr8.unhide;have hx8:Box5 w8 w.heap.size 26 (.int .i64 0) (.int .i64 0) (.int .i64 0) (.string ⟨#[]⟩) (.slice none 0 0):=(hb8.block _ (qzM HBX.out.lt ht3.size)).trans ((ht3.block _ HBX.out.lt (by have:=HLT.out;omega)).trans HBX.out);obtain ⟨p0,p1,p2,p3,p4⟩:=hx8.cells;obtain ⟨z0,z1,z2,z3,z4⟩:=hx8.free;have pl:=hx8.lt;have HX8:=zh hx8;clear hx8) | fail)
   have HR5:=zh (HX8.out.set (.int .i64 k8) (.int .i64 m8) (.int .i64 d8) (.string s8) (.slice o8 len8 cap8))
   obtain ⟨r0,r1,r2,r3,r4⟩:=HR5.out.cells
   refine bodyPost_ret (v:=.agg #[.int .i64 k8,.int .i64 m8,.int .i64 d8,.string s8,.slice o8 len8 cap8]) (by simp[results,results51,go_sem,r0,r1,r2,r3,r4]) rfl ?_
   exact zb8 qzL HLT.out (((Turned.of_below HBL.out).next ht3).next (Turned.of_below hb8)) hr8 (XP.keepB hx3 hb8)
end
section
open Go Go.RowKit
theorem zcy {P:Program} {id:Nat} {Q:Exit->Act->World->Prop} {a0:Act} {w:World} {l:List Oper} (n:Nat) (I:Array Bool->Act->World->Prop) (hm:P.follows .mixedOrders=true) (hB:monoB l.toArray n a0.tmps.size=true)
  (h0:I (Array.replicate l.toArray.size false) a0 w.drew)
  (hops:∀i o,i<n->l.toArray[i]?=some o->∀(listed:Array Bool) (a:Act) (w1:World),listed.size=l.toArray.size->a.defers=a0.defers->a.tmps.size=a0.tmps.size->Rest l.toArray n a0 a->I listed a w1->listed.getD i false=false->(∀e∈o.after,Region.binds .any e=true->listed.getD e.on false=true) ->
   o.wp P a w1 (fun a' w'=>∃v,a'=a.put o.dst v∧I (listed.setIfInBounds i true) a' w') Q)
  (hend:∀(listed:Array Bool) (a:Act) (w1:World),(∀i,i<n->listed.getD i false=true)->a.defers=a0.defers->a.tmps.size=a0.tmps.size->Rest l.toArray n a0 a->I listed a w1->wpList P l.toArray Q (l.drop n) a w1) :
  (Code.region id l.toArray true).wp P Q a0 w:=by
 simp only[monoB,monoG,Bool.and_eq_true,decide_eq_true_eq] at hB
 obtain ⟨⟨h1,h2,h3,h4,h5,h6⟩,h7⟩:=hB
 refine wp_region_any hm ?_
 have inv0:HeadInv .any l.toArray n (Array.replicate l.toArray.size false):=
  ⟨by simp,fun j oj _ hl=>(by rw[getD_replicate_false] at hl;cases hl),fun t _ ht=>getD_in (by simpa using ht) (getD_replicate_false _ _)⟩
 have hcount:((List.range n).filter fun i=>!(Array.replicate l.toArray.size false).getD i true).length=n:=by
  rw[List.filter_eq_self.2]
  ·simp
  ·intro i hi
   have:i<l.toArray.size:=by have:=List.mem_range.1 hi;omega
   have h':i<l.length:=by simpa using this
   simp[h']
 have:=zdS (P:=P) (Q:=Q) (g:=l.toArray.size-n) (I:=fun listed a w=>listed.size=l.toArray.size∧a.defers=a0.defers∧a.tmps.size=a0.tmps.size∧Rest l.toArray n a0 a∧I listed a w) h1 h2 h3 h4 ?_ ?_ n _ a0 w.drew hcount inv0
  ⟨by simp,rfl,rfl,fun _ _=>rfl,h0⟩
 ·rwa[show n+(l.toArray.size-n)=l.toArray.size by omega] at this
 ·rintro listed a w1 i ⟨hls,hdf,hsz,ja,hI⟩ hi hr
  obtain ⟨hun,o,ho,hdeps⟩:=mem_ready.1 hr
  unfold wpOp
  simp only[ho]
  have hg:Region.wanted o (yielded l.toArray a.tmps)=true:=zcg (R:=fun _ _ _=>True) (w:=w1) h7 (fun _ h=>by cases h) hi ho (by rw[hsz];exact qzL) (fun _ _ _ _ _ _ _=>trivial)
  rw[if_pos hg]
  left
  refine Oper.wp_mono ?_ (hops i o hi ho listed a w1 hls hdf hsz ja hI (by
   have hlt:i<listed.size:=by rw[hls];omega
   simpa[hlt] using hun) hdeps)
  rintro a' w' ⟨v,rfl,hI'⟩
  refine ⟨by simpa using hls,?_,?_,?_,hI'⟩
  ·cases o.dst<;>exact hdf
  ·cases hdst:o.dst with
   | none=>exact hsz
   | some d=>simpa[Act.put] using hsz
  ·intro t ht
   cases hdst:o.dst with
   | none=>exact ja t ht
   | some d'=>
    have hd':d' < a.tmps.size:=by
     have g1:=List.all_eq_true.1 (List.all_eq_true.1 h5 i (List.mem_range.2 hi)) i (List.mem_range.2 hi)
     simp only[ho,hdst,Bool.and_eq_true,decide_eq_true_eq] at g1
     rw[hsz];exact g1.1
    rw[zaO hd',if_neg ?_]
    ·exact ja t ht
    ·rintro rfl;exact ht i o hi ho hdst
 ·rintro listed a w1 ⟨hls,hdf,hsz,ja,hI⟩ inv hall
  have hdl:(l.drop n).length=l.toArray.size-n:=by simp
  have g:=wpAny_of_seq (md:=.any) (Q':=Q) (l.drop n) n listed a w1 (fun j=>by simp[List.getElem?_drop]) (by rw[hdl,zbV h4 inv hall];exact h6)
   (hend listed a w1 (fun i hi=>by
    have:=hall i hi
    have hlt:i<listed.size:=by rw[hls];omega
    simpa[hlt] using this) hdf hsz ja hI)
  rwa[hdl] at g
theorem zcC {P:Program} {id:Nat} {Q:Exit->Act->World->Prop} {a0:Act} {w:World} {l:List Oper} {b:Nat} (n:Nat) (ps:List Nat) (ns:Nat->Nat) (R:Nat->Value->World->Prop) (hm:P.follows .mixedOrders=true) (hB:monoB l.toArray n a0.tmps.size=true)
  (hnd:ps.Nodup) (hpn:∀p∈ps,p<n) (hchain:∀k p p',ps[k]?=some p->ps[k+1]?=some p'->∀o,l.toArray[p']?=some o->∃e∈o.after,Region.binds .any e=true∧e.on=p)
  (h0:XP w.drew b (ns 0)) (hR:∀i v A B,i<n->R i v A->Turned (fun c=>c=b) w.drew A->Turned (fun c=>c=b) A B->R i v B)
  (hops:∀i o,i<n->¬i∈ps->l.toArray[i]?=some o->o.guard=none->∀(a:Act) (w1:World),a.defers=a0.defers->a.tmps.size=a0.tmps.size->Turned (fun c=>c=b) w.drew w1->(∀j oj d,j<n->l.toArray[j]?=some oj->(∃e∈o.after,Region.binds .any e=true∧e.on=j)->oj.dst=some d->R j (a.tmps.getD d undef) w1)->Rest l.toArray n a0 a ->
   o.wp P a w1 (fun a' w'=>∃v,a'=a.put o.dst v∧R i v w'∧Below w1.heap.size w1 w') Q)
  (hcall:∀k i o,ps[k]?=some i->l.toArray[i]?=some o->o.guard=none->∀(a:Act) (w1:World),a.defers=a0.defers->a.tmps.size=a0.tmps.size->Turned (fun c=>c=b) w.drew w1->XP w1 b (ns k)->(∀j oj d,j<n->l.toArray[j]?=some oj->(∃e∈o.after,Region.binds .any e=true∧e.on=j)->oj.dst=some d->R j (a.tmps.getD d undef) w1)->Rest l.toArray n a0 a ->
   o.wp P a w1 (fun a' w'=>∃v,a'=a.put o.dst v∧R i v w'∧Turned (fun c=>c=b) w1 w'∧XP w' b (ns (k+1))) Q)
  (hend:∀a w1,a.defers=a0.defers->a.tmps.size=a0.tmps.size->Turned (fun c=>c=b) w.drew w1->XP w1 b (ns ps.length)->(∀i o d,i<n->l.toArray[i]?=some o->o.dst=some d->R i (a.tmps.getD d undef) w1)->Rest l.toArray n a0 a->wpList P l.toArray Q (l.drop n) a w1) :
  (Code.region id l.toArray true).wp P Q a0 w:=by
 have hB':=hB
 simp only[monoB,monoG,Bool.and_eq_true,decide_eq_true_eq] at hB'
 obtain ⟨⟨_,_,_,hn,hsl,_⟩,hgd⟩:=hB'
 refine zcy n (fun listed a W=>Turned (fun c=>c=b) w.drew W∧(∃k,k<=ps.length∧XP W b (ns k)∧∀j p,ps[j]?=some p->(listed.getD p false=true↔j<k))∧∀i o d,i<n->l.toArray[i]?=some o->listed.getD i false=true->o.dst=some d->R i (a.tmps.getD d undef) W) hm hB ⟨Turned.refl _ _,⟨0,Nat.zero_le _,h0,fun j p _=>by rw[getD_replicate_false];simp⟩,fun i o d _ _ h=>by rw[getD_replicate_false] at h;cases h⟩ ?_ ?_
 ·intro i o hi ho listed a w1 hls hdf hsz ja ⟨hex,⟨k,hk,hxp,hpre⟩,hval⟩ hun hdeps
  have hlt:i<listed.size:=by rw[hls];omega
  have hset:(listed.setIfInBounds i true).getD i false=true:=by simp[hlt]
  have jb:∀j oj d,j<n->l.toArray[j]?=some oj->(∃e∈o.after,Region.binds .any e=true∧e.on=j)->oj.dst=some d->R j (a.tmps.getD d undef) w1:=fun j oj d hj hoj ⟨e,he,hb,hon⟩ hd=>hval j oj d hj hoj (by have:=hdeps e he hb;rwa[hon] at this) hd
  have hvals:∀v w',R i v w'->Turned (fun c=>c=b) w1 w'->∀j oj d,j<n->l.toArray[j]?=some oj->(listed.setIfInBounds i true).getD j false=true->oj.dst=some d->R j ((Act.put a o.dst v).tmps.getD d undef) w':=by
   intro v w' hv hx j oj d hj hoj hl hd
   by_cases e:i=j
   ·subst e
    obtain rfl:oj=o:=Option.some.inj (hoj.symm.trans ho)
    have hd':=(zaV hsl hi hi ho ho hd hd).1
    rw[hd,zaO (by rw[hsz];exact hd'),if_pos rfl]
    exact hv
   ·rw[getD_set_ne false e] at hl
    have hold:=hval j oj d hj hoj hl hd
    have hsame:(a.put o.dst v).tmps.getD d undef=a.tmps.getD d undef:=by
     cases hdo:o.dst with
     | none=>rfl
     | some d'=>
      obtain ⟨hd',hne⟩:=zaV hsl hi hj ho hoj hdo hd
      rw[zaO (by rw[hsz];exact hd'),if_neg (hne.resolve_left e)]
    rw[hsame]
    exact hR j _ _ _ hj hold hex hx
  by_cases hip:i∈ps
  ·obtain ⟨j,hj⟩:=List.getElem?_of_mem hip
   have hkj:¬j<k:=fun h=>by
    have:=(hpre j i hj).2 h
    rw[hun] at this
    cases this
   have hjk:j=k:=by
    rcases Nat.lt_or_ge k j with h | h
    ·exfalso
     obtain ⟨j',rfl⟩:∃j',j=j'+1:=⟨j-1,by omega⟩
     have hjl:=(List.getElem?_eq_some_iff.1 hj).1
     have hp:ps[j']?=some ps[j']:=List.getElem?_eq_getElem (by omega)
     obtain ⟨e,he,hb,hon⟩:=hchain j' _ i hp hj o ho
     have h1:=hdeps e he hb
     rw[hon] at h1
     have:=(hpre j' _ hp).1 h1
     omega
    ·omega
   subst hjk
   refine Oper.wp_mono ?_ (hcall j i o hj ho (zaF hgd hi ho) a w1 hdf hsz hex hxp jb ja)
   rintro a' w' ⟨v,rfl,hv,hx,hxp'⟩
   refine ⟨v,rfl,hex.next hx,⟨j+1,(List.getElem?_eq_some_iff.1 hj).1,hxp',fun j2 p hp=>?_⟩,hvals v w' hv hx⟩
   by_cases e:i=p
   ·subst e
    have:j2=j:=(List.getElem?_inj (List.getElem?_eq_some_iff.1 hp).1 hnd).1 (hp.trans hj.symm)
    subst this
    rw[hset]
    simp
   ·rw[getD_set_ne false e,hpre j2 p hp]
    have:j2≠j:=fun h=>e (by subst h;rw[hj] at hp;exact Option.some.inj hp)
    omega
  ·refine Oper.wp_mono ?_ (hops i o hi hip ho (zaF hgd hi ho) a w1 hdf hsz hex jb ja)
   rintro a' w' ⟨v,rfl,hv,hx⟩
   refine ⟨v,rfl,hex.next (Turned.of_below hx),⟨k,hk,hxp.keepB hx,fun j p hp=>?_⟩,hvals v w' hv (Turned.of_below hx)⟩
   rw[getD_set_ne false (fun e=>hip (by subst e;exact List.mem_of_getElem? hp))]
   exact hpre j p hp
 ·intro listed a w1 hall hdf hsz ja ⟨hex,⟨k,hk,hxp,hpre⟩,hval⟩
  have hkl:k=ps.length:=by
   rcases Nat.lt_or_ge k ps.length with h | h
   ·exfalso
    have hp:ps[k]?=some ps[k]:=List.getElem?_eq_getElem h
    have:=(hpre k _ hp).1 (hall _ (hpn _ (List.getElem_mem h)))
    omega
   ·omega
  subst hkl
  exact hend a w1 hdf hsz hex hxp (fun i o d hi ho hd=>hval i o d hi ho (hall i hi) hd) ja
section
variable {P : Program} {o : Oper} {a : Act} {w : World} {Q : Exit -> Act -> World -> Prop} {R : Nat -> Value -> World -> Prop} {Ext : World -> World -> Prop} {i : Nat}
theorem za3 {v:Value} {w':World} (h:(execOp a.eval o).run P w=.ok (.value v) w') (hv:R i v w') (he:Ext w w'):o.wp P a w (fun a' w'=>∃v,a'=a.put o.dst v∧R i v w'∧Ext w w') Q:=by
 unfold Oper.wp
 rw[h]
 exact ⟨v,rfl,hv,he⟩
theorem zbe {K:Act->World->Prop} {f:FuncId} {args:Array Operand} {ts:Array TypeId} {vals:Array Value} {R':Ending->World->Prop} (ho:o.op=.call { callee:=.value (.func f),args:=args,argTypes:=ts }) (hv:args.map a.eval=vals) (hf:∀args w,(callFunc f args).run P w=.ok (.enter f args) w)
  (hc:Calls P f vals w R') (hR:∀e w',R' e w'->(∃v,e=.returned v∧K (a.put o.dst v) w')∨∃c,e=.panicked c∧Q (.panic c) a w'):o.wp P a w K Q:=by
 have hef:a.eval (.func f)=.func (.func f) #[] #[]:=rfl
 have hrun:(execOp a.eval o).run P w=.ok (.enter f vals) w:=by
  simp[execOp,ho,resolve,Deferred.ofValue,invoke,hef,hf,hv]
 unfold Oper.wp
 rw[hrun]
 simp only[Oper.upon]
 refine hc.mono fun e w' h=>?_
 rcases hR e w' h with ⟨v,rfl,hv⟩ | ⟨c,rfl,hv⟩
 ·exact hv
 ·exact hv
end
end
end Go.Proofs.YtnbjhmafnigefaaGreatDoor
