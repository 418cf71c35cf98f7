/- .. -/
import Derived.BigQuiet
import Derived.Test.YtdcajmeeeoofgaaGreatDoorFmbA19
open Go.Proofs.Tryz
set_option maxRecDepth 100000
set_option maxHeartbeats 16000000
namespace Go.Proofs.YtdcajmeeeoofgaaGreatDoor
section
open Go Go.RowKit Mdl Live
theorem zfY {m:Mdl} (h:m.okB=true) (hu:(m.unit Mk.lkL).okB=true):(m.unit Mk.lkL).procs.length=m.codes.length+1∧∀(i:Nat) (p:Proc),(m.unit Mk.lkL).procs[i]?=some p →
  ∃c,m.cods[i]?=some c∧p.args=c.v.length∧p.rest=c.rest∧p.alive=[]∧Mk.FragE (argsG c) 0 p.code∧p.code≠[]∧0≤p.regs∧p.regs≤20000∧p.code.length≤50000:=by
 refine ⟨by rw[zbl,List.length_map,Mdl.cods,List.length_append];rfl,fun i p hp=>?_⟩
 obtain ⟨c',hc',hf,hr,ha',hre',hal⟩:=zfS h p (List.mem_of_getElem? hp)
 rw[zbl,List.getElem?_map] at hp
 obtain ⟨c,hc,rfl⟩:=Option.map_eq_some_iff.1 hp
 have ha:(Mk.proc Mk.lkL c).args=c.v.length:=rfl
 have hlen:(c'.v.length:Int)=c.v.length:=by rw[←ha',ha]
 have hG:argsG c'=argsG c:=by funext r;unfold argsG;rw[hlen]
 rw[hG] at hf
 simp only[Unt.okB,Bool.and_eq_true] at hu
 obtain ⟨h1,h2,h3⟩:=zex hu.2.2.2 (show Mk.proc Mk.lkL c∈(m.unit Mk.lkL).procs from by rw[zbl];exact List.mem_map_of_mem (List.mem_of_getElem? hc))
 have hh:=h1
 simp only[Unt.headB,Bool.not_eq_true',Bool.or_eq_false_iff,decide_eq_false_iff_not] at hh
 obtain ⟨g1,g2,g3,_,g5,g6⟩:=hh
 exact ⟨c,hc,ha,rfl,rfl,hf,fun e=>g5 (by rw[e];rfl),by omega,by omega,by omega⟩
end
section
open Go Go.RowKit Mk
theorem zcV:∀(k:Nat) (x:Trm),x.all≤k→∀e,ZIntoC e x
 | 0,x,h=>by have:=x.all_pos;omega
 | k+1,.mk op n v t,hk=>by
  have hlt:∀x∈t,x.all≤k:=fun x hx=>by have:=Trm.all_mem (o:=op) (n:=n) (v:=v) hx;omega
  have ih:∀x∈t,∀e,ZIntoC e x:=fun x hx e=>zcV k x (hlt x hx) e
  have hH:∀y:Trm,y.all≤k→ZHadC y:=fun y hy=>zjI y (zcV k y hy false)
  have hA:∀l:List Trm,(∀y∈l,y.all≤k)→ZAllC l:=fun l hl=>ziW l fun y hy=>hH y (hl y hy)
  have hsub:∀x∈t,ZAllC x.t:=fun x hx=>hA x.t fun y hy=>by
   obtain ⟨o,m,u,l⟩:=x
   have h1:=Trm.all_mem (o:=o) (n:=m) (v:=u) (show y∈l from hy)
   have h2:=hlt _ hx
   omega
  have hall:(Trm.mk op n v t).all=1+Trm.allL t:=by rw[Trm.all]
  -- the four that go on in parts
  have four:op=3∨op=6∨op=8∨op=9→∀e,ZIntoC e (.mk op n v t):=by
   intro ho e c0 c1 c2 c3 B base mb K X s d nc nk fr sc W hv hm hw hroom hd
   have hp:=zaE hw
   rw[hall] at hroom
   rcases ho with rfl | rfl | rfl | rfl
   ·have hc:v.length=0∧t.length=3:=by
     have:=hp.2.1
     simpa[Trm.countsB] using this
    obtain rfl:v=[]:=List.eq_nil_of_length_eq_zero hc.1
    have hwa:=zaW (by decide) hp.2.2.2
    match t,hc.2 with
    | [a,b,c],_=>
     rw[zkJ]
     exact zeg e n [] [a,b,c] c0 c1 c2 c3 B base mb K X s _ d W hv hm fun W1 hv1 hm1=>zeK e 3 n [] a b c (hH a (hlt a (by simp))) (ih b (by simp) e) (ih c (by simp) e) c0 c1 c2 c3 B base mb K X s d nc nk fr sc W1 hv1 hm1 (hwa a (by simp)) (hwa b (by simp)) (hwa c (by simp)) (hroom.mono (by omega)) hd
   ·have hc:v.length=0∧1≤t.length:=by
     have:=hp.2.1
     simpa[Trm.countsB] using this
    obtain rfl:v=[]:=List.eq_nil_of_length_eq_zero hc.1
    have hwa:=zaW (by decide) hp.2.2.2
    obtain ⟨l,x,rfl,_⟩:=zcg (t:=t) (n:=t.length-1) (by omega)
    rw[zkM]
    exact zhw e n [] l x (fun y hy=>hH y (hlt y (by simp[hy]))) (ih x (by simp) e) c0 c1 c2 c3 B base mb K X s d nc nk fr sc sc W hv hm (fun y hy=>hwa y (by simp[hy])) (hwa x (by simp)) (hroom.mono (by omega)) hd
   ·have hc:t.length=v.length+1:=by
     have:=hp.2.1
     simpa[Trm.countsB] using this
    obtain ⟨l,x,rfl,hl⟩:=zcg hc
    have hw2:=hp.2.2.2
    rw[zbZ (by decide)] at hw2
    simp only[List.length_append,List.length_singleton,Nat.add_sub_cancel,List.take_left,List.drop_left,Bool.and_eq_true,List.all_eq_true] at hw2
    rw[zkP]
    exact zhT e n v (l++[x]) c0 c1 c2 c3 B base mb K X s _ d W hv hm fun W1 hv1 hm1=>ziY e n v l x (by omega) (fun y hy=>hH y (hlt y (by simp[hy]))) (ih x (by simp) e) c0 c1 c2 c3 B base mb K X s d nc nk fr sc _ W1 hv1 hm1 hw2.1 (hw2.2 x (by simp)) (hroom.mono (by omega)) hd
   ·have hc:t.length=v.length+1:=by
     have:=hp.2.1
     simpa[Trm.countsB] using this
    obtain ⟨l,x,rfl,hl⟩:=zcg hc
    have hw2:=hp.2.2.2
    rw[zdI] at hw2
    simp only[List.length_append,List.length_singleton,Nat.add_sub_cancel,List.take_left,Bool.and_eq_true,List.all_eq_true] at hw2
    rw[zkN _ _ _ _ _ _ _ _ hl]
    refine zhS e n v (l++[x]) c0 c1 c2 c3 B base mb K X s _ d W hv hm fun W1 hv1 hm1=>zju e n v l x (by omega) (fun y hy=>hsub y (by simp[hy])) (ih x (by simp) e) c0 c1 c2 c3 B base mb K X s d nc nk fr (Trm.addV sc v) (Trm.addV sc v) W1 hv1 hm1 (fun y hm=>?_) (hw2.1 x (by simp)) (hroom.mono (by omega)) hd
    have h19:=hw2.2 y hm
    have hwy:=hw2.1 y (by simp[hm])
    obtain ⟨o,m,u,ty⟩:=y
    obtain rfl:o=19:=by simpa[Trm.op] using h19
    have hpy:=zaE hwy
    obtain rfl:u=[]:=List.eq_nil_of_length_eq_zero (zaw (by decide) (by decide) hpy.2.1)
    exact zaW (by decide) hpy.2.2.2
  by_cases h3:op=3
  ·exact four (.inl h3)
  by_cases h6:op=6
  ·exact four (.inr (.inl h6))
  by_cases h8:op=8
  ·exact four (.inr (.inr (.inl h8)))
  by_cases h9:op=9
  ·exact four (.inr (.inr (.inr h9)))
  have hfr:ZIntoR (2+6*Trm.allL t) false (.mk op n v t):=by
   intro c0 c1 c2 c3 B base mb K X s d nc nk fr sc W hv hm hw hroom hd
   have hp:=zaE hw
   obtain rfl:v=[]:=List.eq_nil_of_length_eq_zero (zaw h8 h9 hp.2.1)
   have hwa:=zaW h9 hp.2.2.2
   have hro:=hroom
   have hT:=hA t hlt
   by_cases h1:op=1
   ·subst h1
    rw[zhQ]
    exact zkS n [] t c0 c1 c2 c3 B base mb K X s d W hv hm (hro.mono (by omega)) hd
   ·rw[zdX _ _ _ _ _ _ _ h3 h6 h8 h9 h1]
    have hpl:=zdU hp.1 h1 h3 h6 h8 h9
    have hcn:=hp.2.1
    have hn:I64 n:=by
     obtain ⟨_,_,_,_,_,_,_,_,_,_,hn⟩:=TrmR.shape hv
     exact hn
    simp only[plainB,List.contains_eq_mem,List.mem_cons,List.not_mem_nil,or_false,decide_eq_true_eq] at hpl
    rcases hpl with rfl | rfl | rfl | rfl | rfl | rfl | rfl | rfl | rfl | rfl | rfl | rfl | rfl | rfl
    ·obtain rfl:t=[]:=List.eq_nil_of_length_eq_zero (by simpa[Trm.countsB] using hcn)
     exact zlX n [] [] c0 c1 c2 c3 B base mb K X s d W hv hm (hro.mono (by omega)) hd
    ·exact zaX 5 n [] t hT (by decide) (by decide) (by decide) (by decide) (by decide) (by decide) (by decide) (by decide) (by decide) (by decide) c0 c1 c2 c3 B base mb K X s d nc nk fr sc W hv hm hwa hro fun ov ot lv cvv lt ct rs ol ll cl K s W hl hz hi hr=>zhc n ov ot lv cvv lt ct rs (by rw[hl];simpa[Trm.countsB] using hcn) ol ll cl B base mb K X s d W hz hi hn hr hd
    ·exact zaX 10 n [] t hT (by decide) (by decide) (by decide) (by decide) (by decide) (by decide) (by decide) (by decide) (by decide) (by decide) c0 c1 c2 c3 B base mb K X s d nc nk fr sc W hv hm hwa hro fun ov ot lv cvv lt ct rs ol ll cl K s W hl hz hi hr=>zfE n ov ot lv cvv lt ct rs ol ll cl B base mb K X s d W hz hi hn hr hd
    ·obtain rfl:t=[]:=List.eq_nil_of_length_eq_zero (by simpa[Trm.countsB] using hcn)
     exact zjX n [] [] c0 c1 c2 c3 B base mb K X s d W hv hm (hro.mono (by omega)) hd
    ·exact zaX 12 n [] t hT (by decide) (by decide) (by decide) (by decide) (by decide) (by decide) (by decide) (by decide) (by decide) (by decide) c0 c1 c2 c3 B base mb K X s d nc nk fr sc W hv hm hwa hro fun ov ot lv cvv lt ct rs ol ll cl K s W hl hz hi hr=>zgg n ov ot lv cvv lt ct rs (by rw[hl];exact Nat.le_of_eq (show t.length=1 from by simpa[Trm.countsB] using hcn).symm) ol ll cl B base mb K X s d W hz hi hn hr hd
    ·obtain rfl:t=[]:=List.eq_nil_of_length_eq_zero (by simpa[Trm.countsB] using hcn)
     exact zjK n [] [] c0 c1 c2 c3 B base mb K X s d W hv hm (hro.mono (by omega)) hd
    ·exact zaX 15 n [] t hT (by decide) (by decide) (by decide) (by decide) (by decide) (by decide) (by decide) (by decide) (by decide) (by decide) c0 c1 c2 c3 B base mb K X s d nc nk fr sc W hv hm hwa hro fun ov ot lv cvv lt ct rs ol ll cl K s W hl hz hi hr=>zgm n ov ot lv cvv lt ct rs (by rw[hl];exact Nat.le_of_eq (show t.length=1 from by simpa[Trm.countsB] using hcn).symm) ol ll cl B base mb K X s d W hz hi hn hr hd
    ·exact zaX 16 n [] t hT (by decide) (by decide) (by decide) (by decide) (by decide) (by decide) (by decide) (by decide) (by decide) (by decide) c0 c1 c2 c3 B base mb K X s d nc nk fr sc W hv hm hwa hro fun ov ot lv cvv lt ct rs ol ll cl K s W hl hz hi hr=>zfL n ov ot lv cvv lt ct rs (by rw[hl];exact Nat.le_of_eq (show t.length=1 from by simpa[Trm.countsB] using hcn).symm) ol ll cl B base mb K X s d W hz hi hn hr hd
    ·exact zaX 17 n [] t hT (by decide) (by decide) (by decide) (by decide) (by decide) (by decide) (by decide) (by decide) (by decide) (by decide) c0 c1 c2 c3 B base mb K X s d nc nk fr sc W hv hm hwa hro fun ov ot lv cvv lt ct rs ol ll cl K s W hl hz hi hr=>zf9 n ov ot lv cvv lt ct rs (by rw[hl];exact Nat.le_of_eq (show t.length=2 from by simpa[Trm.countsB] using hcn).symm) ol ll cl B base mb K X s d W hz hi hn hr hd
    ·exact zaX 18 n [] t hT (by decide) (by decide) (by decide) (by decide) (by decide) (by decide) (by decide) (by decide) (by decide) (by decide) c0 c1 c2 c3 B base mb K X s d nc nk fr sc W hv hm hwa hro fun ov ot lv cvv lt ct rs ol ll cl K s W hl hz hi hr=>zgn n ov ot lv cvv lt ct rs (by rw[hl];exact Nat.le_of_eq (show t.length=2 from by simpa[Trm.countsB] using hcn).symm) ol ll cl B base mb K X s d W hz hi hn hr hd
    ·exact zaX 19 n [] t hT (by decide) (by decide) (by decide) (by decide) (by decide) (by decide) (by decide) (by decide) (by decide) (by decide) c0 c1 c2 c3 B base mb K X s d nc nk fr sc W hv hm hwa hro fun ov ot lv cvv lt ct rs ol ll cl K s W hl hz hi hr=>zgl n ov ot lv cvv lt ct rs ol ll cl B base mb K X s d W hz hi hn hr hd
    ·obtain rfl:t=[]:=List.eq_nil_of_length_eq_zero (by simpa[Trm.countsB] using hcn)
     exact zjA n [] [] c0 c1 c2 c3 B base mb K X s d W hv hm (hro.mono (by omega)) hd
    ·obtain rfl:t=[]:=List.eq_nil_of_length_eq_zero (by simpa[Trm.countsB] using hcn)
     exact zjg n [] [] c0 c1 c2 c3 B base mb K X s d W hv hm (hro.mono (by omega)) hd
    ·exact zaX 22 n [] t hT (by decide) (by decide) (by decide) (by decide) (by decide) (by decide) (by decide) (by decide) (by decide) (by decide) c0 c1 c2 c3 B base mb K X s d nc nk fr sc W hv hm hwa hro fun ov ot lv cvv lt ct rs ol ll cl K s W hl hz hi hr=>zf0 n ov ot lv cvv lt ct rs (by rw[hl];simpa[Trm.countsB] using hcn) ol ll cl B base mb K X s d W hz hi hn hr hd
  intro e
  cases e with
  | false=>
   intro c0 c1 c2 c3 B base mb K X s d nc nk fr sc W hv hm hw hroom hd
   exact hfr c0 c1 c2 c3 B base mb K X s d nc nk fr sc W hv hm hw (hroom.mono (by rw[hall];omega)) hd
  | true=>
   intro c0 c1 c2 c3 B base mb K X s d nc nk fr sc W hv hm hw hroom hd
   have hp:=zaE hw
   obtain rfl:v=[]:=List.eq_nil_of_length_eq_zero (zaw h8 h9 hp.2.1)
   have hwa:=zaW h9 hp.2.2.2
   have hcn:=hp.2.1
   have hro:Room s (2+6*Trm.allL t):=hroom.mono (by rw[hall];omega)
   have hT:=hA t hlt
   cases he:Mk.endsB op n with
   | true=>
    rw[zkQ _ _ _ _ _ _ _ h3 h6 h8 h9 he]
    refine zet op n [] t h3 h6 h8 h9 c0 c1 c2 c3 B base mb K X s _ d W hv hm fun W1 hv1 hm1=>?_
    simp only[Mk.endsB,Bool.or_eq_true,Bool.and_eq_true,decide_eq_true_eq] at he
    rcases he with rfl | rfl | ⟨rfl,hn⟩
    ·exact zk8 n [] t hT (by simpa[Trm.countsB] using hcn) c0 c1 c2 c3 B base mb K X s nc nk fr sc W1 hv1 hm1 hwa hro
    ·exact zjw n [] t hT (by simpa[Trm.countsB] using hcn) c0 c1 c2 c3 B base mb K X s nc nk fr sc W1 hv1 hm1 hwa hro
    ·exact zkc n [] t hT hn c0 c1 c2 c3 B base mb K X s nc nk fr sc W1 hv1 hm1 hwa hro
   | false=>
    rw[zif _ _ _ _ _ _ _ h3 h6 h8 h9 he]
    refine zet op n [] t h3 h6 h8 h9 c0 c1 c2 c3 B base mb K X s _ d W hv hm fun W1 hv1 hm1=>?_
    simp only[Mk.endsB,Bool.or_eq_false_iff,Bool.and_eq_false_iff,decide_eq_false_iff_not] at he
    have hrm:Room s (4+6*Trm.allL t):=hroom.mono (by rw[hall];omega)
    refine zgk (2+6*Trm.allL t+1) op n [] t (zh7 _ _ hfr) he.1 he.2.1 (he.2.2.imp id (fun h=>Int.not_le.1 h)) c0 c1 c2 c3 B base mb K X s nc nk fr sc W1 hv1 hm1 hw (hrm.mono (by omega)) ?_
    by_cases h1:op=1
    ·subst h1
     rw[show Mk.had Mk.lkF (.mk 1 n [] t) s=(Mk.lkF s.vars n,s) by simp[Mk.had,Mk.hadW,Trm.op,Trm.n]]
     exact ⟨hrm.mono (by omega),hrm.lk Mk.lkF_ok n⟩
    ·rw[show Mk.had Mk.lkF (.mk op n [] t) s=(s.regs,Mk.into Mk.lkF (.mk op n [] t) s.regs false s.fresh) from if_neg h1,zdX Mk.lkF op n [] t s.regs s.fresh h3 h6 h8 h9 h1]
     exact ⟨Room.strict (k:=1) (Room.allT (k:=3) Mk.lkF_ok t s.fresh (Room.fresh (hrm.mono (by omega)))).1 _ _ _ _,hrm.2.1,by have:=hrm.2.2.1;omega⟩
end
section
open Go Go.RowKit Go.Deep Go.ChangeShapes Go.WideShapes Go.ChangeAt
theorem Trm.slimL_iff:∀{l:List Trm},Trm.slimL l↔∀x∈l,Trm.slim x
 | []=>by simp[Trm.slimL]
 | y::l=>by rw[Trm.slimL,Trm.slimL_iff (l:=l)];simp
section
variable {H : Type} {enc : TypeId × Value → H}
theorem zcq {w:World}:∀(fuel:Nat) (cs:List Value) (y:DataW H × List MemPlace),DataW.trod enc prog w 0 (fun _=>true) true fuel 27 cs=some y→(∀n∈y.1.weights prog 27,n≤reachBytes)→∃x,TrmR w w.heap.size x cs∧x.slim:=by
 intro fuel
 induction fuel using Nat.strongRecOn with
 | _ fuel ih=>
  intro cs y h hw
  obtain ⟨xs,n,hn,rfl,hlen,hxs,hget⟩:=DataW.trod_struct underlying27 h
  rw[show prog.cellsOf 27=4 by kernel_rfl] at hlen
  match cs,hlen with
  | [c0,c1,c2,c3],_=>
   have g0:DataW.trod enc prog w 0 (fun _=>true) true n 3 (([c0,c1,c2,c3].drop 0).take (prog.cellsOf 3))=xs[0]?:=hget 0 _ rfl
   have g1:DataW.trod enc prog w 0 (fun _=>true) true n 3 (([c0,c1,c2,c3].drop 1).take (prog.cellsOf 3))=xs[1]?:=hget 1 _ rfl
   have g2:DataW.trod enc prog w 0 (fun _=>true) true n 24 (([c0,c1,c2,c3].drop 2).take (prog.cellsOf 24))=xs[2]?:=hget 2 _ rfl
   have g3:DataW.trod enc prog w 0 (fun _=>true) true n 25 (([c0,c1,c2,c3].drop 3).take (prog.cellsOf 25))=xs[3]?:=hget 3 _ rfl
   rw[zeA] at g0 g1
   rw[show prog.cellsOf 24=1 by kernel_rfl] at g2
   rw[show prog.cellsOf 25=1 by kernel_rfl] at g3
   have hx4:xs.length=4:=hxs
   match xs,hx4 with
   | [x0,x1,x2,x3],_=>
    obtain ⟨k,e0,_,w0⟩:=DataW.trod_int underlying3 (show _=some x0 from g0)
    obtain ⟨m,e1,_,w1⟩:=DataW.trod_int underlying3 (show _=some x1 from g1)
    have f0:c0=.int .i64 k:=by simpa using e0
    have f1:c1=.int .i64 m:=by simpa using e1
    subst f0 f1
    have we:∀(i:Nat) (t:TypeId) (z:DataW H),[3,3,24,25][i]?=some t→[x0.1,x1.1,x2.1,x3.1][i]?=some z→∀n∈z.weights prog t,n≤reachBytes:=by
     intro i t z ht hz q hq
     refine hw q ?_
     show q∈DataW.weights prog 27 (.agg _)
     simp only[DataW.weights,underlying27]
     exact zaG i ht hz q hq
    obtain ⟨l,hl⟩:=zcm n c2 x2 (show _=some x2 from g2) (we 2 24 _ rfl rfl)
    obtain ⟨o2,n2,k2,rfl⟩:=hl.form
    have hs:n2*8≤140737488351232:=zbN underlying24 (by kernel_rfl) (show _=some x2 from g2) (we 2 24 _ rfl rfl)
    obtain ⟨l2,hl2⟩:=zec (te:=27) (size:=4) (bs:=64) underlying25 (by kernel_rfl) (by kernel_rfl) (by omega) (by omega) (R:=fun x cs=>TrmR w w.heap.size x cs∧x.slim) n (fun n' cs' y hlt hy hw=>ih n' (by omega) cs' y hy hw) c3 x3 (show _=some x3 from g3) (we 3 25 _ rfl rfl)
    obtain ⟨hl3,hl4⟩:=hl2.both
    obtain ⟨o3,n3,k3,rfl⟩:=hl3.form
    have hs3:n3*64≤140737488351232:=zbN underlying25 (by kernel_rfl) (show _=some x3 from g3) (we 3 25 _ rfl rfl)
    exact ⟨.mk k m l l2,zas.2 ⟨_,_,rfl,zio w0,zio w1,hl,hl3⟩,by
     rw[Trm.slim]
     refine ⟨?_,?_,Trm.slimL_iff.2 hl4⟩
     ·rw[←hl.lens.1];omega
     ·rw[←hl3.lens.1];omega⟩
theorem zd1 {w:World} (n':Nat) (cs:List Value) (y:DataW H × List MemPlace) (h:DataW.trod enc prog w 0 (fun _=>true) true n' 43 cs=some y) (hw:∀n∈y.1.weights prog 43,n≤reachBytes):∃x,CodR w w.heap.size x cs∧x.body.slim:=by
 obtain ⟨xs,n,rfl,rfl,hlen,hxs,hget⟩:=DataW.trod_struct underlying43 h
 rw[show prog.cellsOf 43=6 by kernel_rfl] at hlen
 match cs,hlen with
 | [c0,c1,c2,c3,c4,c5],_=>
  have g0:DataW.trod enc prog w 0 (fun _=>true) true n 24 (([c0,c1,c2,c3,c4,c5].drop 0).take (prog.cellsOf 24))=xs[0]?:=hget 0 _ rfl
  have g1:DataW.trod enc prog w 0 (fun _=>true) true n 4 (([c0,c1,c2,c3,c4,c5].drop 1).take (prog.cellsOf 4))=xs[1]?:=hget 1 _ rfl
  have g2:DataW.trod enc prog w 0 (fun _=>true) true n 27 (([c0,c1,c2,c3,c4,c5].drop 2).take (prog.cellsOf 27))=xs[2]?:=hget 2 _ rfl
  rw[show prog.cellsOf 24=1 by kernel_rfl] at g0
  rw[show prog.cellsOf 4=1 by kernel_rfl] at g1
  rw[show prog.cellsOf 27=4 by kernel_rfl] at g2
  have hx3:xs.length=3:=hxs
  match xs,hx3 with
  | [x0,x1,x2],_=>
   obtain ⟨b,e1,_⟩:=DataW.trod_bool underlying4 (show _=some x1 from g1)
   have f1:c1=.bool b:=by simpa using e1
   subst f1
   have we:∀(i:Nat) (t:TypeId) (z:DataW H),[24,4,27][i]?=some t→[x0.1,x1.1,x2.1][i]?=some z→∀n∈z.weights prog t,n≤reachBytes:=by
    intro i t z ht hz q hq
    refine hw q ?_
    show q∈DataW.weights prog 43 (.agg _)
    simp only[DataW.weights,underlying43]
    exact zaG i ht hz q hq
   obtain ⟨l,hl⟩:=zcm n c0 x0 (show _=some x0 from g0) (we 0 24 _ rfl rfl)
   obtain ⟨o2,n2,k2,rfl⟩:=hl.form
   have hs:n2*8≤140737488351232:=zbN underlying24 (by kernel_rfl) (show _=some x0 from g0) (we 0 24 _ rfl rfl)
   obtain ⟨t,ht,hts⟩:=zcq n [c2,c3,c4,c5] x2 (show _=some x2 from g2) (we 2 27 _ rfl rfl)
   exact ⟨⟨l,b,t⟩,⟨_,c2,c3,c4,c5,rfl,hl,ht⟩,hts⟩
theorem zeo {W:World} {r:Reach} {b0:Nat} {v:Value} {d:DataW H} {ps:List MemPlace} (hval:Value.okWide prog W r b0 29 v) (hd:DataW.Trod enc prog W 0 (fun _=>true) true 29 v d ps) (hw:∀n∈d.weights prog 29,n≤reachBytes):∃m,MdlR W W.heap.size m v∧m.slim:=by
 unfold Value.okWide at hval
 rw[underlying29] at hval
 obtain ⟨⟨cs⟩,rfl,_⟩:=hval
 obtain ⟨fuel,hf⟩:=hd
 have hf':DataW.trod enc prog W 0 (fun _=>true) true fuel 29 cs=some (d,ps):=by simpa[Value.cells] using hf
 obtain ⟨xs,n,rfl,hd2,hlen,hxs,hget⟩:=DataW.trod_struct underlying29 hf'
 obtain rfl:d=_:=congrArg Prod.fst hd2
 rw[show prog.cellsOf 29=6 by kernel_rfl] at hlen
 match cs,hlen with
 | [c0,c1,c2,c3,c4,c5],_=>
  have g0:DataW.trod enc prog W 0 (fun _=>true) true n 22 (([c0,c1,c2,c3,c4,c5].drop 0).take (prog.cellsOf 22))=xs[0]?:=hget 0 _ rfl
  have g1:DataW.trod enc prog W 0 (fun _=>true) true n 23 (([c0,c1,c2,c3,c4,c5].drop 1).take (prog.cellsOf 23))=xs[1]?:=hget 1 _ rfl
  have g2:DataW.trod enc prog W 0 (fun _=>true) true n 27 (([c0,c1,c2,c3,c4,c5].drop 2).take (prog.cellsOf 27))=xs[2]?:=hget 2 _ rfl
  rw[zdl] at g0
  rw[show prog.cellsOf 23=1 by kernel_rfl] at g1
  rw[show prog.cellsOf 27=4 by kernel_rfl] at g2
  have hx3:xs.length=3:=hxs
  match xs,hx3 with
  | [x0,x1,x2],_=>
   have we:∀(i:Nat) (t:TypeId) (z:DataW H),[22,23,27][i]?=some t→[x0.1,x1.1,x2.1][i]?=some z→∀n∈z.weights prog t,n≤reachBytes:=by
    intro i t z ht hz q hq
    refine hw q ?_
    show q∈DataW.weights prog 29 (.agg _)
    simp only[DataW.weights,underlying29]
    exact zaG i ht hz q hq
   obtain ⟨l,hl⟩:=zdZ n c0 x0 (show _=some x0 from g0) (we 0 22 _ rfl rfl)
   obtain ⟨l2,hl2⟩:=zcA (te:=43) (size:=6) (bs:=96) underlying23 (by kernel_rfl) (by kernel_rfl) (by omega) (by omega) (R:=fun x cs=>CodR W W.heap.size x cs∧x.body.slim) (fun n' cs' y hy hw=>zd1 n' cs' y hy hw) n c1 x1 (show _=some x1 from g1) (we 1 23 _ rfl rfl)
   obtain ⟨t,ht,hts⟩:=zcq n [c2,c3,c4,c5] x2 (show _=some x2 from g2) (we 2 27 _ rfl rfl)
   obtain ⟨hl3,hl4⟩:=hl2.both
   exact ⟨⟨l,l2,t⟩,⟨c0,c1,c2,c3,c4,c5,rfl,hl,hl3,ht⟩,hts,hl4⟩
end
end
section
open Go Go.RowKit Mk
theorem ZkS.gap {W:World} {base mb H:Nat} {K:KV} {X:Nat→Prop} {s:MSt} (h:ZkS W base mb K X s) (hH:H≤base) (hX:∀b,b<H→X b):SlC (Go.Proofs.YtdcajmeeeoofgaaGreatDoor.gap W 0 H) W.heap.size 5 (InsR (Go.Proofs.YtdcajmeeeoofgaaGreatDoor.gap W 0 H) W.heap.size) s.code K.c:=by
 obtain ⟨xs,hr,hc⟩:=h.row
 have h1:=za0 (zbL (lo:=0) hr hH) (hc.mono fun x _ cs hx=>show InsR (Go.Proofs.YtdcajmeeeoofgaaGreatDoor.gap W 0 H) W.heap.size x cs from by
  obtain ⟨sl,rfl,a1,a2,a3,a4,a5⟩:=hx
  exact ⟨sl,rfl,a1,a2,a3,a4,a5.gap fun b hb=>.inr (hX b hb)⟩)
 rwa[zcv] at h1
theorem zd9 (c:Cod) (vs c0 c1 c2 c3:Value) (B:Nat) (nc nk:Int) (fr:Bool) (sc:Int→Bool) (W:World) (hv:CodR W B c [vs,.bool c.rest,c0,c1,c2,c3]) (hB:B≤W.heap.size) (hw:Trm.wf nc nk fr c.body sc=true) (hroom:c.v.length≤1000001∧6*c.body.all≤800000) :
  Calls prog 18 #[.agg #[vs,.bool c.rest,c0,c1,c2,c3]] W (ProcPost W.heap.size (Mk.proc Mk.lkF c) W):=by
 obtain ⟨vs',b0,b1,b2,b3,he,hvs,hbody⟩:=hv
 simp only[List.cons.injEq,and_true] at he
 obtain ⟨rfl,_,rfl,rfl,rfl,rfl⟩:=he
 obtain ⟨v,rest,body⟩:=c
 dsimp only at *
 obtain ⟨ov,lv,cvv,rfl⟩:=hvs.form
 obtain ⟨hlv,hlc,hlm⟩:=hvs.lens
 obtain ⟨q,r,u,q',r',u',rfl,rfl,rfl,rfl,hbn⟩:=TrmR.shape hbody
 obtain ⟨W4,hW4⟩:∃W4,((W.alloc (.cells #[.slice ov lv cvv,.bool rest,.int .i64 body.op,.int .i64 body.n,.slice q r u,.slice q' r' u'] 43)).alloc (.cells #[.int .i64 0,.bool false,.int .i64 0,.slice none 0 0,.slice none 0 0] 47)).alloc (.cells #[.slice none 0 0,.int .i64 lv,.slice none 0 0,.slice none 0 0] 86)=W4:=⟨_,rfl⟩
 have HB4:=zh (show Below W.heap.size W W4 from by rw[←hW4];exact ((Below.one W _).trans ((Below.one _ _).mono (by simp))).trans ((Below.one _ _).mono (by simp;omega)))
 have HC:=zh (show BoxL W4 W.heap.size 43 [.slice ov lv cvv,.bool rest,.int .i64 body.op,.int .i64 body.n,.slice q r u,.slice q' r' u'] from by rw[←hW4];exact ((BoxL.new rfl _ _).alloc _).alloc _)
 have HP:=zh (show BoxL W4 (W.heap.size+1) 47 [.int .i64 0,.bool false,.int .i64 0,.slice none 0 0,.slice none 0 0] from by rw[←hW4];exact (BoxL.new (by simp) _ _).alloc _)
 have HX:=zh (show BoxL W4 (W.heap.size+1+1) 86 [.slice none 0 0,.int .i64 lv,.slice none 0 0,.slice none 0 0] from by rw[←hW4];exact BoxL.new (by simp) _ _)
 have hs4:W4.heap.size=W.heap.size+1+1+1:=by rw[←hW4];simp
 have HI:=zh (show ZkIn W4 B (W.heap.size+1+1+1) (W.heap.size+1+1) ⟨.slice none 0 0,.slice none 0 0,.slice none 0 0⟩ (fun b=>b<W.heap.size+1+1) ⟨[],lv,varsTo v 0⟩ from
  ⟨⟨HX.out,⟨[],World.ownsRow_nil _ _ _ _,rfl⟩,World.ownsRow_nil _ _ _ _,World.ownsRow_nil _ _ _ _,fun b hb=>by simp[Value.ownBlock] at hb,fun p hp=>by simp[varsTo] at hp⟩,by omega,by omega,by omega,fun b hb=>by omega⟩)
 have HV:=zh (show SlC W4 B 1 IntR v (.slice ov lv cvv) from hvs.kept (HB4.out.mono hB) fun _ _ _ h=>h)
 have HBD:=zh (TrmR.kept (HB4.out.mono hB) _ _ hbody)
 have HW:=zh hW4
 have HLV:=zh hlv
 have HS4:=zh hs4
 have HWF:=zh hw
 have hbp:=body.all_pos
 have HRO:=zh hroom
 have hlr:lv≤1000001:=by omega
 clear hW4 hlv hs4 hw hroom hvs hbody hbn HX
 go_enter func18,ntmps18
 go_upto_region 2 with fail
 rw[HW.out]
 have e0:=HC.out.cell 0 rfl
 have el:=HC.out.lt
 go_wp2_with fail
 go_loopg [4] lv (fun g i wr=>∃(j:Nat) (K:KV),g=lv-j∧i=.int .i64 j∧j≤lv∧Hid (ZkGo B (W.heap.size+1+1+1) (W.heap.size+1+1) ⟨.slice none 0 0,.slice none 0 0,.slice none 0 0⟩ K (fun b=>b<W.heap.size+1+1) ⟨[],lv,varsTo v j⟩ W4 wr))
 case atStart=>exact ⟨0,_,rfl,rfl,by omega,zh (ZkGo.refl HI.out)⟩
 case round=>
  obtain ⟨j,K,rfl,rfl,hj,HG⟩:=hrel
  clear e0 el
  have HC1:=zh (HG.out.box HI.out HC.out (by decide) (by decide) (by decide))
  have e0:=HC1.out.cell 0 rfl
  have el:=HC1.out.lt
  by_cases hjl:j<lv
  ·obtain ⟨x,hx⟩:∃x,v[j]?=some x:=⟨_,List.getElem?_eq_getElem (by rw[←HLV.out];exact hjl)⟩
   obtain ⟨xb,xoff,hxo,hxb,hxc,hxi⟩:=SlC.int (HV.out.kept HG.out.low fun _ _ _ h=>h) hx
   subst hxo
   have hxl:=zac hxc
   have HSN:=zh (zcS hx)
   have hvl:=zbT v j (by have:=HLV.out;omega)
   have HBD:=zh (zcD x (j:Int) wr HG.out.inn (by show (varsTo v j).length≤_;omega) hxi ⟨by omega,by omega⟩)
   clear hx hxi hvl
   go_wp2_with fail
   with_reducible refine HBD.out.mono ?_
   rintro e w4 ⟨rfl,K4,hg4⟩
   have HG5:=zh (show ZkGo B (W.heap.size+1+1+1) (W.heap.size+1+1) ⟨.slice none 0 0,.slice none 0 0,.slice none 0 0⟩ K4 (fun b=>b<W.heap.size+1+1) ⟨[],lv,varsTo v (j+1)⟩ W4 w4 from by rw[HSN.out];exact HG.out.next hg4)
   clear hg4 hxc hxl e0 el HBD
   go_wp2_with fail
   go_roundg (lv-(j+1))
   case measure=>omega
   case rel=>exact ⟨j+1,K4,rfl,by go_num,by omega,HG5⟩
  ·obtain rfl:j=lv:=by omega
   have hvt:varsTo v j=v.zip ((List.range v.length).map fun (i:Nat)=>(i:Int)):=by unfold varsTo;rw[HLV.out,List.take_length]
   have hg:=HG.out
   rw[hvt] at hg
   have HG2:=zh hg
   have HC2:=zh (hg.box HI.out HC.out (by decide) (by decide) (by decide))
   have HP2:=zh (hg.box HI.out HP.out (by decide) (by decide) (by decide))
   have hrm:Room ⟨[],(j:Int),v.zip ((List.range v.length).map fun (i:Nat)=>(i:Int))⟩ (6*body.all):=by
    have h1:=HRO.out
    have h2:=HLV.out
    refine ⟨by simp;omega,by simp,by dsimp only;omega,fun p hp=>?_,by simp;omega⟩
    have:=(List.of_mem_zip hp).2
    simp only[List.mem_map,List.mem_range] at this
    obtain ⟨i,hi,e⟩:=this
    omega
   have HIN:=zh (zcV body.all body (Nat.le_refl _) true _ _ _ _ B _ _ _ _ _ 0 nc nk fr sc wr (TrmR.kept hg.low _ _ HBD.out) hg.inn HWF.out (hrm.mono (by omega)) ⟨by omega,by omega⟩)
   have HRM:=zh (Room.into Mk.lkF_ok body 0 true _ 0 (hrm.mono (by omega)))
   obtain ⟨S,hS⟩:∃S,Mk.into Mk.lkF body 0 true ⟨[],(j:Int),v.zip ((List.range v.length).map fun (i:Nat)=>(i:Int))⟩=S:=⟨_,rfl⟩
   rw[hS] at HIN HRM
   have HFIN:=zh (show Mk.proc Mk.lkF ⟨v,rest,body⟩=⟨(j:Int),rest,S.regs,S.code,[]⟩ from by
    have:=HLV.out
    unfold Mk.proc
    dsimp only
    rw[←hS,this])
   clear e0 el
   have ee:=HC2.out.cell 0 rfl
   have e0:=HC2.out.cell 2 rfl
   have e1:=HC2.out.cell 3 rfl
   have e2:=HC2.out.cell 4 rfl
   have e3:=HC2.out.cell 5 rfl
   have el:=HC2.out.lt
   clear hg hvt hrm hS HG
   go_wp2_with fail
   with_reducible refine HIN.out.mono ?_
   rintro e w3 ⟨rfl,K3,hg3⟩
   have HG3:=zh (HG2.out.next hg3)
   have HC3:=zh (hg3.box HG2.out.inn HC2.out (by decide) (by decide) (by decide))
   have HP3:=zh (hg3.box HG2.out.inn HP2.out (by decide) (by decide) (by decide))
   clear hg3 ee e0 e1 e2 e3 el
   have q0:=HC3.out.cell 0 rfl
   have q1:=HC3.out.cell 1 rfl
   have ql:=HC3.out.lt
   obtain ⟨oc,cc,hkc⟩:∃oc cc,K3.c=.slice oc S.code.length cc:=by obtain ⟨xs,hr,_⟩:=HG3.out.inn.st.row;exact zbg hr
   have HKC:=zh hkc
   have bx3:=HG3.out.inn.st.box
   rw[hkc] at bx3
   have m0:=bx3.cell 0 rfl
   have m1:=bx3.cell 1 rfl
   have ml:=bx3.lt
   clear hkc bx3
   go_upto_region 7 with fail
   have HD:=zh ((Below.refl w3.heap.size w3).drew)
   refine zaa (Below w3.heap.size w3) 14 (by kernel_rfl) (by kernel_rfl) HD.out ?_
   intro T0 _ WW HWW HWW2
   have z0:∀t,(WW t).cell? _=_:=fun t=>((HWW t).cell (p:=⟨W.heap.size,0,none⟩) ql).trans q0
   have z1:∀t,(WW t).cell? _=_:=fun t=>((HWW t).cell (p:=⟨W.heap.size,1,none⟩) ql).trans q1
   have z2:∀t,(WW t).cell? _=_:=fun t=>((HWW t).cell (p:=⟨W.heap.size+1+1,0,none⟩) ml).trans m0
   have z3:∀t,(WW t).cell? _=_:=fun t=>((HWW t).cell (p:=⟨W.heap.size+1+1,1,none⟩) ml).trans m1
   have HWH:=zh HWW
   clear HWW HWW2
   simp only[List.take_succ_cons,List.take_zero,List.drop_succ_cons,List.drop_zero]
   repeat (go_big_quiet_step (fail))
   refine wpQuiet_nil ?_
   intro t'
   obtain ⟨W3,hW3⟩:∃W3,WW t'=W3:=⟨_,rfl⟩
   have HB3:=zh (show Below w3.heap.size w3 W3 from hW3 ▸ HWH.out t')
   rw[hW3]
   clear z0 z1 z2 z3 hW3 HWH q0 q1 ql m0 m1 ml
   have HG5:=zh (HG3.out.after HB3.out)
   have HP5:=zh (HP3.out.keep HB3.out)
   have p0:=HP5.out.cell 0 rfl
   have p1:=HP5.out.cell 1 rfl
   have p2:=HP5.out.cell 2 rfl
   have p3:=HP5.out.cell 3 rfl
   have p4:=HP5.out.cell 4 rfl
   have f0:=HP5.out.free 0
   have f1:=HP5.out.free 1
   have f2:=HP5.out.free 2
   have f3:=HP5.out.free 3
   have f4:=HP5.out.free 4
   have pl:=HP5.out.lt
   have bN:=((((HP5.out.set 0 (.int .i64 (j:Int))).set 1 (.bool rest)).set 2 (.int .i64 S.regs)).set 3 (.slice oc S.code.length cc)).set 4 (.slice none 0 0)
   have n0:=bN.cell 0 rfl
   have n1:=bN.cell 1 rfl
   have n2:=bN.cell 2 rfl
   have n3:=bN.cell 3 rfl
   have n4:=bN.cell 4 rfl
   go_wp2_with fail
   obtain ⟨WF,hWF⟩:∃WF,(((((W3.setCell ⟨W.heap.size+1,0,none⟩ (.int .i64 (j:Int))).setCell ⟨W.heap.size+1,1,none⟩ (.bool rest)).setCell ⟨W.heap.size+1,2,none⟩ (.int .i64 S.regs)).setCell ⟨W.heap.size+1,3,none⟩ (.slice oc S.code.length cc)).setCell ⟨W.heap.size+1,4,none⟩ (.slice none 0 0))=WF:=⟨_,rfl⟩
   rw[hWF] at n0 n1 n2 n3 n4 ⊢
   have hT:Turned (fun b=>b=W.heap.size+1) W3 WF:=by
    rw[←hWF]
    have ht:∀(A:World) (i:Nat) (v:Value),Turned (fun b=>b=W.heap.size+1) A (A.setCell ⟨W.heap.size+1,i,none⟩ v):=fun A i v=>Turned.set (S:=fun b=>b=W.heap.size+1) A ⟨W.heap.size+1,i,none⟩ v rfl
    exact ((((ht _ _ _).next (ht _ _ _)).next (ht _ _ _)).next (ht _ _ _)).next (ht _ _ _)
   have hst:=HG5.out.inn.st.keep (X':=fun b=>b<W.heap.size+1+1) hT (fun b _ hb=>⟨by rw[hb];omega,by rw[hb];exact HG5.out.inn.st.boxApart HP5.out (by decide) (by decide) (by decide)⟩) (fun _ _ h=>h)
   have hcode:=hst.gap (H:=W.heap.size) (by omega) (fun b hb=>by omega)
   rw[HKC.out] at hcode
   have hbl:Below W.heap.size W4 W3:=HG5.out.turned.below (fun b hb=>by
    rcases hb with rfl | hb | hb | hb
    ·omega
    ·simp[Value.ownBlock] at hb
    ·simp[Value.ownBlock] at hb
    ·simp[Value.ownBlock] at hb) HB4.out.size
   refine bodyPost_ret (v:=.agg #[.int .i64 (j:Int),.bool rest,.int .i64 S.regs,.slice oc S.code.length cc,.slice none 0 0]) (by simp[results,results18,go_sem,n0,n1,n2,n3,n4]) rfl ⟨oc,S.code.length,cc,by rw[HFIN.out],?_,(HB4.out.trans hbl).trans (hT.below (fun b hb=>by omega) (by have:=(HB4.out.trans hbl).size;omega))⟩
   rw[HFIN.out]
   exact ⟨_,_,rfl,⟨by dsimp only;omega,by dsimp only;omega⟩,⟨by have:=HRM.out.2.1;dsimp only;omega,by have:=HRM.out.2.2.1;dsimp only;omega⟩,hcode,⟨none,0,0,rfl,rfl,Nat.le_refl _,by omega,rfl,rfl⟩⟩
end
section
open Go Go.RowKit Mk
namespace Mdl
def rErr (m:Mdl):Int:=if m.rokB&&(m.unit Mk.lkL).okB then 0 else 5
def rU (m:Mdl):Unt:=if m.rokB&&(m.unit Mk.lkL).okB then m.unit Mk.lkL else ⟨[],[]⟩
theorem cods_all {m:Mdl} (h:m.rokB=true):∀c∈m.cods,c.body.all≤20000:=fun c hc=>by
 have h1:=(rok_ok h).2
 unfold Mdl.all at h1
 rcases List.mem_append.1 hc with hc | hc
 ·obtain ⟨j,hj⟩:=List.getElem?_of_mem hc
  have:=(zcp m.codes j c hj).2
  omega
 ·rw[List.mem_singleton.1 hc]
  dsimp only
  omega
theorem unit_lists {m:Mdl} (h:m.rokB=true):∀p∈(m.unit Mk.lkL).procs,∀x∈p.code,x.l.length≤1000000:=fun p hp x hx=>by
 rw[zbl] at hp
 obtain ⟨c,hc,rfl⟩:=List.mem_map.1 hp
 have:=zf1 Mk.lkL c (N:=20000) (cods_all h c hc) x hx
 omega
theorem cods_proc {m:Mdl} (h:m.rokB=true):m.cods.map (Mk.proc Mk.lkF)=(m.unit Mk.lkL).procs:=by
 have h1:=zle (rok_ok h).1
 have h2:(m.unit Mk.lkF).procs=m.cods.map (Mk.proc Mk.lkF):=by simp[Mdl.unit,Mdl.cods]
 rw[←h2,h1]
end Mdl
theorem zfh {wr w8 w9:World} {O:Obj} {r:Option Nat} {b:Nat} {t:TypeId} {cs:List Value} (hx:BoxL wr b t cs) (hb:Below wr.heap.size wr w8) (hg:(w8.alloc O).grownBy w9 r) (hr:r≠some b) (a:Addr) (x:Value) (ha:b≠a.block):BoxL (w9.setCell a x) b t cs:=
 ((zbS hg).box (hx.keep hb) hr).other a x ha
theorem zha (m:Mdl) (v:Value) (B:Nat) (w:World) (hv:MdlR w B m v) (hB:B≤w.heap.size) (hs:m.slim) (hn:m.codes.length≤1000) :
  Calls prog 7 #[v] w fun e w'=>∃c p,e=.returned (.tuple #[.agg #[c,p],.int .i64 m.rErr])∧UntR w' w'.heap.size m.rU (.agg #[c,p])∧Below w.heap.size w w':=by
 have hv0:=hv
 obtain ⟨cc,pp,b0,b1,b2,b3,rfl,hcon,hcod,hbody⟩:=hv
 obtain ⟨q,r,u,q',r',u',rfl,rfl,rfl,rfl,hbn⟩:=TrmR.shape hbody
 obtain ⟨oc,lc,cc',rfl⟩:∃o l c,cc=.slice o l c:=by obtain ⟨o,l,c,h,_⟩:=hcon;exact ⟨o,l,c,h⟩
 obtain ⟨op,lp,cp,rfl⟩:=hcod.form
 obtain ⟨W2,hW2⟩:∃W2,(w.alloc (.cells #[.slice oc lc cc',.slice op lp cp,.int .i64 m.body.op,.int .i64 m.body.n,.slice q r u,.slice q' r' u'] 29)).alloc (.cells #[.slice none 0 0,.slice none 0 0] 34)=W2:=⟨_,rfl⟩
 have HB2:=zh (show Below w.heap.size w W2 from by rw[←hW2];exact (Below.one w _).trans ((Below.one _ _).mono (by simp)))
 have HM2:=zh (show BoxL W2 w.heap.size 29 [.slice oc lc cc',.slice op lp cp,.int .i64 m.body.op,.int .i64 m.body.n,.slice q r u,.slice q' r' u'] from by rw[←hW2];exact (BoxL.new rfl _ _).alloc _)
 have HR2:=zh (show BoxL W2 (w.heap.size+1) 34 [.slice none 0 0,.slice none 0 0] from by rw[←hW2];exact BoxL.new (by simp) _ _)
 have hz2:W2.heap.size=w.heap.size+1+1:=by rw[←hW2];simp
 have HW2:=zh hW2
 have HCON:=zh hcon
 have HCOD:=zh hcod
 have HBODY:=zh hbody
 have HCK:=zh (ziR m _ B W2 (hv0.kept (HB2.out.mono hB)) (by omega) hs _ rfl)
 have m0:=HM2.out.cell 0 rfl
 have m1:=HM2.out.cell 1 rfl
 have m2:=HM2.out.cell 2 rfl
 have m3:=HM2.out.cell 3 rfl
 have m4:=HM2.out.cell 4 rfl
 have m5:=HM2.out.cell 5 rfl
 have ml:=HM2.out.lt
 have hlp:=hcod.lens.1
 have HLP:=zh hlp
 have hlp2:=hcod.lens.2
 have hlpn:lp≤1000:=by omega
 clear hW2 hcon hcod hbody hv0 hs hlp
 go_enter func7,ntmps7
 go_upto_region 1 with fail
 rw[HW2.out]
 go_wp2_with fail
 with_reducible refine HCK.out.mono ?_
 rintro e w3 ⟨rfl,hb3⟩
 have HB3:=zh (show Below w.heap.size w w3 from HB2.out.trans (hb3.mono HB2.out.size))
 have HM3:=zh (HM2.out.keep hb3)
 have HR3:=zh (HR2.out.keep hb3)
 have hz3:w.heap.size+2≤w3.heap.size:=by have:=hb3.size;omega
 clear hb3 m0 m1 m2 m3 m4 m5 ml HCK HM2 HR2
 cases hok:m.rokB with
 | false=>
  have HE:=zh (show m.rErr=5 from by simp[Mdl.rErr,hok])
  have HU:=zh (show m.rU=⟨[],[]⟩ from by simp[Mdl.rU,hok])
  have r0:=HR3.out.cell 0 rfl
  have r1:=HR3.out.cell 1 rfl
  have z0:=HR3.out.free 0
  have z1:=HR3.out.free 1
  have rl:=HR3.out.lt
  have bN:=(HR3.out.set 0 (.slice none 0 0)).set 1 (.slice none 0 0)
  have n0:=bN.cell 0 rfl
  have n1:=bN.cell 1 rfl
  have HBF:=zh ((HB3.out.setCell (p:=⟨w.heap.size+1,0,none⟩) (by dsimp only;omega) (.slice none 0 0)).setCell (p:=⟨w.heap.size+1,1,none⟩) (by dsimp only;omega) (.slice none 0 0))
  clear bN
  simp only[Bool.false_eq_true,if_false]
  go_wp2_with fail
  refine bodyPost_ret (v:=.tuple #[.agg #[.slice none 0 0,.slice none 0 0],.int .i64 5]) (by simp[results,results7,go_sem,n0,n1]) rfl ⟨.slice none 0 0,.slice none 0 0,by rw[HE.out],?_,HBF.out⟩
  rw[HU.out]
  exact ⟨_,_,rfl,⟨none,0,0,rfl,rfl,Nat.le_refl _,by omega,rfl,rfl⟩,⟨none,0,0,rfl,rfl,Nat.le_refl _,by omega,rfl,rfl⟩⟩
 | true=>
  simp only[if_true]
  have HOK:=zh hok
  clear hok
  have m0:=HM3.out.cell 0 rfl
  have ml:=HM3.out.lt
  have bz:BoxL (w3.alloc (.cells #[.slice none 0 0,.slice none 0 0] 34)) w3.heap.size 34 [.slice none 0 0,.slice none 0 0]:=BoxL.new rfl _ _
  have y0:=bz.cell 0 rfl
  have y1:=bz.cell 1 rfl
  have f0:=bz.free 0
  have f1:=bz.free 1
  have yl:=bz.lt
  have HBZ:=zh ((bz.set 0 (.slice oc lc cc')).set 1 (.slice none 0 0))
  clear bz
  go_upto_region 4 with fail
  obtain ⟨b4,hb4⟩:∃b4,w3.heap.size=b4:=⟨_,rfl⟩
  obtain ⟨W4,hW4⟩:∃W4,w3.alloc (.cells #[.slice oc lc cc',.slice none 0 0] 34)=W4:=⟨_,rfl⟩
  have HB34:=zh (show Below w3.heap.size w3 W4 from by rw[←hW4];exact Below.one _ _)
  have HB4:=zh (show Below w.heap.size w W4 from HB3.out.trans (HB34.out.mono (by omega)))
  have HU4:=zh (show BoxL W4 b4 34 [.slice oc lc cc',.slice none 0 0] from by rw[←hW4,←hb4];exact BoxL.new rfl _ _)
  have HM4:=zh (HM3.out.keep HB34.out)
  have HR4:=zh (HR3.out.keep HB34.out)
  have hH4:w.heap.size+1<b4:=by omega
  rw[hW4,hb4]
  clear y0 y1 f0 f1 yl HBZ hW4 hb4 m0 ml
  have HLC:=zh (show m.cods.length=lp+1 from by rw[Mdl.cods,List.length_append,HLP.out];rfl)
  have HI0:=zh (show MuI (m.cods.map (Mk.proc Mk.lkF)) m.consts 0 w.heap.size b4 (.slice oc lc cc') (.slice none 0 0) [] w 0 W4 from
   ⟨.slice none 0 0,[],HB4.out,HR4.out,HU4.out,⟨_,_,_,rfl⟩,World.ownsRow_nil _ _ _ _,rfl,⟨w,B,fun b o v hc=>by
    have hl:b<w.heap.size:=zac hc
    refine ⟨Nat.lt_of_lt_of_le hl HB4.out.size,fun h=>?_,keepC HB4.out hc⟩
    rcases h with h | h | h
    ·omega
    ·omega
    ·simp[Value.ownBlock] at h,Nat.le_trans hB HB4.out.size,HCON.out⟩,World.ownsRow_nil _ _ _ _⟩)
  clear HU4 HR4 HM3 HR3 HB34
  have m1:=HM4.out.cell 1 rfl
  have ml:=HM4.out.lt
  go_wp2_with fail
  go_loopg [5] lp (fun G i wr=>∃j:Nat,G=lp-j∧j≤lp∧i=.int .i64 j∧Hid (MuI (m.cods.map (Mk.proc Mk.lkF)) m.consts 0 w.heap.size b4 (.slice oc lc cc') (.slice none 0 0) [] w j wr)∧Hid (BoxL wr w.heap.size 29 [.slice oc lc cc',.slice op lp cp,.int .i64 m.body.op,.int .i64 m.body.n,.slice q r u,.slice q' r' u']))
  case atStart=>exact ⟨0,rfl,by omega,rfl,HI0,HM4⟩
  case round=>
   obtain ⟨j,rfl,hj,rfl,HI,HM5⟩:=hrel
   clear HI0 m1 ml HM4
   obtain ⟨v,xs,hb,hbr,hbx,⟨o5,l5,c5,rfl⟩,hown,hcs,hcons,hrow⟩:=HI.out
   have m1:=HM5.out.cell 1 rfl
   have m2:=HM5.out.cell 2 rfl
   have m3:=HM5.out.cell 3 rfl
   have m4:=HM5.out.cell 4 rfl
   have m5:=HM5.out.cell 5 rfl
   have ml:=HM5.out.lt
   have b0:=hbx.cell 0 rfl
   have b1:=hbx.cell 1 rfl
   have bl:=hbx.lt
   by_cases hjl:j<lp
   ·obtain ⟨c,hcj⟩:∃c,m.codes[j]?=some c:=⟨_,List.getElem?_eq_getElem (by rw[←HLP.out];exact hjl)⟩
    obtain ⟨tb,toff,cs,hto,htb,hcl,hcell,hcr⟩:=HCOD.out.at (hb.mono hB) hcj
    subst hto
    obtain ⟨ov',lv',cv',q1,r1,u1,q2,r2,u2,rfl,hsv,hst⟩:=zcd hcr
    have e0:=hcell 0 _ rfl
    have e1:=hcell 1 _ rfl
    have e2:=hcell 2 _ rfl
    have e3:=hcell 3 _ rfl
    have e4:=hcell 4 _ rfl
    have e5:=hcell 5 _ rfl
    rw[Nat.add_zero] at e0
    have hel:=zac e0
    have hcm:m.cods[j]?=some c:=by rw[Mdl.cods,List.getElem?_append_left (by rw[←HLP.out];exact hjl)];exact hcj
    obtain ⟨p,hp⟩:∃p,Mk.proc Mk.lkF c=p:=⟨_,rfl⟩
    have HPJ:=zh (show (m.cods.map (Mk.proc Mk.lkF))[j]?=some p from by rw[List.getElem?_map,hcm,←hp];rfl)
    have HAL:=zh (show p.alive=[] from by rw[←hp];rfl)
    obtain ⟨nc,nk,fr,sc,hwf⟩:=zeT (Mdl.rok_ok HOK.out).1 c (List.mem_of_getElem? hcm)
    have HPR:=zh (zd9 c _ _ _ _ _ B nc nk fr sc wr.drew (CodR.kept hcr ((hb.mono hB).drew)) (by have:=hb.size;show B≤wr.heap.size;omega) hwf ⟨zdo (Mdl.rok_ok HOK.out).1 c (List.mem_of_getElem? hcm),by have:=Mdl.cods_all HOK.out c (List.mem_of_getElem? hcm);omega⟩)
    rw[hp] at HPR
    have HOWN:=zh hown
    have HBB:=zh hb
    have HRB:=zh hbr
    have HXB:=zh hbx
    have HCS:=zh hcs
    have HCN:=zh hcons
    have HRW:=zh hrow
    have HD7:=zh (show Below wr.heap.size wr wr.drew from (Below.refl _ _).drew)
    have hzr:w.heap.size+2≤wr.heap.size:=by have:=hbx.lt;omega
    obtain ⟨i0,hi,hz0,hz1,hz2⟩:=info_parts zb9
    have hjs:j≤1001:=by omega
    clear hcj hcm hcr hcell hcl hsv hst hb hbr hbx hown hcs hcons hrow hwf hp
    go_upto_region 7 with fail
    clear m2 m3 m4 m5
    go_region_law (first
     | (refine step_append_lies _ rfl (.tmp 21) (.tmp 28) 32 rfl (w.heap.size+2) 47 i0 (.agg #[.int .i64 0,.bool false,.int .i64 0,.slice none 0 0,.slice none 0 0]) 5 72 underlying32 hi hz0 hz1 hz2 rfl (by decide) (.slice o5 l5 c5) j xs rfl (HO8.out.alloc _) ⟨w8.heap.size,0,none⟩ 1 1 [.int .i64 p.args,.bool p.rest,.int .i64 p.regs,.slice o8 l8 c8,.slice none 0 0] rfl rfl (zaS w8 _ _) (by intro u hu;simp only[List.mem_cons,List.not_mem_nil,or_false] at hu;rcases hu with rfl | rfl | rfl | rfl | rfl<;>rfl) (by decide) (by unfold maxLen;omega) (by omega) (by have:=HW8.out.size;simp;omega) (w8.heap.size+1) (by simp) ?_;intro g7 cap7 w9 hown9 hgr9 hlie9 hlt9;have HST:=zh (zdQ HBB.out HRB.out HXB.out HOWN.out HCS.out HCN.out HRW.out hH4 HPJ.out HW8.out (Below.one w8 _) hgr9 HSL8.out HAR8.out.1 HAR8.out.2 HAL.out hown9 (hlie9.imp id (fun h=>by rw[h];simp)));have HMB:=zh (zfh HM5.out HW8.out hgr9 (fun e=>zap HOWN.out e HM5.out (by decide) rfl) ⟨b4,1,none⟩ (.slice (some ⟨g7,0,none⟩) (j+1) cap7) (by dsimp only;omega));have t0:=HST.out.1.cell 1 rfl;have tz:=HST.out.1.free 1;have tl:=HST.out.1.lt;clear hown9 hgr9 hlie9 hlt9)
     | (go_simp;go_wp2_with (go_at_call 18;(with_reducible refine HPR.out.mono ?_);rintro e w8 ⟨o8,l8,c8,rfl,hpr8,hb8⟩;have HW8:=zh (Below.next HD7.out hb8);have HO8:=zh (zam HOWN.out HW8.out);have HSL8:=zh (zc0 hpr8 HD7.out.size);have HAR8:=zh (zcc hpr8);have k1:=(HXB.out.keep HW8.out).cell 1 rfl;have kl:=(HXB.out.keep HW8.out).lt;clear hpr8 hb8)))
    all_goals
     have HN:=zh HST.out.2
     clear t0 tz tl
     go_wp2_with fail
     go_roundg (lp-(j+1))
     case measure=>omega
     case rel=>exact ⟨j+1,by omega,by omega,by go_num,HN,HMB⟩
   ·obtain rfl:j=lp:=by omega
    have hcm:m.cods[j]?=some ⟨[],false,m.body⟩:=by
     rw[Mdl.cods,HLP.out,List.getElem?_append_right (Nat.le_refl _)]
     simp
    obtain ⟨p,hp⟩:∃p,Mk.proc Mk.lkF ⟨[],false,m.body⟩=p:=⟨_,rfl⟩
    have HPJ:=zh (show (m.cods.map (Mk.proc Mk.lkF))[j]?=some p from by rw[List.getElem?_map,hcm,←hp];rfl)
    have HAL:=zh (show p.alive=[] from by rw[←hp];rfl)
    obtain ⟨nc,nk,fr,sc,hwf⟩:=zeT (Mdl.rok_ok HOK.out).1 _ (List.mem_of_getElem? hcm)
    have HPR:=zh (zd9 ⟨[],false,m.body⟩ (.slice none 0 0) _ _ _ _ B nc nk fr sc wr.drew ⟨_,_,_,_,_,rfl,⟨none,0,0,rfl,rfl,Nat.le_refl _,by omega,rfl,rfl⟩,TrmR.kept ((hb.mono hB).drew) _ _ HBODY.out⟩ (by have:=hb.size;show B≤wr.heap.size;omega) hwf ⟨by simp,by have:=Mdl.cods_all HOK.out _ (List.mem_of_getElem? hcm);dsimp only at this ⊢;omega⟩)
    rw[hp] at HPR
    have HOWN:=zh hown
    have HBB:=zh hb
    have HRB:=zh hbr
    have HXB:=zh hbx
    have HCS:=zh hcs
    have HCN:=zh hcons
    have HRW:=zh hrow
    have HD7:=zh (show Below wr.heap.size wr wr.drew from (Below.refl _ _).drew)
    have hzr:w.heap.size+2≤wr.heap.size:=by have:=hbx.lt;omega
    obtain ⟨i0,hi,hz0,hz1,hz2⟩:=info_parts zb9
    have hjs:j≤1001:=by omega
    clear hcm hb hbr hbx hown hcs hcons hrow hwf hp
    go_upto_region 8 with fail
    clear m1
    go_region_law (first
     | (refine step_append_lies _ rfl (.tmp 32) (.tmp 37) 32 rfl (w.heap.size+2) 47 i0 (.agg #[.int .i64 0,.bool false,.int .i64 0,.slice none 0 0,.slice none 0 0]) 5 72 underlying32 hi hz0 hz1 hz2 rfl (by decide) (.slice o5 l5 c5) j xs rfl (HO8.out.alloc _) ⟨w8.heap.size,0,none⟩ 1 1 [.int .i64 p.args,.bool p.rest,.int .i64 p.regs,.slice o8 l8 c8,.slice none 0 0] rfl rfl (zaS w8 _ _) (by intro u hu;simp only[List.mem_cons,List.not_mem_nil,or_false] at hu;rcases hu with rfl | rfl | rfl | rfl | rfl<;>rfl) (by decide) (by unfold maxLen;omega) (by omega) (by have:=HW8.out.size;simp;omega) (w8.heap.size+1) (by simp) ?_;intro g7 cap7 w9 hown9 hgr9 hlie9 hlt9;have HST:=zh (zdQ HBB.out HRB.out HXB.out HOWN.out HCS.out HCN.out HRW.out hH4 HPJ.out HW8.out (Below.one w8 _) hgr9 HSL8.out HAR8.out.1 HAR8.out.2 HAL.out hown9 (hlie9.imp id (fun h=>by rw[h];simp)));have HMB:=zh (zfh HM5.out HW8.out hgr9 (fun e=>zap HOWN.out e HM5.out (by decide) rfl) ⟨b4,1,none⟩ (.slice (some ⟨g7,0,none⟩) (j+1) cap7) (by dsimp only;omega));have t0:=HST.out.1.cell 1 rfl;have tz:=HST.out.1.free 1;have tl:=HST.out.1.lt;clear hown9 hgr9 hlie9 hlt9)
     | (go_simp;go_wp2_with (go_at_call 18;(with_reducible refine HPR.out.mono ?_);rintro e w8 ⟨o8,l8,c8,rfl,hpr8,hb8⟩;have HW8:=zh (Below.next HD7.out hb8);have HO8:=zh (zam HOWN.out HW8.out);have HSL8:=zh (zc0 hpr8 HD7.out.size);have HAR8:=zh (zcc hpr8);have k1:=(HXB.out.keep HW8.out).cell 1 rfl;have kl:=(HXB.out.keep HW8.out).lt;clear hpr8 hb8)))
    all_goals
     obtain ⟨wN,hwN⟩:∃wN,w9.setCell ⟨b4,1,none⟩ (.slice (some ⟨g7,0,none⟩) (j+1) cap7)=wN:=⟨_,rfl⟩
     have hst0:=HST.out.2
     rw[hwN] at hst0
     obtain ⟨v6,xs6,hb,hbr,hbx,⟨o6,l6,c6,rfl⟩,hown,hcs,⟨U,B',hsub,hB',hrs⟩,hrow⟩:=hst0
     have HPS:=zh (show (m.cods.map (Mk.proc Mk.lkF)).take (j+1)=(m.unit Mk.lkL).procs from by
      rw[←Mdl.cods_proc HOK.out]
      exact List.take_of_length_le (by rw[List.length_map,HLC.out];exact Nat.le_refl _))
     rw[HPS.out] at hcs
     have HLN:=zh (show (m.unit Mk.lkL).procs.length=j+1 from by rw[←Mdl.cods_proc HOK.out,List.length_map,HLC.out])
     have HUR:=zh (show UntR wN wN.heap.size (m.unit Mk.lkL) (.agg #[.slice oc lc cc',.slice o6 l6 c6]) from
      ⟨_,_,rfl,hrs.cellsTo hsub.cells hB',za0 (te:=47) (base:=w.heap.size+2) (by rw[HLN.out];exact hown) (hcs.mono fun x _ cs h=>h.read)⟩)
     have HCK2:=zh (zfN (m.unit Mk.lkL) _ wN.heap.size wN HUR.out (Nat.le_refl _) (fun p hp _ x hx=>Mdl.unit_lists HOK.out p hp x hx))
     have HBC:=zh hb
     have HRC:=zh hbr
     have HXC:=zh hbx
     have HCC:=zh hcs
     have HOWC:=zh hown
     have HSUB:=zh hsub
     have HRS:=zh hrs
     have hB'':=hB'
     clear hb hbr hbx hown hcs hsub hrs hrow hB'
     go_upto_region 9 with fail
     rw[hwN]
     clear t0 tz tl hwN HST HMB
     have q0:=HXC.out.cell 0 rfl
     have q1:=HXC.out.cell 1 rfl
     have ql:=HXC.out.lt
     go_wp2_with fail
     with_reducible refine HCK2.out.mono ?_
     rintro e wE ⟨rfl,hb9⟩
     have HB9:=zh hb9
     have HB99:=zh (HBC.out.trans (hb9.mono HBC.out.size))
     have HR9:=zh (HRC.out.keep hb9)
     have HX9:=zh (HXC.out.keep hb9)
     clear hb9 q0 q1 ql HCK2
     have r0:=HR9.out.cell 0 rfl
     have r1:=HR9.out.cell 1 rfl
     have z0:=HR9.out.free 0
     have z1:=HR9.out.free 1
     have rl:=HR9.out.lt
     cases hok2:(m.unit Mk.lkL).okB with
     | false=>
      have he:(m.unit Mk.lkL).err=5:=by simp[Unt.err,hok2]
      have HE:=zh (show m.rErr=5 from by simp[Mdl.rErr,hok2])
      have HU:=zh (show m.rU=⟨[],[]⟩ from by simp[Mdl.rU,hok2])
      rw[he]
      clear he hok2
      have bN:=(HR9.out.set 0 (.slice none 0 0)).set 1 (.slice none 0 0)
      have n0:=bN.cell 0 rfl
      have n1:=bN.cell 1 rfl
      have HBF:=zh ((HB99.out.setCell (p:=⟨w.heap.size+1,0,none⟩) (by dsimp only;omega) (.slice none 0 0)).setCell (p:=⟨w.heap.size+1,1,none⟩) (by dsimp only;omega) (.slice none 0 0))
      clear bN
      go_wp2_with fail
      refine bodyPost_ret (v:=.tuple #[.agg #[.slice none 0 0,.slice none 0 0],.int .i64 5]) (by simp[results,results7,go_sem,n0,n1]) rfl ⟨.slice none 0 0,.slice none 0 0,by rw[HE.out],?_,HBF.out⟩
      rw[HU.out]
      exact ⟨_,_,rfl,⟨none,0,0,rfl,rfl,Nat.le_refl _,by omega,rfl,rfl⟩,⟨none,0,0,rfl,rfl,Nat.le_refl _,by omega,rfl,rfl⟩⟩
     | true=>
      have he:(m.unit Mk.lkL).err=0:=by simp[Unt.err,hok2]
      have HE:=zh (show m.rErr=0 from by simp[Mdl.rErr,hok2,HOK.out])
      have HU:=zh (show m.rU=m.unit Mk.lkL from by simp[Mdl.rU,hok2,HOK.out])
      rw[he]
      clear he hok2
      have q0:=HX9.out.cell 0 rfl
      have q1:=HX9.out.cell 1 rfl
      have ql:=HX9.out.lt
      have bN:=(HR9.out.set 0 (.slice oc lc cc')).set 1 (.slice o6 l6 c6)
      have n0:=bN.cell 0 rfl
      have n1:=bN.cell 1 rfl
      have HBF:=zh ((HB99.out.setCell (p:=⟨w.heap.size+1,0,none⟩) (by dsimp only;omega) (.slice oc lc cc')).setCell (p:=⟨w.heap.size+1,1,none⟩) (by dsimp only;omega) (.slice o6 l6 c6))
      have hst:∀V,Sub (fun b=>b=b4∨b=w.heap.size+1∨(Value.slice o6 l6 c6).ownBlock=some b) V wN→Sub (fun b=>b=b4∨b=w.heap.size+1∨(Value.slice o6 l6 c6).ownBlock=some b) V ((wE.setCell ⟨w.heap.size+1,0,none⟩ (.slice oc lc cc')).setCell ⟨w.heap.size+1,1,none⟩ (.slice o6 l6 c6)):=fun V hV=>((hV.below HB9.out).set ⟨w.heap.size+1,0,none⟩ _ (.inr (.inl rfl))).set ⟨w.heap.size+1,1,none⟩ _ (.inr (.inl rfl))
      have HUF:=zh (show UntR ((wE.setCell ⟨w.heap.size+1,0,none⟩ (.slice oc lc cc')).setCell ⟨w.heap.size+1,1,none⟩ (.slice o6 l6 c6)) ((wE.setCell ⟨w.heap.size+1,0,none⟩ (.slice oc lc cc')).setCell ⟨w.heap.size+1,1,none⟩ (.slice o6 l6 c6)).heap.size (m.unit Mk.lkL) (.agg #[.slice oc lc cc',.slice o6 l6 c6]) from by
       have hz9:=HB9.out.size
       refine ⟨_,_,rfl,HRS.out.cellsTo (hst U HSUB.out).cells (by rw[World.size_setCell,World.size_setCell];omega),?_⟩
       refine za0 (te:=47) (base:=w.heap.size+2) ?_ (HCC.out.mono fun x _ cs h=>(h.to hst (by rw[World.size_setCell,World.size_setCell];exact hz9)).read)
       rw[HLN.out]
       exact ownsRow_setCell_below (ownsRow_setCell_below (zam HOWC.out HB9.out) (a:=⟨w.heap.size+1,0,none⟩) (by dsimp only;omega) _) (a:=⟨w.heap.size+1,1,none⟩) (by dsimp only;omega) _)
      clear bN hst
      go_wp2_with fail
      refine bodyPost_ret (v:=.tuple #[.agg #[.slice oc lc cc',.slice o6 l6 c6],.int .i64 0]) (by simp[results,results7,go_sem,n0,n1]) rfl ⟨.slice oc lc cc',.slice o6 l6 c6,by rw[HE.out],?_,HBF.out⟩
      rw[HU.out]
      exact HUF.out
end
section
open Go Go.RowKit Mdl
theorem zhe {m:Mdl} {n:Int} (hn:n≤390) (h:m.fewB n=true):m.rokB=m.okB:=by
 obtain ⟨h1,h2,h3,h4,h5,h6⟩:=few_facts h
 exact zmb (by unfold Mdl.all;omega) ⟨by omega,fun c hc=>by have:=h5 c hc;omega⟩
theorem zfH {m:Mdl}:∀p∈(m.makeU Mk.lkL).procs,p.alive=[]∧p.code.length≤100000:=fun p hp=>by
 unfold makeU at hp
 split at hp
 ·rename_i h
  rw[Bool.and_eq_true] at h
  obtain ⟨i,hi⟩:=List.getElem?_of_mem hp
  obtain ⟨c,_,_,_,h3,_,_,_,_,h8⟩:=(zfY h.1 h.2).2 i p hi
  exact ⟨h3,by omega⟩
 ·simp at hp
theorem zdc (m:Mdl) (v:Value) (w:World) (hv:MdlR w w.heap.size m v) (hs:m.slim) :
  Calls prog 3 #[v] w fun e w'=>e=.returned (.bool true)∧Below w.heap.size w w':=by
 obtain ⟨B,hBe⟩:∃B,w.heap.size=B:=⟨_,rfl⟩
 rw[hBe] at hv
 have hB:B≤w.heap.size:=by omega
 have HV:=zh hv
 have HSL:=zh hs
 clear hs
 obtain ⟨cc,pp,b0,b1,b2,b3,rfl,hcon,hcod,hbody⟩:=hv
 obtain ⟨oc,lc,kc,rfl⟩:∃o l c,cc=.slice o l c:=by obtain ⟨o,l,c,h,_⟩:=hcon;exact ⟨o,l,c,h⟩
 obtain ⟨op,lp,kp,rfl⟩:=hcod.form
 obtain ⟨q,r',u,q',r'',u',rfl,rfl,rfl,rfl⟩:=zfl hbody
 have HCOD:=zh hcod
 have HLP:=zh hcod.lens.1
 clear hcon hcod hbody hBe
 obtain ⟨W1,hW1⟩:∃W1,w.alloc (.cells #[.slice oc lc kc,.slice op lp kp,.int .i64 m.body.op,.int .i64 m.body.n,.slice q r' u,.slice q' r'' u'] 29)=W1:=⟨_,rfl⟩
 have HB1:=zh (show Below w.heap.size w W1 from by rw[←hW1];exact Below.one w _)
 have HX1:=zh (show BoxL W1 w.heap.size 29 [.slice oc lc kc,.slice op lp kp,.int .i64 m.body.op,.int .i64 m.body.n,.slice q r' u,.slice q' r'' u'] from by rw[←hW1];exact BoxL.new rfl _ _)
 have HW1:=zh hW1
 have HA:=zh (zeR W1)
 clear hW1
 go_enter func3,ntmps3
 go_upto_region 1 with fail
 rw[HW1.out]
 go_wp2_with fail
 with_reducible refine HA.out.mono ?_
 rintro e w2 ⟨rfl,hb2⟩
 have HB2:=zh (HB1.out.trans (hb2.mono HB1.out.size))
 have HX2:=zh (HX1.out.keep hb2)
 clear hb2 HA HW1
 have u0:=HX2.out.cell 0 rfl
 have u1:=HX2.out.cell 1 rfl
 have u2:=HX2.out.cell 2 rfl
 have u3:=HX2.out.cell 3 rfl
 have u4:=HX2.out.cell 4 rfl
 have u5:=HX2.out.cell 5 rfl
 have ul:=HX2.out.lt
 obtain ⟨fw,hfw⟩:∃fw,m.fewB 300=fw:=⟨_,rfl⟩
 have HF:=zh (zhh m _ 300 B w2 (HV.out.kept (HB2.out.mono hB)) (by have:=HB2.out.size;omega) (by omega) (by omega) fw hfw)
 go_wp2_with fail
 with_reducible refine HF.out.mono ?_
 rintro e w3 ⟨rfl,hb3⟩
 have HB3:=zh (HB2.out.trans (hb3.mono HB2.out.size))
 have HX3:=zh (HX2.out.keep hb3)
 clear hb3 HF u0 u1 u2 u3 u4 u5 ul
 cases fw with
 | false=>
  go_wp2_with fail
  go_ret
  exact ⟨rfl,HB3.out⟩
 | true=>
  have HK:=zh (zfr m _ B w3 (HV.out.kept (HB3.out.mono hB)) (by have:=HB3.out.size;omega) 300 (by omega) hfw)
  have HFW:=zh hfw
  clear hfw
  have u0:=HX3.out.cell 0 rfl
  have u1:=HX3.out.cell 1 rfl
  have u2:=HX3.out.cell 2 rfl
  have u3:=HX3.out.cell 3 rfl
  have u4:=HX3.out.cell 4 rfl
  have u5:=HX3.out.cell 5 rfl
  have ul:=HX3.out.lt
  go_wp2_with fail
  with_reducible refine HK.out.mono ?_
  rintro e w4 ⟨cv,pv,rfl,hu,hb4⟩
  have HB4:=zh (HB3.out.trans (hb4.mono HB3.out.size))
  have HX4:=zh (HX3.out.keep hb4)
  have HU4:=zh hu
  obtain ⟨cv',pv',he,hcv,hpv⟩:=hu
  simp only[Value.agg.injEq,Array.mk.injEq,List.cons.injEq,and_true] at he
  obtain ⟨rfl,rfl⟩:=he
  obtain ⟨o0,l0,c0,rfl,hx0⟩:=hcv
  clear hx0
  obtain ⟨o1,np,c1,rfl⟩:=hpv.form
  clear hpv
  obtain ⟨W5,hW5⟩:∃W5,w4.alloc (.cells #[.slice o0 l0 c0,.slice o1 np c1] 34)=W5:=⟨_,rfl⟩
  have HB45:=zh (show Below w4.heap.size w4 W5 from by rw[←hW5];exact Below.one w4 _)
  have HU5:=zh (show BoxL W5 w4.heap.size 34 [.slice o0 l0 c0,.slice o1 np c1] from by rw[←hW5];exact BoxL.new rfl _ _)
  have HX5:=zh (HX4.out.keep HB45.out)
  have HB5:=zh (HB4.out.trans (HB45.out.mono HB4.out.size))
  have HV5:=zh (HU4.out.kept (HB45.out) |>.wider HB45.out.size)
  have HW5:=zh hW5
  have HRE:=zh (show m.rErr=m.makeErr Mk.lkL from by rw[rErr,makeErr,zhe (by omega) HFW.out])
  have HRU:=zh (show m.rU=m.makeU Mk.lkL from by rw[rU,makeU,zhe (by omega) HFW.out])
  clear hb4 HK u0 u1 u2 u3 u4 u5 ul hW5 HU4 HX4
  have HZ:=zh (zha m _ B W5 (HV.out.kept (HB5.out.mono hB)) (by have:=HB5.out.size;omega) HSL.out (by have:=(few_facts HFW.out).1;omega))
  rw[HRE.out,HRU.out] at HZ
  obtain ⟨E,hE⟩:∃E,m.makeErr Mk.lkL=E:=⟨_,rfl⟩
  rw[hE] at HZ ⊢
  clear hE HRE HRU
  have u0:=HX5.out.cell 0 rfl
  have u1:=HX5.out.cell 1 rfl
  have u2:=HX5.out.cell 2 rfl
  have u3:=HX5.out.cell 3 rfl
  have u4:=HX5.out.cell 4 rfl
  have u5:=HX5.out.cell 5 rfl
  have ul:=HX5.out.lt
  go_upto_region 5 with fail
  rw[HW5.out]
  go_wp2_with fail
  with_reducible refine HZ.out.mono ?_
  rintro e w6 ⟨cv6,pv6,rfl,hu6,hb6⟩
  have HB6:=zh (HB5.out.trans (hb6.mono HB5.out.size))
  have HX6:=zh (HU5.out.keep hb6)
  have HV6:=zh (HV5.out.kept hb6 |>.wider hb6.size)
  have HU6:=zh hu6
  obtain ⟨cv',pv',he,hcv,hpv⟩:=hu6
  simp only[Value.agg.injEq,Array.mk.injEq,List.cons.injEq,and_true] at he
  obtain ⟨rfl,rfl⟩:=he
  obtain ⟨o6,l6,c6,rfl,hx6⟩:=hcv
  clear hx6
  obtain ⟨o7,n7,c7,rfl⟩:=hpv.form
  clear hpv
  obtain ⟨W7,hW7⟩:∃W7,w6.alloc (.cells #[.slice o6 l6 c6,.slice o7 n7 c7] 34)=W7:=⟨_,rfl⟩
  have HB67:=zh (show Below w6.heap.size w6 W7 from by rw[←hW7];exact Below.one w6 _)
  have HU7:=zh (show BoxL W7 w6.heap.size 34 [.slice o6 l6 c6,.slice o7 n7 c7] from by rw[←hW7];exact BoxL.new rfl _ _)
  have HX7:=zh (HX6.out.keep HB67.out)
  have HB7:=zh (HB6.out.trans (HB67.out.mono HB6.out.size))
  have HSM:=zh (zhg (m.makeU Mk.lkL) _ _ W7.heap.size W7 (HV6.out.kept HB67.out |>.wider HB67.out.size) (HU6.out.kept HB67.out |>.wider HB67.out.size) (Nat.le_refl _) zfH)
  have HW7:=zh hW7
  clear hb6 HZ u0 u1 u2 u3 u4 u5 ul hW7 HU6 HV6 HX6 HV5
  go_upto_region 6 with fail
  rw[HW7.out]
  have a0:=HX7.out.cell 0 rfl
  have a1:=HX7.out.cell 1 rfl
  have al:=HX7.out.lt
  have b0:=HU7.out.cell 0 rfl
  have b1:=HU7.out.cell 1 rfl
  have bl:=HU7.out.lt
  go_wp2_with fail
  with_reducible refine HSM.out.mono ?_
  rintro e w8 ⟨rfl,hb8⟩
  have HB8:=zh (HB7.out.trans (hb8.mono HB7.out.size))
  clear hb8 HSM a0 a1 al b0 b1 bl
  go_wp2_with fail
  go_ret
  exact ⟨rfl,HB8.out⟩
end
end Go.Proofs.YtdcajmeeeoofgaaGreatDoor
