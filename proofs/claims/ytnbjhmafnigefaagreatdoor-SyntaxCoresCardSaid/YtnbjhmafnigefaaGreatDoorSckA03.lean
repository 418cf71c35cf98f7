/- .. -/
import Derived.Test.YtnbjhmafnigefaaGreatDoorRows
import Derived.WalkKit
import Derived.ProofKit
import Derived.OpenShut
import Derived.Carry
import Derived.Deep.Draws
import Derived.Deep.DeepHandedRow
import Derived.Deep.DeepWitnessRowRef
import Derived.LaidMore
import Derived.LaidHandle
import Derived.MakeChecks
import Derived.Stop.LaidErr
import Derived.Stop.Joined
import Derived.SevenTiedAt
import Derived.Deep.Slices
import Derived.SizedLaws
import Derived.Lib.ItoaLen
import Derived.RangeFuncNested
import Derived.RangeFuncBound
import Derived.RangeFuncCalls
import Derived.RangeFuncLeaves
import Derived.Shelf.Abstract
import Derived.Shelf.RegionOpen
import Derived.OwnWalkIn
import Derived.TacticsInMore
import Derived.LoopNIn
import Derived.LoopIn
import Derived.Deep.LoopGhost
import Derived.RegionTactic
import Derived.ChangeAlike
import Derived.BigRegion
import Derived.Laws.AppendOwn
import Derived.Laws.OwnMore
import Derived.Laws.EntriesVeiled
import Derived.Test.YtnbjhmafnigefaaGreatDoorSckA02
open Go.Proofs.Tryz
set_option maxRecDepth 100000
set_option maxHeartbeats 16000000
namespace Go.Proofs.YtnbjhmafnigefaaGreatDoor
section
open Go.ChangeShapes Go.WideShapes Go.ChangeAt Go.RowKit
theorem own:ownKnob prog.godebug=none:=by kernel_rfl
theorem laid:laidOutB prog=true:=by kernel_rfl
section
variable {H : Type} {enc : TypeId × Value -> H} {P : Program}
theorem zc2 (hl:laidOutB P=true) {W W':World} (hb:Below W.heap.size W W') :
  ∀(ts:List TypeId) (vs:List Value) (ds:List (DataW H)) (ps:List MemPlace),(∀t∈ts,P.readableRec t=true∧t<P.types.size) ->
   DataW.TrodAll enc P W 0 (fun _=>true) true ts vs ds ps->(∀x∈ps,x.block<W.heap.size) ->
   DataW.TrodAll enc P W' 0 (fun b=>decide (b<W.heap.size)) true ts vs ds ps
 | [],[],[],_,_,h,_=>h
 | t::ts,v::vs,d::ds,ps,hts,h,hlt=>by
  obtain ⟨p,q,h1,h2,rfl⟩:=h
  refine ⟨p,q,Below.trod hl (hts t (by simp)).1 (hts t (by simp)).2 h1 hb (fun x hx=>hlt x (by simp[hx])),?_,rfl⟩
  exact zc2 hl hb ts vs ds q (fun t ht=>hts t (by simp[ht])) h2 (fun x hx=>hlt x (by simp[hx]))
 | [],[],_::_,_,_,h,_=>h.elim
 | [],_::_,_,_,_,h,_=>h.elim
 | _::_,[],_,_,_,h,_=>h.elim
 | _::_,_::_,[],_,_,h,_=>h.elim
theorem zks {f:Func} {s:ChangeSpec} {W W':World} {args:Array Value} {ds gs:List (DataW H)} {before:List MemPlace} {tb:TypeId}
  (hW:DataW.Whole enc P f.params.toList s.vars false W args.toList ds gs before) (hv:s.vars=[]) (hb:Below W.heap.size W W') (hl:laidOutB P=true)
  (hts0:(f.params.toList.all fun t=>P.readableRec t&&decide (t<P.types.size))=true) (hres:f.resultTypes=#[tb]) (htb:P.underlying tb=some .bool)
  (hfn:s.fn H (ds++gs) = { results:=[.lit (.bool true)],args:=ds }):s.post enc P f false true false false W args (.bool true) W':=by
 have hts:∀t∈f.params.toList,P.readableRec t=true∧t<P.types.size:=fun t ht=>by
  have:=List.all_eq_true.1 hts0 t ht
  simpa using this
 have hW':=hW
 obtain ⟨p,q,hA,hV,rfl,hfz,hnd⟩:=hW
 rw[hv] at hV
 have hq:gs=[]∧q=[]:=by
  cases gs with
  | nil=>exact ⟨rfl,hV⟩
  | cons g gs=>exact hV.elim
 obtain ⟨rfl,rfl⟩:=hq
 refine ⟨ds,[],p++[],[],p,[],hW',?_,?_,?_,hb.frame _,fun h=>by cases h⟩
 ·rw[hfn,hres]
  exact ⟨[],[],⟨1,by simp[Value.cells,DataW.trod,htb]⟩,rfl,rfl⟩
 ·rw[hfn]
  exact zc2 hl hb _ _ _ _ hts hA (fun x hx=>hW'.lt x (by simp[hx]))
 ·rw[hfn,hv]
  exact rfl
end
end
section
open Go.ChangeShapes Go.WideShapes Go.ChangeAt Go.RowKit
noncomputable def zcL (os:Os):World:=
 { World.doorLaid prog 400 os with heap:=(World.doorLaid prog 400 os).heap.modify 2 fun
   | .cells _ t frozen=>.cells (Go.Pinned.utf8FirstZ.map fun z:Nat=>Value.int .u8 (z:Int)).toArray t frozen
   | o=>o }
theorem zbA {W : World} {rest : List (String × DataW Unit)} (h : laidMet prog (("internal/strconv.uint64pow10", Rows.laid_internal_strconv_uint64pow10) :: rest) W) : Env W := by
 have e:(Rows.laid_internal_strconv_uint64pow10:DataW Unit)=Lib.tabData .u64 Lib.pow10Tab:=by kernel_rfl
 rw[e] at h
 exact Lib.tabIs_of_head (g:=1) (t:=149) (e:=100) (n:=20) (by kernel_rfl) (by kernel_rfl) underlying149 underlying100 (by kernel_rfl) (by kernel_rfl) h
end
section
open Go.RowKit Go.Deep
section
variable {H : Type} {enc : TypeId × Value -> H}
theorem zdQ:prog.cellsOf 26=5:=by kernel_rfl
theorem zkd:prog.cellsOf 3=1:=by kernel_rfl
theorem zf6:prog.cellsOf 9=1:=by kernel_rfl
theorem ziK:prog.cellsOf 22=1:=by kernel_rfl
theorem zhg:prog.bytesOf 26=64:=by kernel_rfl
theorem zcs {P:Program} {e:TypeId}:∀{l:List (DataW H)} {d:DataW H},d∈l->∀n∈d.weights P e,n∈DataW.weightsAll P e l
 | d'::r,d,hd,n,hn=>by
  simp only[DataW.weightsAll,List.mem_append]
  rcases List.mem_cons.1 hd with rfl | h
  ·exact Or.inl hn
  ·exact Or.inr (zcs h n hn)
theorem zbF {P:Program}:∀{ts:List TypeId} {l:List (DataW H)} (i:Nat) {t:TypeId} {d:DataW H},ts[i]?=some t->l[i]?=some d->∀n∈d.weights P t,n∈DataW.weightsEach P ts l
 | t'::ts,d'::r,0,t,d,ht,hd,n,hn=>by
  simp only[List.getElem?_cons_zero,Option.some.injEq] at ht hd
  subst ht;subst hd
  simp only[DataW.weightsEach,List.mem_append];exact Or.inl hn
 | t'::ts,d'::r,i+1,t,d,ht,hd,n,hn=>by
  simp only[DataW.weightsEach,List.mem_append]
  exact Or.inr (zbF i (by simpa using ht) (by simpa using hd) n hn)
 | [],_,i,t,d,ht,_,_,_=>by simp at ht
 | _::_,[],i,t,d,_,hd,_,_=>by simp at hd
theorem zeK {w:World} {B b:Nat}:∀(len off:Nat),(∀i,i<len->∃x c0 c1 c2 c3 c4,w.cell? ⟨b,off+i*5,none⟩=some c0∧w.cell? ⟨b,off+i*5+1,none⟩=some c1∧w.cell? ⟨b,off+i*5+2,none⟩=some c2∧w.cell? ⟨b,off+i*5+3,none⟩=some c3∧w.cell? ⟨b,off+i*5+4,none⟩=some c4∧RepD w B x (.agg #[c0,c1,c2,c3,c4])) ->
  ∃l:List Dat,l.length=len∧RepC w B l b off
 | 0,off,_=>⟨[],rfl,by rw[RepC];trivial⟩
 | len+1,off,h=>by
  obtain ⟨x,c0,c1,c2,c3,c4,h0,h1,h2,h3,h4,h5⟩:=h 0 (by omega)
  obtain ⟨l,hl,hr⟩:=zeK len (off+5) (fun i hi=>by
   have:=h (i+1) (by omega)
   have e:off+(i+1)*5=off+5+i*5:=by omega
   rw[e] at this;exact this)
  refine ⟨x::l,by simp[hl],?_⟩
  rw[RepC]
  simp only[Nat.zero_mul,Nat.add_zero] at h0 h1 h2 h3 h4
  exact ⟨⟨c0,c1,c2,c3,c4,h0,h1,h2,h3,h4,h5⟩,hr⟩
theorem zhM {a:Addr} (h:a.spot=none) (n:Nat):a.add n=⟨a.block,a.off+n,none⟩:=by
 obtain ⟨b,o,sp⟩:=a
 simp only at h
 subst h
 unfold Addr.add
 split
 ·rename_i h0;subst h0;rfl
 ·rfl
theorem zjR {w:World} {a:Addr} {v:Value} (h:w.cell? a=some v):a.spot=none∧a.block<w.heap.size:=by
 unfold World.cell? at h
 split at h
 ·rename_i he
  split at h
  ·cases h
  ·rename_i hs
   refine ⟨by simpa using hs,?_⟩
   exact (Array.getElem?_eq_some_iff.1 he).1
 ·cases h
theorem zg2 {w:World}:∀(fuel:Nat) (cs:List Value) (y:DataW H × List MemPlace),DataW.trod enc prog w 0 (fun _=>true) true fuel 26 cs=some y ->
  (∀n∈y.1.weights prog 26,n<=reachBytes)->∃x,RepD w w.heap.size x (.agg cs.toArray):=by
 intro fuel
 induction fuel using Nat.strongRecOn with
 | ind fuel ih=>
  intro cs y h hw
  obtain ⟨xs,n,rfl,rfl,jk,hxs,hget⟩:=DataW.trod_struct underlying26 h
  rw[zdQ] at jk
  match cs,jk with
  | [c0,c1,c2,c3,c4],_=>
   have g0:DataW.trod enc prog w 0 (fun _=>true) true n 3 (([c0,c1,c2,c3,c4].drop 0).take (prog.cellsOf 3))=xs[0]?:=hget 0 _ rfl
   have g1:DataW.trod enc prog w 0 (fun _=>true) true n 3 (([c0,c1,c2,c3,c4].drop 1).take (prog.cellsOf 3))=xs[1]?:=hget 1 _ rfl
   have g2:DataW.trod enc prog w 0 (fun _=>true) true n 3 (([c0,c1,c2,c3,c4].drop 2).take (prog.cellsOf 3))=xs[2]?:=hget 2 _ rfl
   have g3:DataW.trod enc prog w 0 (fun _=>true) true n 9 (([c0,c1,c2,c3,c4].drop 3).take (prog.cellsOf 9))=xs[3]?:=hget 3 _ rfl
   have g4:DataW.trod enc prog w 0 (fun _=>true) true n 22 (([c0,c1,c2,c3,c4].drop 4).take (prog.cellsOf 22))=xs[4]?:=hget 4 _ rfl
   rw[zkd] at g0 g1 g2
   rw[zf6] at g3
   rw[ziK] at g4
   have hx5:xs.length=5:=hxs
   match xs,hx5 with
   | [x0,x1,x2,x3,x4],_=>
    obtain ⟨k,e0,_,w0⟩:=DataW.trod_int underlying3 (show _=some x0 from g0)
    obtain ⟨m,e1,_,w1⟩:=DataW.trod_int underlying3 (show _=some x1 from g1)
    obtain ⟨d,e2,_,w2⟩:=DataW.trod_int underlying3 (show _=some x2 from g2)
    obtain ⟨s,e3,hx3,_⟩:=DataW.trod_string underlying9 (show _=some x3 from g3)
    have f0:c0=.int .i64 k:=by simpa using e0
    have f1:c1=.int .i64 m:=by simpa using e1
    have f2:c2=.int .i64 d:=by simpa using e2
    have f3:c3=.string s:=by simpa using e3
    subst f0 f1 f2 f3 hx3
    have we:∀(i:Nat) (t:TypeId) (z:DataW H),[3,3,3,9,22][i]?=some t->[x0.1,x1.1,x2.1,DataW.lit (Lit.string s.data.toList),x4.1][i]?=some z->∀n∈z.weights prog t,n<=reachBytes:=by
     intro i t z ht hz q hq
     refine hw q ?_
     show q∈DataW.weights prog 26 (.agg _)
     simp only[DataW.weights,underlying26]
     exact zbF i ht hz q hq
    have hs:s.size<=140737488351232:=we 3 9 _ rfl rfl s.data.toList.length (by simp[DataW.weights])
    have w4:=we 4 22 _ rfl rfl
    rcases DataW.trod_slice underlying22 (show _=some x4 from g4) with ⟨e4,_⟩ | ⟨a,len,cap,elems,rest,n',rfl,e4,hx4,_,hle,_,hel,hget4,hsp,_⟩
    ·have f4:c4=.slice none 0 0:=by simpa using e4
     subst f4
     exact ⟨.mk k m d s [],RepD.shut (bounds_i64 w0) (bounds_i64 w1) (bounds_i64 w2) hs ⟨none,0,0,rfl,rfl,by omega,by omega,rfl,rfl⟩⟩
    ·have f4:c4=.slice (some a) len cap:=by simpa using e4
     subst f4 hx4
     have ja:=(hsp rfl).1
     have hcap:cap<=9223372036854775807:=by
      have:=w4 ((elems.length+rest.length)*64) (by simp[DataW.weights,underlying22,zhg])
      have h9:(elems.length+rest.length)*64<=140737488351232:=this
      omega
     by_cases h0:len=0
     ·subst h0
      exact ⟨.mk k m d s [],RepD.shut (bounds_i64 w0) (bounds_i64 w1) (bounds_i64 w2) hs ⟨some a,0,cap,rfl,rfl,by omega,hcap,fun h=>absurd rfl h,by rw[RepC];trivial⟩⟩
     have hat:∀i (hi:i<len),∃cs',w.cells? 0 (a.add (i*5)) 5=some cs'∧DataW.trod enc prog w 0 (fun _=>true) true n' 26 cs'=some (elems[i]'(by omega)):=by
      intro i hi
      have hb:=hget4 i hi
      rw[zdQ,List.getElem?_eq_getElem (by omega)] at hb
      exact Option.bind_eq_some_iff.1 hb
     obtain ⟨hspot,hblk⟩:a.spot=none∧a.block<w.heap.size:=by
      obtain ⟨cs',hc1,_⟩:=hat 0 (by omega)
      obtain ⟨_,hl5,hcs⟩:=World.cells?_some hc1
      have h00:=hcs 0 (by omega)
      rw[List.getElem?_eq_getElem (by omega)] at h00
      have:=zjR h00
      simpa[Addr.add] using this
     have hcell:∀i,i<len->∃x c0 c1 c2 c3 c4,w.cell? ⟨a.block,a.off+i*5,none⟩=some c0∧w.cell? ⟨a.block,a.off+i*5+1,none⟩=some c1∧w.cell? ⟨a.block,a.off+i*5+2,none⟩=some c2∧w.cell? ⟨a.block,a.off+i*5+3,none⟩=some c3∧w.cell? ⟨a.block,a.off+i*5+4,none⟩=some c4∧RepD w w.heap.size x (.agg #[c0,c1,c2,c3,c4]):=by
      intro i hi
      obtain ⟨cs',hc1,hc2⟩:=hat i hi
      obtain ⟨_,hl5,hcs⟩:=World.cells?_some hc1
      rw[zhM hspot] at hcs
      have hcs2:∀j,j<5->w.cell? ⟨a.block,a.off+i*5+j,none⟩=cs'[j]?:=by
       intro j hj
       have:=hcs j hj
       rw[zhM rfl] at this
       exact this
      match cs',hl5 with
      | [a0,a1,a2,a3,a4],_=>
       obtain ⟨x,hx⟩:=ih n' (by omega) _ _ hc2 (fun q hq=>w4 q (by
        simp only[DataW.weights,underlying22,List.mem_cons,List.mem_append]
        refine Or.inr (Or.inl (zcs (d:=(elems[i]'(by omega)).1) ?_ q hq))
        exact List.mem_map_of_mem (List.getElem_mem _)))
       exact ⟨x,a0,a1,a2,a3,a4,hcs2 0 (by omega),hcs2 1 (by omega),hcs2 2 (by omega),hcs2 3 (by omega),hcs2 4 (by omega),hx⟩
     obtain ⟨l,hl,hr⟩:=zeK len a.off hcell
     exact ⟨.mk k m d s l,RepD.shut (bounds_i64 w0) (bounds_i64 w1) (bounds_i64 w2) hs ⟨some a,len,cap,rfl,hl.symm,hle,hcap,fun _=>⟨hspot,hblk⟩,hr⟩⟩
end
end
section
open Go.RowKit Go.Deep Go.ChangeShapes Go.WideShapes Go.ChangeAt
section
variable {H : Type} {enc : TypeId × Value -> H}
theorem ziQ {W:World} {r:Reach} {b0:Nat} {v:Value} {d:DataW H} {ps:List MemPlace} (hval:Value.okWide prog W r b0 26 v) (hd:DataW.Trod enc prog W 0 (fun _=>true) true 26 v d ps) (hw:∀n∈d.weights prog 26,n<=reachBytes):∃x,RepD W W.heap.size x v:=by
 unfold Value.okWide at hval
 rw[underlying26] at hval
 obtain ⟨⟨l⟩,rfl,_⟩:=hval
 obtain ⟨fuel,hf⟩:=hd
 obtain ⟨x,hx⟩:=zg2 fuel l (d,ps) (by simpa[Value.cells] using hf) hw
 exact ⟨x,hx⟩
theorem zhX {ts:List TypeId} {l:List (DataW H)} (h:(DataW.weightsEach prog ts l).all (·<=reachBytes)=true) (i:Nat) {t:TypeId} {d:DataW H} (ht:ts[i]?=some t) (hd:l[i]?=some d):∀n∈d.weights prog t,n<=reachBytes:=fun n hn=>by
 have:=List.all_eq_true.1 h n (zbF i ht hd n hn)
 simpa using this
end
end
section
open Go.RowKit Go.Deep Go.ChangeShapes Go.WideShapes Go.ChangeAt
namespace Dat
end Dat
section
variable {H : Type} {enc : TypeId × Value -> H}
end
end
section
open Go.RowKit Go.Shelf
attribute [local go_sem] Oper.semAt_some
abbrev Item (w:World) (B:Nat):={ x:Int × Dat × Value // RepD w B x.2.1 x.2.2 }
def Item.dat {w:World} {B:Nat} (x:Item w B):Dat:=x.1.2.1
theorem zk6 {l:List Dat} {j k:Nat} {x:Dat} (hx:l[j]?=some x) (hk:j+k+1=l.length):l.reverse.take (k+1)=l.reverse.take k++[x]:=by
 rw[List.take_add_one]
 congr 1
 rw[List.getElem?_reverse (by omega),show l.length-1-k=j by omega,hx];rfl
theorem zj9 (F:Fence) (n:Nat) (hF:F.fn 111) (hro:F.round=none) (a:Option Addr) (len cap:Nat) (w:World) :
  CallsIn F n prog 111 #[.slice a len cap] w fun e w'=>e=.returned (.func (.func 151) #[] #[.pointer (some ⟨w.heap.size,0,none⟩)])∧w'=w.alloc (.cells #[.slice a len cap] 22):=by
 refine callsIn_of_wp func111 rfl hF ?_ hro
 simp only[ntmps111,List.size_toArray,qzN,qzO,Nat.reduceAdd,Nat.reduceSub,Array.replicate_succ,Array.replicate_zero,List.push_toArray,List.append_toArray,List.nil_append,List.cons_append]
 gi_wp2
 go_ret
 exact ⟨rfl,rfl⟩
end
section
open Go.RowKit Go.Shelf
attribute [local go_sem] Oper.semAt_some
def listUp {w:World} {B:Nat} (pre:List (Item w B)):Dat:=pre.foldl (fun acc x=>Dat.pair x.dat acc) Dat.null
theorem zgQ {w:World} {B:Nat} (pre:List (Item w B)) (x:Item w B):listUp (pre++[x])=Dat.pair x.dat (listUp pre):=by simp[listUp]
theorem ziw (l:List Dat):l.foldr (fun x acc=>Dat.pair x acc) Dat.null=Dat.list l:=by
 induction l with
 | nil=>rfl
 | cons x l ih=>rw[List.foldr_cons,Dat.list,ih]
theorem zii {w:World} {B:Nat} {ys:List (Item w B)} {l:List Dat} (h:ys.map Item.dat=l.reverse):listUp ys=Dat.list l:=by
 have e:listUp ys=(ys.map Item.dat).foldl (fun acc x=>Dat.pair x acc) Dat.null:=by rw[List.foldl_map];rfl
 rw[e,h,List.foldl_reverse,ziw]
def Box5 (W:World) (B:Nat) (t:TypeId) (c0 c1 c2 c3 c4:Value):Prop:=W.heap[B]?=some (.cells #[c0,c1,c2,c3,c4] t (0,0))
section
variable {W W' : World} {B : Nat} {t : TypeId} {c0 c1 c2 c3 c4 : Value}
theorem Box5.lt (h:Box5 W B t c0 c1 c2 c3 c4):B<W.heap.size:=(Array.getElem?_eq_some_iff.1 h).1
theorem Box5.cells (h:Box5 W B t c0 c1 c2 c3 c4):W.cell? ⟨B,0,none⟩=some c0∧W.cell? ⟨B,1,none⟩=some c1∧W.cell? ⟨B,2,none⟩=some c2∧W.cell? ⟨B,3,none⟩=some c3∧W.cell? ⟨B,4,none⟩=some c4:=by
 have h':W.heap[B]?=_:=h
 refine ⟨?_,?_,?_,?_,?_⟩<;>simp[World.cell?,h']
theorem Box5.free (h:Box5 W B t c0 c1 c2 c3 c4):W.frozen? ⟨B,0,none⟩=false∧W.frozen? ⟨B,1,none⟩=false∧W.frozen? ⟨B,2,none⟩=false∧W.frozen? ⟨B,3,none⟩=false∧W.frozen? ⟨B,4,none⟩=false:=by
 have h':W.heap[B]?=_:=h
 refine ⟨?_,?_,?_,?_,?_⟩<;>simp[World.frozen?,h']
theorem Box5.new (W:World) (t:TypeId) (c0 c1 c2 c3 c4:Value):Box5 (W.alloc (.cells #[c0,c1,c2,c3,c4] t)) W.heap.size t c0 c1 c2 c3 c4:=World.alloc_heap_new W _
theorem Box5.kept {row:Option Nat} (h:Box5 W B t c0 c1 c2 c3 c4) (hg:W.grownBy W' row) (hne:some B≠row):Box5 W' B t c0 c1 c2 c3 c4:=(hg.block B h.lt hne).trans h
theorem Box5.alloc (h:Box5 W B t c0 c1 c2 c3 c4) (o:Obj):Box5 (W.alloc o) B t c0 c1 c2 c3 c4:=h.kept (World.grownBy_alloc W o none) (by simp)
theorem zay (W:World) (a:Addr) (v:Value) {k:Nat} (h:k≠a.block):(W.setCell a v).heap[k]?=W.heap[k]?:=Below.heap_setCell W a v k h
theorem Box5.set (h:Box5 W B t c0 c1 c2 c3 c4) (d0 d1 d2 d3 d4:Value) :
  Box5 (((((W.setCell ⟨B,0,none⟩ d0).setCell ⟨B,1,none⟩ d1).setCell ⟨B,2,none⟩ d2).setCell ⟨B,3,none⟩ d3).setCell ⟨B,4,none⟩ d4) B t d0 d1 d2 d3 d4:=by
 obtain ⟨hlt,hk⟩:=Array.getElem?_eq_some_iff.1 h
 simp only[Box5,World.setCell,Array.getElem?_modify,↓reduceIte]
 rw[show W.heap[B]?=_ from h]
 rfl
end
theorem zcM {β:Type} (B:Nat) (t:TypeId) (c0 c1 c2 c3 c4:β->Value):Own (fun s W=>Box5 W B t (c0 s) (c1 s) (c2 s) (c3 s) (c4 s)):=fun s X Y row hs hg hr=>hs.kept hg (fun e'=>by
 obtain ⟨o,ho,hc⟩:=hr B e'.symm
 rw[show X.heap[B]?=_ from hs] at ho;cases ho;cases hc)
theorem zfE {A A':World} {row:Option Nat} (hg:A.grownBy A' row) (hr:∀r,row=some r->∃o:Obj,A.heap[r]?=some o∧o.isCells=false) (b o:Nat) (v:Value) (h:A.cell? ⟨b,o,none⟩=some v):A'.cell? ⟨b,o,none⟩=some v:=
 cell_kept h hg hr
abbrev set5 (W:World) (B:Nat) (d0 d1 d2 d3 d4:Value):World:=((((W.setCell ⟨B,0,none⟩ d0).setCell ⟨B,1,none⟩ d1).setCell ⟨B,2,none⟩ d2).setCell ⟨B,3,none⟩ d3).setCell ⟨B,4,none⟩ d4
theorem zco (W:World) (B:Nat) (d0 d1 d2 d3 d4:Value) {c o:Nat} (h:c≠B):(set5 W B d0 d1 d2 d3 d4).cell? ⟨c,o,none⟩=W.cell? ⟨c,o,none⟩:=by
 have e:∀(w:World) (i:Nat) (d:Value),(w.setCell ⟨B,i,none⟩ d).cell? ⟨c,o,none⟩=w.cell? ⟨c,o,none⟩:=fun w i d=>World.cell?_setCell_other _ _ _ _ (fun hh=>h (by simpa using (congrArg Addr.block hh).symm))
 unfold set5
 rw[e,e,e,e,e]
theorem ziv (W:World) (B:Nat) (d0 d1 d2 d3 d4:Value):KeepsOthers W (set5 W B d0 d1 d2 d3 d4):=
 ((((KeepsOthers.setCell _ _ _).trans (KeepsOthers.setCell _ _ _)).trans (KeepsOthers.setCell _ _ _)).trans (KeepsOthers.setCell _ _ _)).trans (KeepsOthers.setCell _ _ _)
theorem zag (W:World) (B H:Nat) (d0 d1 d2 d3 d4:Value) (h:H<=B):Below H W (set5 W B d0 d1 d2 d3 d4):=
 (((((Below.refl H W).setCell (p:=⟨B,0,none⟩) h _).setCell (p:=⟨B,1,none⟩) h _).setCell (p:=⟨B,2,none⟩) h _).setCell (p:=⟨B,3,none⟩) h _).setCell (p:=⟨B,4,none⟩) h _
theorem zam (W:World) (B:Nat) (d0 d1 d2 d3 d4:Value) {c:Nat} (h:c≠B):(set5 W B d0 d1 d2 d3 d4).heap[c]?=W.heap[c]?:=by
 unfold set5
 rw[zay _ _ _ h,zay _ _ _ h,zay _ _ _ h,zay _ _ _ h,zay _ _ _ h]
theorem zan (W:World) (B:Nat) (d0 d1 d2 d3 d4:Value):(set5 W B d0 d1 d2 d3 d4).heap.size=W.heap.size:=by simp[set5]
end
section
open Go.RowKit
def isZero:Dat->Bool | .mk k n d _ _=>decide (k=0∧n=0∧d=0)
mutual
def nz:Dat->Bool | .mk _ _ _ _ l=>nzL l
def nzL:List Dat->Bool
 | []=>true
 | x::l=>!isZero x&&(nz x&&nzL l)
end
end
section
open Go.RowKit
theorem zfG (s:ByteArray) (x y:Int) (z:Bool) (hp:Num.parse s.data.toList=(x,y,z)) (hs:s.size<=140737488351232) (w:World) :
  Calls prog 96 #[.string s] w fun e w'=>e=.returned (.tuple #[.int .i64 x,.int .i64 y,.bool z])∧Below w.heap.size w w':=by
 have:=zit s (by omega) w
 rw[hp] at this;exact this
def marks11:List UInt8:=[45,43,42,47,60,62,61,33,63,95,37]
theorem zbE:∀b:UInt8,Dat.nameByte b=((decide (97<=b.toNat)&&decide (b.toNat<=122)) || (decide (48<=b.toNat)&&decide (b.toNat<=57)) || marks11.contains b):=by
 intro b
 have h:∀n,n<256->Dat.nameByte (UInt8.ofNat n)=((decide (97<=(UInt8.ofNat n).toNat)&&decide ((UInt8.ofNat n).toNat<=122)) || (decide (48<=(UInt8.ofNat n).toNat)&&decide ((UInt8.ofNat n).toNat<=57)) || marks11.contains (UInt8.ofNat n)):=by decide +kernel
 have:=h b.toNat (UInt8.toNat_lt b)
 rwa[UInt8.ofNat_toNat] at this
theorem zjO (x:Int):(97<=x∧x<=122)∨(48<=x∧x<=57)∨x<48∨(57<x∧x<97)∨122<x:=by omega
theorem zb1 {base:Bool} {b c:UInt8} {q:Nat} (h:(base || (marks11.take q).contains b)=true) (_:marks11[q]?=some c):(base || (marks11.take (q+1)).contains b)=true:=by
 rw[List.take_add_one]
 simp only[Bool.or_eq_true,List.contains_iff_mem,List.mem_append] at h ⊢
 rcases h with h | h
 ·exact .inl h
 ·exact .inr (.inl h)
theorem zfr {base:Bool} {b c:UInt8} {q:Nat} (hc:marks11[q]?=some c) (he:((b.toNat:Int)==(c.toNat:Int))=true):(base || (marks11.take (q+1)).contains b)=true:=by
 have e:b=c:=UInt8.toNat_inj.1 (by have:=beq_iff_eq.1 he;omega)
 rw[List.take_add_one,hc,e]
 simp
theorem zeg {base:Bool} {b c:UInt8} {q:Nat} (h:(base || (marks11.take q).contains b)=false) (hc:marks11[q]?=some c) (he:((b.toNat:Int)==(c.toNat:Int))=false):(base || (marks11.take (q+1)).contains b)=false:=by
 have e:¬b=c:=by rintro rfl;simp at he
 rw[List.take_add_one,hc]
 simp only[Bool.or_eq_false_iff] at h ⊢
 refine ⟨h.1,?_⟩
 rw[<-Bool.not_eq_true,List.contains_iff_mem,List.mem_append]
 have h2:=h.2
 rw[<-Bool.not_eq_true,List.contains_iff_mem] at h2
 rintro (h' | h')
 ·exact h2 h'
 ·simp only[Option.toList_some,List.mem_singleton] at h';exact e h'
theorem zjW {b:UInt8} (h:(97<=(b.toNat:Int)∧(b.toNat:Int)<=122)∨(48<=(b.toNat:Int)∧(b.toNat:Int)<=57)):((decide (97<=b.toNat)&&decide (b.toNat<=122)) || (decide (48<=b.toNat)&&decide (b.toNat<=57)))=true:=by
 simp only[Bool.or_eq_true,Bool.and_eq_true,decide_eq_true_eq];omega
theorem zjw {b:UInt8} (h:¬((97<=(b.toNat:Int)∧(b.toNat:Int)<=122)∨(48<=(b.toNat:Int)∧(b.toNat:Int)<=57))):((decide (97<=b.toNat)&&decide (b.toNat<=122)) || (decide (48<=b.toNat)&&decide (b.toNat<=57)))=false:=by
 rw[<-Bool.not_eq_true]
 simp only[Bool.or_eq_true,Bool.and_eq_true,decide_eq_true_eq];omega
theorem zci {p:UInt8->Bool} {l:List UInt8} {j:Nat} (h:∀b∈l.take j,p b=true) (hj:j<l.length) (hp:p l[j]=true):∀b∈l.take (j+1),p b=true:=by
 intro b hb
 rw[List.take_add_one,List.getElem?_eq_getElem hj] at hb
 rcases List.mem_append.1 hb with h' | h'
 ·exact h b h'
 ·simp only[Option.toList_some,List.mem_singleton] at h';rw[h'];exact hp
theorem zei {p:UInt8->Bool} {l:List UInt8} {i:Nat} (hj:i<l.length) (hp:p l[i]=false):l.all p=false:=by
 rw[List.all_eq_false]
 exact ⟨l[i],List.getElem_mem hj,by simp[hp]⟩
theorem zjH (s:ByteArray) (hs:s.size<=140737488351232) (w:World) :
  Calls prog 92 #[.string s] w fun e w'=>e=.returned (.bool (Dat.name s.data.toList))∧Below w.heap.size w w':=by
 have hl:s.data.toList.length=s.size:=rfl
 obtain ⟨r,hr⟩:∃r,Dat.name s.data.toList=r:=⟨_,rfl⟩
 rw[hr]
 unfold Dat.name at hr
 rw[hl] at hr
 by_cases h0:s.size<1
 ·have HR:=zh (show r=false by rw[<-hr,decide_eq_false (by omega:¬1<=s.size)];rfl)
  clear hr
  go_enter func92,ntmps92
  go_wp2
  go_ret
  exact ⟨zar HR.out.symm,Below.self _⟩
 by_cases h40:40<s.size
 ·have HR:=zh (show r=false by rw[<-hr,decide_eq_false (by omega:¬s.size<=40)];simp)
  clear hr
  go_enter func92,ntmps92
  go_wp2
  go_ret
  exact ⟨zar HR.out.symm,Below.self _⟩
 rw[decide_eq_true (by omega:1<=s.size),decide_eq_true (by omega:s.size<=40)] at hr
 simp only[Bool.true_and] at hr
 have HR:=zh hr
 have HS:=zh (Below.refl w.heap.size w)
 clear hr
 go_enter func92,ntmps92
 go_wp2_with fail
 generalize hM:(⟨#[45,43,42,47,60,62,61,33,63,95,37]⟩:ByteArray)=M
 have hM1:M.size=11:=by rw[<-hM];rfl
 have hM2:M.data.toList=marks11:=by rw[<-hM];rfl
 have HM1:=zh hM1
 have HM2:=zh hM2
 clear hM hM2
 go_loopg [4] s.size (fun g i wr=>∃j:Nat,g=s.size-j∧j<=s.size∧i=.int .i64 j∧(∀b∈s.data.toList.take j,Dat.nameByte b=true)∧Below w.heap.size w wr)
 case atStart=>exact ⟨0,rfl,by omega,rfl,by simp,HS.out⟩
 case round=>
  obtain ⟨j,rfl,hj,rfl,hall,hb⟩:=hrel
  have HA:=zh hall
  have HB:=zh hb
  have hsz:=hb.size
  clear hall hb
  by_cases hjl:j<s.size
  ·rcases zjO (s[j].toNat:Int) with ⟨h1,h2⟩ | ⟨h1,h2⟩ | h1 | ⟨h1,h2⟩ | h1
   ·skip
    go_wp2_with fail
    go_loopg [5,6] 11 (fun g ok k wr=>∃(q:Nat) (v:Bool),g=11-q∧q<=11∧k=.int .i64 q∧ok=.bool v∧(true || (marks11.take q).contains s[j])=v∧Below w.heap.size w wr)
    case atStart=>exact ⟨0,true,rfl,by omega,rfl,rfl,rfl,HB.out⟩
    case round=>
     obtain ⟨q,v,rfl,hq,rfl,rfl,hv,hb⟩:=hrel
     have HV:=zh hv
     have HB2:=zh hb
     have hsz2:=hb.size
     clear hv hb
     by_cases hql:q<11
     ·have hqM:q<M.size:=by rw[hM1];exact hql
      have hmq:marks11[q]?=some M[q]:=by rw[<-HM2.out];exact List.getElem?_eq_getElem (by simpa using hqM)
      have HMQ:=zh hmq
      clear hmq
      cases v with
      | true=>
       go_wp2_with fail
       go_region
       all_goals
        go_wp2_with fail
        go_roundg (11-(q+1))
        case measure=>omega
        case rel=>exact ⟨q+1,true,rfl,by omega,by go_num,rfl,zb1 HV.out HMQ.out,by first | exact HB2.out.drew | exact HB2.out | fail⟩
      | false=>
       exact absurd HV.out (by simp)
     ·have hq11:q=11:=by omega
      subst hq11
      have HN:=zh (show Dat.nameByte s[j]=v by
       rw[zbE,<-HV.out]
       simp only[show marks11.take 11=marks11 from rfl]
       congr 1
       exact zjW (by omega))
      cases v with
      | true=>
       go_wp2_with fail
       go_roundg (s.size-(j+1))
       case measure=>omega
       case rel=>exact ⟨j+1,rfl,by omega,by go_num,zci HA.out (hl ▸ hjl) HN.out,HB2.out⟩
      | false=>
       have HF:=zh (show r=false by rw[<-HR.out,zei (i:=j) (hl ▸ hjl) HN.out];rfl)
       go_wp2_with fail
       go_ret
       exact ⟨zar HF.out.symm,HB2.out⟩
   ·skip
    go_wp2_with fail
    go_loopg [5,6] 11 (fun g ok k wr=>∃(q:Nat) (v:Bool),g=11-q∧q<=11∧k=.int .i64 q∧ok=.bool v∧(true || (marks11.take q).contains s[j])=v∧Below w.heap.size w wr)
    case atStart=>exact ⟨0,true,rfl,by omega,rfl,rfl,rfl,HB.out⟩
    case round=>
     obtain ⟨q,v,rfl,hq,rfl,rfl,hv,hb⟩:=hrel
     have HV:=zh hv
     have HB2:=zh hb
     have hsz2:=hb.size
     clear hv hb
     by_cases hql:q<11
     ·have hqM:q<M.size:=by rw[hM1];exact hql
      have hmq:marks11[q]?=some M[q]:=by rw[<-HM2.out];exact List.getElem?_eq_getElem (by simpa using hqM)
      have HMQ:=zh hmq
      clear hmq
      cases v with
      | true=>
       go_wp2_with fail
       go_region
       all_goals
        go_wp2_with fail
        go_roundg (11-(q+1))
        case measure=>omega
        case rel=>exact ⟨q+1,true,rfl,by omega,by go_num,rfl,zb1 HV.out HMQ.out,by first | exact HB2.out.drew | exact HB2.out | fail⟩
      | false=>
       exact absurd HV.out (by simp)
     ·have hq11:q=11:=by omega
      subst hq11
      have HN:=zh (show Dat.nameByte s[j]=v by
       rw[zbE,<-HV.out]
       simp only[show marks11.take 11=marks11 from rfl]
       congr 1
       exact zjW (by omega))
      cases v with
      | true=>
       go_wp2_with fail
       go_roundg (s.size-(j+1))
       case measure=>omega
       case rel=>exact ⟨j+1,rfl,by omega,by go_num,zci HA.out (hl ▸ hjl) HN.out,HB2.out⟩
      | false=>
       have HF:=zh (show r=false by rw[<-HR.out,zei (i:=j) (hl ▸ hjl) HN.out];rfl)
       go_wp2_with fail
       go_ret
       exact ⟨zar HF.out.symm,HB2.out⟩
   ·skip
    go_wp2_with fail
    go_loopg [5,6] 11 (fun g ok k wr=>∃(q:Nat) (v:Bool),g=11-q∧q<=11∧k=.int .i64 q∧ok=.bool v∧(false || (marks11.take q).contains s[j])=v∧Below w.heap.size w wr)
    case atStart=>exact ⟨0,false,rfl,by omega,rfl,rfl,rfl,HB.out⟩
    case round=>
     obtain ⟨q,v,rfl,hq,rfl,rfl,hv,hb⟩:=hrel
     have HV:=zh hv
     have HB2:=zh hb
     have hsz2:=hb.size
     clear hv hb
     by_cases hql:q<11
     ·have hqM:q<M.size:=by rw[hM1];exact hql
      have hmq:marks11[q]?=some M[q]:=by rw[<-HM2.out];exact List.getElem?_eq_getElem (by simpa using hqM)
      have HMQ:=zh hmq
      clear hmq
      cases v with
      | true=>
       go_wp2_with fail
       go_region
       all_goals
        go_wp2_with fail
        go_roundg (11-(q+1))
        case measure=>omega
        case rel=>exact ⟨q+1,true,rfl,by omega,by go_num,rfl,zb1 HV.out HMQ.out,by first | exact HB2.out.drew | exact HB2.out | fail⟩
      | false=>
       cases he:((s[j].toNat:Int)==(M[q].toNat:Int)) with
       | true=>
        go_wp2_with fail
        go_region
        all_goals
         go_wp2_with fail
         go_roundg (11-(q+1))
         case measure=>omega
         case rel=>exact ⟨q+1,true,rfl,by omega,by go_num,rfl,zfr HMQ.out he,by first | exact HB2.out.drew | exact HB2.out | fail⟩
       | false=>
        go_wp2_with fail
        go_region
        all_goals
         go_wp2_with fail
         go_roundg (11-(q+1))
         case measure=>omega
         case rel=>exact ⟨q+1,false,rfl,by omega,by go_num,rfl,zeg HV.out HMQ.out he,by first | exact HB2.out.drew | exact HB2.out | fail⟩
     ·have hq11:q=11:=by omega
      subst hq11
      have HN:=zh (show Dat.nameByte s[j]=v by
       rw[zbE,<-HV.out]
       simp only[show marks11.take 11=marks11 from rfl]
       congr 1
       exact zjw (by omega))
      cases v with
      | true=>
       go_wp2_with fail
       go_roundg (s.size-(j+1))
       case measure=>omega
       case rel=>exact ⟨j+1,rfl,by omega,by go_num,zci HA.out (hl ▸ hjl) HN.out,HB2.out⟩
      | false=>
       have HF:=zh (show r=false by rw[<-HR.out,zei (i:=j) (hl ▸ hjl) HN.out];rfl)
       go_wp2_with fail
       go_ret
       exact ⟨zar HF.out.symm,HB2.out⟩
   ·skip
    have h57:decide ((s[j].toNat:Int)<=57)=false:=decide_eq_false (by omega)
    go_wp2_with fail
    go_loopg [5,6] 11 (fun g ok k wr=>∃(q:Nat) (v:Bool),g=11-q∧q<=11∧k=.int .i64 q∧ok=.bool v∧(false || (marks11.take q).contains s[j])=v∧Below w.heap.size w wr)
    case atStart=>exact ⟨0,false,rfl,by omega,rfl,rfl,rfl,HB.out⟩
    case round=>
     obtain ⟨q,v,rfl,hq,rfl,rfl,hv,hb⟩:=hrel
     have HV:=zh hv
     have HB2:=zh hb
     have hsz2:=hb.size
     clear hv hb
     by_cases hql:q<11
     ·have hqM:q<M.size:=by rw[hM1];exact hql
      have hmq:marks11[q]?=some M[q]:=by rw[<-HM2.out];exact List.getElem?_eq_getElem (by simpa using hqM)
      have HMQ:=zh hmq
      clear hmq
      cases v with
      | true=>
       go_wp2_with fail
       go_region
       all_goals
        go_wp2_with fail
        go_roundg (11-(q+1))
        case measure=>omega
        case rel=>exact ⟨q+1,true,rfl,by omega,by go_num,rfl,zb1 HV.out HMQ.out,by first | exact HB2.out.drew | exact HB2.out | fail⟩
      | false=>
       cases he:((s[j].toNat:Int)==(M[q].toNat:Int)) with
       | true=>
        go_wp2_with fail
        go_region
        all_goals
         go_wp2_with fail
         go_roundg (11-(q+1))
         case measure=>omega
         case rel=>exact ⟨q+1,true,rfl,by omega,by go_num,rfl,zfr HMQ.out he,by first | exact HB2.out.drew | exact HB2.out | fail⟩
       | false=>
        go_wp2_with fail
        go_region
        all_goals
         go_wp2_with fail
         go_roundg (11-(q+1))
         case measure=>omega
         case rel=>exact ⟨q+1,false,rfl,by omega,by go_num,rfl,zeg HV.out HMQ.out he,by first | exact HB2.out.drew | exact HB2.out | fail⟩
     ·have hq11:q=11:=by omega
      subst hq11
      have HN:=zh (show Dat.nameByte s[j]=v by
       rw[zbE,<-HV.out]
       simp only[show marks11.take 11=marks11 from rfl]
       congr 1
       exact zjw (by omega))
      cases v with
      | true=>
       go_wp2_with fail
       go_roundg (s.size-(j+1))
       case measure=>omega
       case rel=>exact ⟨j+1,rfl,by omega,by go_num,zci HA.out (hl ▸ hjl) HN.out,HB2.out⟩
      | false=>
       have HF:=zh (show r=false by rw[<-HR.out,zei (i:=j) (hl ▸ hjl) HN.out];rfl)
       go_wp2_with fail
       go_ret
       exact ⟨zar HF.out.symm,HB2.out⟩
   ·skip
    have h57:decide ((s[j].toNat:Int)<=57)=false:=decide_eq_false (by omega)
    have h122:decide ((s[j].toNat:Int)<=122)=false:=decide_eq_false (by omega)
    go_wp2_with fail
    go_loopg [5,6] 11 (fun g ok k wr=>∃(q:Nat) (v:Bool),g=11-q∧q<=11∧k=.int .i64 q∧ok=.bool v∧(false || (marks11.take q).contains s[j])=v∧Below w.heap.size w wr)
    case atStart=>exact ⟨0,false,rfl,by omega,rfl,rfl,rfl,HB.out⟩
    case round=>
     obtain ⟨q,v,rfl,hq,rfl,rfl,hv,hb⟩:=hrel
     have HV:=zh hv
     have HB2:=zh hb
     have hsz2:=hb.size
     clear hv hb
     by_cases hql:q<11
     ·have hqM:q<M.size:=by rw[hM1];exact hql
      have hmq:marks11[q]?=some M[q]:=by rw[<-HM2.out];exact List.getElem?_eq_getElem (by simpa using hqM)
      have HMQ:=zh hmq
      clear hmq
      cases v with
      | true=>
       go_wp2_with fail
       go_region
       all_goals
        go_wp2_with fail
        go_roundg (11-(q+1))
        case measure=>omega
        case rel=>exact ⟨q+1,true,rfl,by omega,by go_num,rfl,zb1 HV.out HMQ.out,by first | exact HB2.out.drew | exact HB2.out | fail⟩
      | false=>
       cases he:((s[j].toNat:Int)==(M[q].toNat:Int)) with
       | true=>
        go_wp2_with fail
        go_region
        all_goals
         go_wp2_with fail
         go_roundg (11-(q+1))
         case measure=>omega
         case rel=>exact ⟨q+1,true,rfl,by omega,by go_num,rfl,zfr HMQ.out he,by first | exact HB2.out.drew | exact HB2.out | fail⟩
       | false=>
        go_wp2_with fail
        go_region
        all_goals
         go_wp2_with fail
         go_roundg (11-(q+1))
         case measure=>omega
         case rel=>exact ⟨q+1,false,rfl,by omega,by go_num,rfl,zeg HV.out HMQ.out he,by first | exact HB2.out.drew | exact HB2.out | fail⟩
     ·have hq11:q=11:=by omega
      subst hq11
      have HN:=zh (show Dat.nameByte s[j]=v by
       rw[zbE,<-HV.out]
       simp only[show marks11.take 11=marks11 from rfl]
       congr 1
       exact zjw (by omega))
      cases v with
      | true=>
       go_wp2_with fail
       go_roundg (s.size-(j+1))
       case measure=>omega
       case rel=>exact ⟨j+1,rfl,by omega,by go_num,zci HA.out (hl ▸ hjl) HN.out,HB2.out⟩
      | false=>
       have HF:=zh (show r=false by rw[<-HR.out,zei (i:=j) (hl ▸ hjl) HN.out];rfl)
       go_wp2_with fail
       go_ret
       exact ⟨zar HF.out.symm,HB2.out⟩
  ·obtain rfl:j=s.size:=by omega
   rw[<-hl,List.take_length] at HA
   have HT:=zh (List.all_eq_true.2 HA.out)
   obtain ⟨x,y,z,hp⟩:∃x y z,Num.parse s.data.toList=(x,y,z):=⟨_,_,_,rfl⟩
   have HP:=zh hp
   have HF:=zh (show r = !z by rw[<-HR.out,HT.out,hp];rfl)
   clear hp
   go_wp2_with fail
   refine (zfG s x y z HP.out hs _).mono ?_
   rintro e' w1 ⟨rfl,hb1⟩
   go_wp2
   go_ret
   exact ⟨zar HF.out.symm,Below.next HB.out hb1⟩
end
section
open Go.RowKit
theorem zlo (s:ByteArray) (r:Bool) (hr:Dat.name s.data.toList=r) (hs:s.size<=140737488351232) (w:World) :
  Calls prog 82 #[.string s] w fun e w'=>e=.returned (.bool r)∧Below w.heap.size w w':=by
 rw[<-hr];exact zkZ s hs w
theorem zkC (s:ByteArray) (r:Bool) (hr:s.data.toList.all Dat.strByte=r) (hs:s.size<=140737488351232) (w:World) :
  Calls prog 83 #[.string s] w fun e w'=>e=.returned (.bool r)∧Below w.heap.size w w':=by
 rw[<-hr];exact zjK s hs w
theorem zlS (n d:Int) (s:ByteArray) (o:Option Addr) (len cap:Nat) (hn0:-9223372036854775808<=n) (hn1:n<=9223372036854775807) (hd0:-9223372036854775808<=d) (hd1:d<=9223372036854775807) (w:World) :
  Calls prog 45 #[.agg #[.int .i64 0,.int .i64 n,.int .i64 d,.string s,.slice o len cap]] w fun e w'=>e=.returned (.tuple #[.agg #[.int .i64 0,.int .i64 n,.int .i64 d,.string ⟨#[]⟩,.slice none 0 0],.bool (Num.right n d)])∧Below w.heap.size w w':=by
 obtain ⟨r,hr⟩:∃r,Num.right n d=r:=⟨_,rfl⟩
 rw[hr]
 have HR:=zh hr
 clear hr
 go_enter func45,ntmps45
 go_wp2
 refine zaQ (Two w #[.int .i64 0,.int .i64 n,.int .i64 d,.string s,.slice o len cap] 26 #[.int .i64 0,.int .i64 0,.int .i64 0,.string ByteArray.empty,.slice none 0 0]) 10 (by kernel_rfl) (by kernel_rfl) Two.drew ?_
 intro T _ W HW HW2
 have e0:∀t,(W t).cell? ⟨w.heap.size,0,none⟩=some (.int .i64 0):=fun t=>(HW t).cell 0 rfl
 have e1:∀t,(W t).cell? ⟨w.heap.size,1,none⟩=some (.int .i64 n):=fun t=>(HW t).cell 1 rfl
 have e2:∀t,(W t).cell? ⟨w.heap.size,2,none⟩=some (.int .i64 d):=fun t=>(HW t).cell 2 rfl
 have e3:∀t,(W t).cell? ⟨w.heap.size,3,none⟩=some (.string s):=fun t=>(HW t).cell 3 rfl
 have e4:∀t,(W t).cell? ⟨w.heap.size,4,none⟩=some (.slice o len cap):=fun t=>(HW t).cell 4 rfl
 have HWH:=zh HW
 have HW2H:=zh HW2
 clear HW HW2
 simp only[List.take_succ_cons,List.take_zero,List.drop_succ_cons,List.drop_zero]
 repeat (go_big_quiet_step (first | (go_at_call 81;refine (zdG n d r HR.out hn0 hn1 hd0 hd1 _).mono ?_;rintro e1 w1 ⟨rfl,k,rfl⟩;exact ⟨rfl,HW2H.out _ ((HWH.out _).next (Below.selfN _ _))⟩)))
 refine wpQuiet_nil ?_
 intro t
 obtain ⟨q0,q1,q2,q3,q4,z0,z1,z2,z3,z4⟩:=(HWH.out t).five
 go_wp2
 refine bodyPost_ret (v:=.tuple #[.agg #[.int .i64 0,.int .i64 n,.int .i64 d,.string ⟨#[]⟩,.slice none 0 0],.bool r]) (by simp[results,results45,go_sem,q0,q1,q2,q3,q4]) rfl ⟨rfl,?_⟩
 exact (HWH.out t).stored _ _ _ _ _
theorem zls (n d:Int) (s:ByteArray) (o:Option Addr) (len cap:Nat) (h0:(n==0)=true) (w:World) :
  Calls prog 45 #[.agg #[.int .i64 1,.int .i64 n,.int .i64 d,.string s,.slice o len cap]] w fun e w'=>e=.returned (.tuple #[.agg #[.int .i64 1,.int .i64 n,.int .i64 0,.string ⟨#[]⟩,.slice none 0 0],.bool (true)])∧Below w.heap.size w w':=by
 go_enter func45,ntmps45
 go_wp2
 go_region
 all_goals
  go_wp2
  refine bodyPost_ret (v:=.tuple #[.agg #[.int .i64 1,.int .i64 n,.int .i64 0,.string ⟨#[]⟩,.slice none 0 0],.bool true]) (by simp[results,results45,go_sem]) rfl ⟨rfl,?_⟩
  exact (((Below.refl w.heap.size w).alloc qzL _).alloc (by simp) _).drew
theorem zlB (n d:Int) (s:ByteArray) (o:Option Addr) (len cap:Nat) (h0:(n==0)=false) (h1:(n==1)=true) (w:World) :
  Calls prog 45 #[.agg #[.int .i64 1,.int .i64 n,.int .i64 d,.string s,.slice o len cap]] w fun e w'=>e=.returned (.tuple #[.agg #[.int .i64 1,.int .i64 n,.int .i64 0,.string ⟨#[]⟩,.slice none 0 0],.bool (true)])∧Below w.heap.size w w':=by
 go_enter func45,ntmps45
 go_wp2
 go_region
 all_goals
  go_wp2
  refine bodyPost_ret (v:=.tuple #[.agg #[.int .i64 1,.int .i64 n,.int .i64 0,.string ⟨#[]⟩,.slice none 0 0],.bool true]) (by simp[results,results45,go_sem]) rfl ⟨rfl,?_⟩
  exact (((Below.refl w.heap.size w).alloc qzL _).alloc (by simp) _).drew
theorem zlC (n d:Int) (s:ByteArray) (o:Option Addr) (len cap:Nat) (h0:(n==0)=false) (h1:(n==1)=false) (w:World) :
  Calls prog 45 #[.agg #[.int .i64 1,.int .i64 n,.int .i64 d,.string s,.slice o len cap]] w fun e w'=>e=.returned (.tuple #[.agg #[.int .i64 1,.int .i64 n,.int .i64 0,.string ⟨#[]⟩,.slice none 0 0],.bool (false)])∧Below w.heap.size w w':=by
 go_enter func45,ntmps45
 go_wp2
 go_region
 all_goals
  go_wp2
  refine bodyPost_ret (v:=.tuple #[.agg #[.int .i64 1,.int .i64 n,.int .i64 0,.string ⟨#[]⟩,.slice none 0 0],.bool false]) (by simp[results,results45,go_sem]) rfl ⟨rfl,?_⟩
  exact (((Below.refl w.heap.size w).alloc qzL _).alloc (by simp) _).drew
theorem zlO (n d:Int) (s:ByteArray) (o:Option Addr) (len cap:Nat) (hs:s.size<=140737488351232) (w:World) :
  Calls prog 45 #[.agg #[.int .i64 2,.int .i64 n,.int .i64 d,.string s,.slice o len cap]] w fun e w'=>e=.returned (.tuple #[.agg #[.int .i64 2,.int .i64 0,.int .i64 0,.string s,.slice none 0 0],.bool (Dat.name s.data.toList)])∧Below w.heap.size w w':=by
 obtain ⟨r,hr⟩:∃r,Dat.name s.data.toList=r:=⟨_,rfl⟩
 rw[hr]
 have HR:=zh hr
 clear hr
 go_enter func45,ntmps45
 go_wp2
 refine zaQ (Two w #[.int .i64 2,.int .i64 n,.int .i64 d,.string s,.slice o len cap] 26 #[.int .i64 0,.int .i64 0,.int .i64 0,.string ByteArray.empty,.slice none 0 0]) 8 (by kernel_rfl) (by kernel_rfl) Two.drew ?_
 intro T _ W HW HW2
 have e0:∀t,(W t).cell? ⟨w.heap.size,0,none⟩=some (.int .i64 2):=fun t=>(HW t).cell 0 rfl
 have e1:∀t,(W t).cell? ⟨w.heap.size,1,none⟩=some (.int .i64 n):=fun t=>(HW t).cell 1 rfl
 have e2:∀t,(W t).cell? ⟨w.heap.size,2,none⟩=some (.int .i64 d):=fun t=>(HW t).cell 2 rfl
 have e3:∀t,(W t).cell? ⟨w.heap.size,3,none⟩=some (.string s):=fun t=>(HW t).cell 3 rfl
 have e4:∀t,(W t).cell? ⟨w.heap.size,4,none⟩=some (.slice o len cap):=fun t=>(HW t).cell 4 rfl
 have HWH:=zh HW
 have HW2H:=zh HW2
 clear HW HW2
 simp only[List.take_succ_cons,List.take_zero,List.drop_succ_cons,List.drop_zero]
 repeat (go_big_quiet_step (first | (go_at_call 82;refine (zlo s r HR.out hs _).mono ?_;rintro e1 w1 ⟨rfl,hb⟩;exact ⟨rfl,HW2H.out _ ((HWH.out _).next hb)⟩)))
 refine wpQuiet_nil ?_
 intro t
 obtain ⟨q0,q1,q2,q3,q4,z0,z1,z2,z3,z4⟩:=(HWH.out t).five
 go_wp2
 refine bodyPost_ret (v:=.tuple #[.agg #[.int .i64 2,.int .i64 0,.int .i64 0,.string s,.slice none 0 0],.bool r]) (by simp[results,results45,go_sem,q0,q1,q2,q3,q4]) rfl ⟨rfl,?_⟩
 exact (HWH.out t).stored _ _ _ _ _
theorem zlQ (n d:Int) (s:ByteArray) (o:Option Addr) (len cap:Nat) (hs:s.size<=140737488351232) (w:World) :
  Calls prog 45 #[.agg #[.int .i64 3,.int .i64 n,.int .i64 d,.string s,.slice o len cap]] w fun e w'=>e=.returned (.tuple #[.agg #[.int .i64 3,.int .i64 0,.int .i64 0,.string s,.slice none 0 0],.bool (s.data.toList.all Dat.strByte)])∧Below w.heap.size w w':=by
 obtain ⟨r,hr⟩:∃r,s.data.toList.all Dat.strByte=r:=⟨_,rfl⟩
 rw[hr]
 have HR:=zh hr
 clear hr
 go_enter func45,ntmps45
 go_wp2
 refine zaQ (Two w #[.int .i64 3,.int .i64 n,.int .i64 d,.string s,.slice o len cap] 26 #[.int .i64 0,.int .i64 0,.int .i64 0,.string ByteArray.empty,.slice none 0 0]) 8 (by kernel_rfl) (by kernel_rfl) Two.drew ?_
 intro T _ W HW HW2
 have e0:∀t,(W t).cell? ⟨w.heap.size,0,none⟩=some (.int .i64 3):=fun t=>(HW t).cell 0 rfl
 have e1:∀t,(W t).cell? ⟨w.heap.size,1,none⟩=some (.int .i64 n):=fun t=>(HW t).cell 1 rfl
 have e2:∀t,(W t).cell? ⟨w.heap.size,2,none⟩=some (.int .i64 d):=fun t=>(HW t).cell 2 rfl
 have e3:∀t,(W t).cell? ⟨w.heap.size,3,none⟩=some (.string s):=fun t=>(HW t).cell 3 rfl
 have e4:∀t,(W t).cell? ⟨w.heap.size,4,none⟩=some (.slice o len cap):=fun t=>(HW t).cell 4 rfl
 have HWH:=zh HW
 have HW2H:=zh HW2
 clear HW HW2
 simp only[List.take_succ_cons,List.take_zero,List.drop_succ_cons,List.drop_zero]
 repeat (go_big_quiet_step (first | (go_at_call 83;refine (zkC s r HR.out hs _).mono ?_;rintro e1 w1 ⟨rfl,hb⟩;exact ⟨rfl,HW2H.out _ ((HWH.out _).next hb)⟩)))
 refine wpQuiet_nil ?_
 intro t
 obtain ⟨q0,q1,q2,q3,q4,z0,z1,z2,z3,z4⟩:=(HWH.out t).five
 go_wp2
 refine bodyPost_ret (v:=.tuple #[.agg #[.int .i64 3,.int .i64 0,.int .i64 0,.string s,.slice none 0 0],.bool r]) (by simp[results,results45,go_sem,q0,q1,q2,q3,q4]) rfl ⟨rfl,?_⟩
 exact (HWH.out t).stored _ _ _ _ _
theorem zlL (n d:Int) (s:ByteArray) (o:Option Addr) (len cap:Nat)  (w:World) :
  Calls prog 45 #[.agg #[.int .i64 4,.int .i64 n,.int .i64 d,.string s,.slice o len cap]] w fun e w'=>e=.returned (.tuple #[.agg #[.int .i64 4,.int .i64 0,.int .i64 0,.string ⟨#[]⟩,.slice none 0 0],.bool (true)])∧Below w.heap.size w w':=by
 go_enter func45,ntmps45
 go_wp2
 refine bodyPost_ret (v:=.tuple #[.agg #[.int .i64 4,.int .i64 0,.int .i64 0,.string ⟨#[]⟩,.slice none 0 0],.bool true]) (by simp[results,results45,go_sem]) rfl ⟨rfl,?_⟩
 exact ((Below.refl w.heap.size w).alloc qzL _).alloc (by simp) _
theorem zlP (n d:Int) (s:ByteArray) (o:Option Addr) (len cap:Nat)  (w:World) :
  Calls prog 45 #[.agg #[.int .i64 5,.int .i64 n,.int .i64 d,.string s,.slice o len cap]] w fun e w'=>e=.returned (.tuple #[.agg #[.int .i64 5,.int .i64 0,.int .i64 0,.string ⟨#[]⟩,.slice none 0 0],.bool (true)])∧Below w.heap.size w w':=by
 go_enter func45,ntmps45
 go_wp2
 refine bodyPost_ret (v:=.tuple #[.agg #[.int .i64 5,.int .i64 0,.int .i64 0,.string ⟨#[]⟩,.slice none 0 0],.bool true]) (by simp[results,results45,go_sem]) rfl ⟨rfl,?_⟩
 exact ((Below.refl w.heap.size w).alloc qzL _).alloc (by simp) _
theorem zlu (n d:Int) (s:ByteArray) (o:Option Addr) (cap:Nat)  (w:World) :
  Calls prog 45 #[.agg #[.int .i64 6,.int .i64 n,.int .i64 d,.string s,.slice o 2 cap]] w fun e w'=>e=.returned (.tuple #[.agg #[.int .i64 6,.int .i64 0,.int .i64 0,.string ⟨#[]⟩,.slice o 2 cap],.bool (true)])∧Below w.heap.size w w':=by
 go_enter func45,ntmps45
 go_wp2
 go_region
 all_goals
  go_wp2
  refine bodyPost_ret (v:=.tuple #[.agg #[.int .i64 6,.int .i64 0,.int .i64 0,.string ⟨#[]⟩,.slice o 2 cap],.bool true]) (by simp[results,results45,go_sem]) rfl ⟨rfl,?_⟩
  exact (((Below.refl w.heap.size w).alloc qzL _).alloc (by simp) _).drew
theorem zlD (n d:Int) (s:ByteArray) (o:Option Addr) (len cap:Nat) (hl:((len:Int)==2)=false) (w:World) :
  Calls prog 45 #[.agg #[.int .i64 6,.int .i64 n,.int .i64 d,.string s,.slice o len cap]] w fun e w'=>e=.returned (.tuple #[.agg #[.int .i64 6,.int .i64 0,.int .i64 0,.string ⟨#[]⟩,.slice o len cap],.bool (false)])∧Below w.heap.size w w':=by
 go_enter func45,ntmps45
 go_wp2
 go_region
 all_goals
  go_wp2
  refine bodyPost_ret (v:=.tuple #[.agg #[.int .i64 6,.int .i64 0,.int .i64 0,.string ⟨#[]⟩,.slice o len cap],.bool false]) (by simp[results,results45,go_sem]) rfl ⟨rfl,?_⟩
  exact (((Below.refl w.heap.size w).alloc qzL _).alloc (by simp) _).drew
theorem zlR (n d:Int) (s:ByteArray) (o:Option Addr) (len cap:Nat)  (w:World) :
  Calls prog 45 #[.agg #[.int .i64 7,.int .i64 n,.int .i64 d,.string s,.slice o len cap]] w fun e w'=>e=.returned (.tuple #[.agg #[.int .i64 7,.int .i64 0,.int .i64 0,.string ⟨#[]⟩,.slice o len cap],.bool (true)])∧Below w.heap.size w w':=by
 go_enter func45,ntmps45
 go_wp2
 refine bodyPost_ret (v:=.tuple #[.agg #[.int .i64 7,.int .i64 0,.int .i64 0,.string ⟨#[]⟩,.slice o len cap],.bool true]) (by simp[results,results45,go_sem]) rfl ⟨rfl,?_⟩
 exact ((Below.refl w.heap.size w).alloc qzL _).alloc (by simp) _
theorem zlM (k:Int) (n d:Int) (s:ByteArray) (o:Option Addr) (len cap:Nat) (h:k<0∨7<k) (w:World) :
  Calls prog 45 #[.agg #[.int .i64 k,.int .i64 n,.int .i64 d,.string s,.slice o len cap]] w fun e w'=>e=.returned (.tuple #[.agg #[.int .i64 0,.int .i64 0,.int .i64 0,.string ⟨#[]⟩,.slice none 0 0],.bool (false)])∧Below w.heap.size w w':=by
 have c0:(k==0)=false:=by simp;omega
 have c1:(k==1)=false:=by simp;omega
 have c2:(k==2)=false:=by simp;omega
 have c3:(k==3)=false:=by simp;omega
 have c4:(k==4)=false:=by simp;omega
 have c5:(k==5)=false:=by simp;omega
 have c6:(k==6)=false:=by simp;omega
 have c7:(k==7)=false:=by simp;omega
 clear h
 go_enter func45,ntmps45
 go_wp2
 refine bodyPost_ret (v:=.tuple #[.agg #[.int .i64 0,.int .i64 0,.int .i64 0,.string ⟨#[]⟩,.slice none 0 0],.bool false]) (by simp[results,results45,go_sem]) rfl ⟨rfl,?_⟩
 exact ((Below.refl w.heap.size w).alloc qzL _).alloc (by simp) _
end
section
open Go.RowKit
def BoxL (W:World) (b:Nat) (t:TypeId) (cs:List Value):Prop:=W.heap[b]?=some (.cells cs.toArray t (0,0))
theorem BoxL.new {W:World} {b:Nat} (h:b=W.heap.size) (t:TypeId) (cs:List Value):BoxL (W.alloc (.cells cs.toArray t)) b t cs:=by
 subst h;exact World.alloc_heap_new W _
theorem BoxL.lt {W:World} {b:Nat} {t:TypeId} {cs:List Value} (h:BoxL W b t cs):b<W.heap.size:=(Array.getElem?_eq_some_iff.1 h).1
theorem BoxL.keep {W W':World} {b:Nat} {t:TypeId} {cs:List Value} (h:BoxL W b t cs) (hb:Below W.heap.size W W'):BoxL W' b t cs:=(hb.block _ h.lt).trans h
theorem BoxL.alloc {W:World} {b:Nat} {t:TypeId} {cs:List Value} (h:BoxL W b t cs) (o:Obj):BoxL (W.alloc o) b t cs:=h.keep (qzB.alloc qzL _)
theorem BoxL.other {W:World} {b:Nat} {t:TypeId} {cs:List Value} (h:BoxL W b t cs) (a:Addr) (v:Value) (hne:b≠a.block):BoxL (W.setCell a v) b t cs:=(zay W a v hne).trans h
theorem BoxL.cell {W:World} {b:Nat} {t:TypeId} {cs:List Value} (h:BoxL W b t cs) (i:Nat) {v:Value} (hv:cs[i]?=some v):W.cell? ⟨b,i,none⟩=some v:=by
 unfold World.cell?
 simp only[show W.heap[b]?=_ from h]
 simpa using hv
theorem BoxL.free {W:World} {b:Nat} {t:TypeId} {cs:List Value} (h:BoxL W b t cs) (i:Nat):W.frozen? ⟨b,i,none⟩=false:=by
 unfold World.frozen?
 simp[show W.heap[b]?=_ from h]
theorem BoxL.set {W:World} {b:Nat} {t:TypeId} {cs:List Value} (h:BoxL W b t cs) (i:Nat) (v:Value):BoxL (W.setCell ⟨b,i,none⟩ v) b t (cs.set i v):=by
 simp only[BoxL,World.setCell,Array.getElem?_modify,↓reduceIte]
 rw[show W.heap[b]?=_ from h]
 simp
theorem Below.one (W:World) (o:Obj):Below W.heap.size W (W.alloc o):=qzB.alloc qzL _
end
section
open Go.RowKit Go.Shelf
attribute [local go_sem] Oper.semAt_some
end
section
open Go.RowKit
theorem zcm:(prog.info? 26).map (fun i=>(i.zero,i.size,i.bytes))=some (some (.agg #[.int .i64 0,.int .i64 0,.int .i64 0,.string ⟨#[]⟩,.slice none 0 0]),5,64):=by kernel_rfl
def CellsD (w:World) (B:Nat):List Dat->List Value->Prop
 | [],xs=>xs=[]
 | x::l,xs=>∃c0 c1 c2 c3 c4 r,xs=c0::c1::c2::c3::c4::r∧RepD w B x (.agg #[c0,c1,c2,c3,c4])∧CellsD w B l r
theorem CellsD.length {w:World} {B:Nat}:∀{l:List Dat} {xs:List Value},CellsD w B l xs->xs.length=l.length*5
 | [],_,h=>by rw[CellsD] at h;rw[h];rfl
 | _::l,_,⟨_,_,_,_,_,r,he,_,hr⟩=>by rw[he];simp only[qzN,hr.length];omega
theorem CellsD.mono {w w':World} {B B':Nat} (hk:∀x v,RepD w B x v->RepD w' B' x v):∀{l:List Dat} {xs:List Value},CellsD w B l xs->CellsD w' B' l xs
 | [],_,h=>h
 | _::_,_,⟨c0,c1,c2,c3,c4,r,he,hx,hr⟩=>⟨c0,c1,c2,c3,c4,r,he,hk _ _ hx,hr.mono hk⟩
theorem CellsD.snoc {w:World} {B:Nat} {x:Dat} {c0 c1 c2 c3 c4:Value} (hx:RepD w B x (.agg #[c0,c1,c2,c3,c4])):∀{l:List Dat} {xs:List Value},CellsD w B l xs->CellsD w B (l++[x]) (xs++[c0,c1,c2,c3,c4])
 | [],_,h=>by rw[CellsD] at h;rw[h];exact ⟨c0,c1,c2,c3,c4,[],rfl,hx,rfl⟩
 | _::_,_,⟨a0,a1,a2,a3,a4,r,he,hy,hr⟩=>⟨a0,a1,a2,a3,a4,r++[c0,c1,c2,c3,c4],by rw[he];rfl,hy,hr.snoc hx⟩
theorem CellsD.repC {w:World} {B b:Nat}:∀{l:List Dat} {xs:List Value} {off:Nat},CellsD w B l xs->(∀j u,xs[j]?=some u->w.cell? ⟨b,off+j,none⟩=some u)->RepC w B l b off
 | [],_,_,_,_=>by rw[RepC];trivial
 | x::l,_,off,⟨c0,c1,c2,c3,c4,r,he,hx,hr⟩,hc=>by
  subst he
  rw[RepC]
  refine ⟨⟨c0,c1,c2,c3,c4,hc 0 _ rfl,hc 1 _ rfl,hc 2 _ rfl,hc 3 _ rfl,hc 4 _ rfl,hx⟩,hr.repC fun j u hj=>?_⟩
  have:=hc (j+5) u (by simpa using hj)
  rw[show off+5+j=off+(j+5) by omega];exact this
theorem zbS {w:World} {base B:Nat} {v:Value} {l:List Dat} {xs:List Value} (hown:w.ownsRow base 26 5 v l.length xs) (hc:CellsD w B l xs) (hB:B<=w.heap.size):RepS w w.heap.size l v:=by
 rcases hown.2 with ⟨hv,h0⟩ | ⟨g,cap,cur,hv,hb,hg,hle,hm,hsz,htk⟩
 ·have:l=[]:=List.eq_nil_of_length_eq_zero h0
  subst this
  exact ⟨none,0,0,hv,rfl,by omega,by omega,rfl,rfl⟩
 ·have hlt:=(Array.getElem?_eq_some_iff.1 hg).1
  refine ⟨some ⟨g,0,none⟩,l.length,cap,hv,rfl,hle,by unfold maxLen at hm;omega,fun _=>⟨rfl,hlt⟩,?_⟩
  refine (hc.mono (fun x v h=>h.wider hB)).repC fun j u hj=>?_
  rw[<-htk] at hj
  rw[List.getElem?_take] at hj
  split at hj
  ·unfold World.cell?
   rw[hg,Nat.zero_add]
   simpa using hj
  ·cases hj
theorem zkz (w:World) (a0 a1 a2 a3 a4:Value) (t:TypeId):∀(j:Nat) (u:Value),[a0,a1,a2,a3,a4][j]?=some u->(w.alloc (.cells #[a0,a1,a2,a3,a4] t)).cell? ((⟨w.heap.size,0,none⟩:Addr).add j)=some u:=by
 intro j u hj
 have e:(⟨w.heap.size,0,none⟩:Addr).add j=⟨w.heap.size,j,none⟩:=by unfold Addr.add;split<;>simp_all
 rw[e]
 exact zbM w _ t j (by simpa using hj)
theorem CellsD.oneCell {w:World} {B:Nat}:∀{l:List Dat} {xs:List Value},CellsD w B l xs->∀u∈xs,u.oneCell'=true
 | [],_,h,u,hu=>by rw[CellsD] at h;rw[h] at hu;cases hu
 | x::l,_,⟨c0,c1,c2,c3,c4,r,he,hx,hr⟩,u,hu=>by
  obtain ⟨k,n,d,s,o,len,cap,hv⟩:=zae hx
  simp only[Value.agg.injEq,Array.mk.injEq,List.cons.injEq,and_true] at hv
  obtain ⟨rfl,rfl,rfl,rfl,rfl⟩:=hv
  subst he
  simp only[List.mem_cons] at hu
  rcases hu with rfl | rfl | rfl | rfl | rfl | hu
  ·rfl
  ·rfl
  ·rfl
  ·rfl
  ·rfl
  ·exact hr.oneCell u hu
end
section
open Go.RowKit
theorem zfZ (b:UInt8) (h:Dat.nameByte b=true):Dat.strByte b=true:=by
 have h0:∀n,n<256->Dat.nameByte (UInt8.ofNat n)=true->Dat.strByte (UInt8.ofNat n)=true:=by decide +kernel
 have:=h0 b.toNat (UInt8.toNat_lt b)
 rw[UInt8.ofNat_toNat] at this
 exact this h
theorem zkY {s:List UInt8} (h:Dat.name s=true):s.all Dat.strByte=true:=by
 unfold Dat.name at h
 simp only[Bool.and_eq_true] at h
 exact List.all_eq_true.2 fun b hb=>zfZ b (List.all_eq_true.1 h.2.2.1 b hb)
theorem zbG (k n d:Int) (s:List UInt8) (len:Nat):Dat.head k n d s len=true ↔
  (0<=k∧k<=7)∧(k=0->Num.right n d=true)∧(k≠0->d=0)∧(k=1->n=0∨n=1)∧(k≠0->k≠1->n=0)∧(k=2->Dat.name s=true)∧(k≠2->k≠3->s=[])∧s.all Dat.strByte=true∧(k=6->len=2)∧(k≠6->k≠7->len=0):=by
 unfold Dat.head
 by_cases k0:k=0
 ·subst k0
  simp only[if_true,Bool.and_eq_true,List.isEmpty_iff,decide_eq_true_eq]
  constructor
  ·rintro ⟨h1,h2,h3⟩
   subst h2
   exact ⟨by omega,fun _=>h1,fun h=>absurd rfl h,fun h=>by omega,fun h=>absurd rfl h,fun h=>by omega,fun _ _=>rfl,rfl,fun h=>by omega,fun _ _=>h3⟩
  ·rintro ⟨_,h1,_,_,_,_,h2,_,_,h3⟩
   exact ⟨h1 trivial,h2 (by omega) (by omega),h3 (by omega) (by omega)⟩
 rw[if_neg k0]
 by_cases k1:k=1
 ·subst k1
  simp only[if_true,Bool.and_eq_true,List.isEmpty_iff,decide_eq_true_eq]
  constructor
  ·rintro ⟨h1,h2,h3,h4⟩
   subst h3
   exact ⟨by omega,fun h=>by omega,fun _=>h1,fun _=>h2,fun _ h=>absurd rfl h,fun h=>by omega,fun _ _=>rfl,rfl,fun h=>by omega,fun _ _=>h4⟩
  ·rintro ⟨_,_,h1,h2,_,_,h3,_,_,h4⟩
   exact ⟨h1 k0,h2 trivial,h3 (by omega) (by omega),h4 (by omega) (by omega)⟩
 rw[if_neg k1]
 by_cases k2:k=2
 ·subst k2
  simp only[if_true,Bool.and_eq_true,decide_eq_true_eq]
  constructor
  ·rintro ⟨h1,h2,h3,h4⟩
   exact ⟨by omega,fun h=>by omega,fun _=>h1,fun h=>by omega,fun _ _=>h2,fun _=>h3,fun h=>absurd rfl h,zkY h3,fun h=>by omega,fun _ _=>h4⟩
  ·rintro ⟨_,_,h1,_,h2,h3,_,_,_,h4⟩
   exact ⟨h1 k0,h2 k0 k1,h3 trivial,h4 (by omega) (by omega)⟩
 rw[if_neg k2]
 by_cases k3:k=3
 ·subst k3
  simp only[if_true,Bool.and_eq_true,decide_eq_true_eq]
  constructor
  ·rintro ⟨h1,h2,h3,h4⟩
   exact ⟨by omega,fun h=>by omega,fun _=>h1,fun h=>by omega,fun _ _=>h2,fun h=>by omega,fun _ h=>absurd rfl h,h3,fun h=>by omega,fun _ _=>h4⟩
  ·rintro ⟨_,_,h1,_,h2,_,_,h3,_,h4⟩
   exact ⟨h1 k0,h2 k0 k1,h3,h4 (by omega) (by omega)⟩
 rw[if_neg k3]
 by_cases k45:k=4∨k=5
 ·rw[if_pos k45]
  simp only[Bool.and_eq_true,List.isEmpty_iff,decide_eq_true_eq]
  constructor
  ·rintro ⟨h1,h2,h3,h4⟩
   subst h3
   exact ⟨by omega,fun h=>absurd h k0,fun _=>h1,fun h=>absurd h k1,fun _ _=>h2,fun h=>absurd h k2,fun _ _=>rfl,rfl,fun h=>by omega,fun _ _=>h4⟩
  ·rintro ⟨_,_,h1,_,h2,_,h3,_,_,h4⟩
   exact ⟨h1 k0,h2 k0 k1,h3 k2 k3,h4 (by omega) (by omega)⟩
 rw[if_neg k45]
 by_cases k6:k=6
 ·subst k6
  simp only[if_true,Bool.and_eq_true,List.isEmpty_iff,decide_eq_true_eq]
  constructor
  ·rintro ⟨h1,h2,h3,h4⟩
   subst h3
   exact ⟨by omega,fun h=>absurd h k0,fun _=>h1,fun h=>absurd h k1,fun _ _=>h2,fun h=>absurd h k2,fun _ _=>rfl,rfl,fun _=>h4,fun h=>absurd rfl h⟩
  ·rintro ⟨_,_,h1,_,h2,_,h3,_,h4,_⟩
   exact ⟨h1 k0,h2 k0 k1,h3 k2 k3,h4 trivial⟩
 rw[if_neg k6]
 by_cases k7:k=7
 ·subst k7
  simp only[if_true,Bool.and_eq_true,List.isEmpty_iff,decide_eq_true_eq]
  constructor
  ·rintro ⟨h1,h2,h3⟩
   subst h3
   exact ⟨by omega,fun h=>absurd h k0,fun _=>h1,fun h=>absurd h k1,fun _ _=>h2,fun h=>absurd h k2,fun _ _=>rfl,rfl,fun h=>by omega,fun _ h=>absurd rfl h⟩
  ·rintro ⟨_,_,h1,_,h2,_,h3,_,_,_⟩
   exact ⟨h1 k0,h2 k0 k1,h3 k2 k3⟩
 rw[if_neg k7]
 constructor
 ·intro h;cases h
 ·rintro ⟨h,_⟩;omega
end
section
open Go.RowKit
theorem ze3 {p:Dat->Bool} {l:List Dat} {j:Nat} {x:Dat} (hx:l[j]?=some x) (h:(l.take j).any p=false) (hp:p x=false):(l.take (j+1)).any p=false:=by
 rw[List.take_add_one,hx]
 simp[h,hp]
theorem zkl {p:Dat->Bool} {l:List Dat} {j:Nat} {x:Dat} (hx:l[j]?=some x) (hp:p x=true):l.any p=true:=
 List.any_eq_true.2 ⟨x,List.mem_of_getElem? hx,hp⟩
def IdxPost (b:Bool) (w:World) (e:Ending) (w':World):Prop:=∃r:Int,e=.returned (.int .i64 r)∧decide (0<=r)=b∧Below w.heap.size w w'
theorem zfv (F:FuncId) (caps:Array Value) (p:Dat->Bool) (l:List Dat) (o:Option Addr) (len cap:Nat) (B:Nat) (w:World) (hl:len=l.length) (hcap:len<=cap) (hmax:cap<=9223372036854775807)
  (hv:match o with | none=>l=[]∧cap=0 | some a=>(l≠[]->a.spot=none∧a.block<B)∧RepC w B l a.block a.off) (hB:B<=w.heap.size)
  (hF:∀(args:Array Value) (w:World),(callFunc F args).run prog w=.ok (.enter F args) w)
  (H:∀x∈l,∀v w',RepD w' B x v->Below w.heap.size w w'->Calls prog F (#[v]++caps) w' fun e w''=>e=.returned (.bool (p x))∧Below w'.heap.size w' w'') :
  Calls prog 43 #[.slice o len cap,.func (.func F) #[] caps] w (IdxPost (l.any p) w):=by
 obtain ⟨r,hr⟩:∃r,l.any p=r:=⟨_,rfl⟩
 rw[hr]
 have HR:=zh hr
 have HV:=zh hv
 have HL:=zh hl
 have HH:=zh H
 clear hr hv hl H
 go_enter func43,ntmps43
 go_wp2
 go_loopw [8] (fun i wr=>∃(j:Nat),i=.int .i64 j∧j<=len∧(l.take j).any p=false∧Below w.heap.size w wr) (fun i _=>len-(intOf i).toNat)
 case atStart=>exact ⟨0,rfl,by omega,rfl,qzB⟩
 case round=>
  obtain ⟨j,rfl,hj,hany,hb⟩:=hrel
  have HA:=zh hany
  clear hany
  by_cases hjl:j<len
  ·obtain ⟨x,hx⟩:∃x,l[j]?=some x:=⟨_,List.getElem?_eq_getElem (by rw[<-HL.out];exact hjl)⟩
   obtain ⟨b,off,k',n',d',s',l',o',len',cap',ho,hxe,e0,e1,e2,e3,e4,er⟩:=zat HV.out (hb.mono hB) hx
   subst ho hxe
   have HC:=zh (HH.out _ (List.mem_of_getElem? hx) _ wr er hb)
   have HX:=zh hx
   clear hx er
   cases hp:p (.mk k' n' d' s' l') with
   | true=>
    rw[hp] at HC
    have HT:=zh (zkl HX.out hp)
    clear hp
    go_wp2_with (first | ((with_reducible refine HC.out.mono ?_);rintro e' w1 ⟨rfl,hb1⟩))
    go_ret
    exact ⟨j,rfl,by rw[<-HR.out,HT.out];simp,Below.next hb hb1⟩
   | false=>
    rw[hp] at HC
    have HT:=zh (ze3 HX.out HA.out hp)
    clear hp
    go_wp2_with (first | ((with_reducible refine HC.out.mono ?_);rintro e' w1 ⟨rfl,hb1⟩))
    go_roundw
    case rel=>exact ⟨j+1,by go_num,by omega,HT.out,Below.next hb hb1⟩
    case measure=>simp[intOf];omega
  ·have HF:=zh (show l.any p=false by rw[<-HA.out,List.take_of_length_le (by rw[<-HL.out];omega)])
   go_wp2
   go_ret
   exact ⟨-1,rfl,by rw[<-HR.out,HF.out];rfl,hb⟩
theorem zdt (F:FuncId) (caps:Array Value) (p:Dat->Bool) (r:Bool) (l:List Dat) (o:Option Addr) (len cap:Nat) (B:Nat) (w:World) (hl:len=l.length) (hcap:len<=cap) (hmax:cap<=9223372036854775807)
  (hv:match o with | none=>l=[]∧cap=0 | some a=>(l≠[]->a.spot=none∧a.block<B)∧RepC w B l a.block a.off) (hB:B<=w.heap.size)
  (hF:∀(args:Array Value) (w:World),(callFunc F args).run prog w=.ok (.enter F args) w)
  (H:∀x∈l,∀v w',RepD w' B x v->Below w.heap.size w w'->Calls prog F (#[v]++caps) w' fun e w''=>e=.returned (.bool (p x))∧Below w'.heap.size w' w'') (hr:l.any p=r) :
  Calls prog 24 #[.slice o len cap,.func (.func F) #[] caps] w fun e w'=>e=.returned (.bool r)∧Below w.heap.size w w':=by
 have HI:=zh (zfv F caps p l o len cap B w hl hcap hmax hv hB hF H)
 rw[hr] at HI
 clear hr hv hl H hF
 go_enter func24,ntmps24
 go_wp2_with (first | (go_at_call 43;refine HI.out.mono ?_;rintro e' w1 ⟨q,rfl,hq,hb⟩))
 subst hq
 go_ret
 exact ⟨by simp,hb⟩
theorem zbg (F:FuncId) (caps:Array Value) (p:Dat->Bool) (r:Bool) (l:List Dat) (sl:Value) (B:Nat) (w:World) (hv:RepS w B l sl) (hB:B<=w.heap.size)
  (hF:∀(args:Array Value) (w:World),(callFunc F args).run prog w=.ok (.enter F args) w)
  (H:∀x∈l,∀v w',RepD w' B x v->Below w.heap.size w w'->Calls prog F (#[v]++caps) w' fun e w''=>e=.returned (.bool (p x))∧Below w'.heap.size w' w'') (hr:l.any p=r) :
  Calls prog 24 #[sl,.func (.func F) #[] caps] w fun e w'=>e=.returned (.bool r)∧Below w.heap.size w w':=by
 obtain ⟨o,len,cap,rfl,hl,hcap,hmax,hv⟩:=hv
 exact zdt F caps p r l o len cap B w hl hcap hmax hv hB hF H hr
end
section
open Go.RowKit
theorem zd9 (w:World) (A:Obj):(w.alloc A).heap.size=w.heap.size+1:=by simp
theorem zjS (w:World) (A:Obj) (cs:Array Value) (t:TypeId) (i:Nat) {v:Value} (h:cs[i]?=some v):((w.alloc A).alloc (.cells cs t)).cell? ⟨w.heap.size+1,i,none⟩=some v:=by
 have:=zbM (w.alloc A) cs t i h
 rw[zd9] at this
 exact this
end
section
open Go.RowKit
theorem zlb (k n d:Int) (s:ByteArray) (o:Option Addr) (len cap:Nat) (hn:-9223372036854775808<=n∧n<=9223372036854775807) (hd:-9223372036854775808<=d∧d<=9223372036854775807) (hs:s.size<=140737488351232) :
  ∃(k' n' d':Int) (s':ByteArray) (o':Option Addr) (len' cap':Nat) (b:Bool),(∀w,Calls prog 45 #[.agg #[.int .i64 k,.int .i64 n,.int .i64 d,.string s,.slice o len cap]] w fun e w'=>e=.returned (.tuple #[.agg #[.int .i64 k',.int .i64 n',.int .i64 d',.string s',.slice o' len' cap'],.bool b])∧Below w.heap.size w w') ∧
   Dat.head k n d s.data.toList len=(b&&(decide (n'=n)&&(decide (d'=d)&&(decide (s'=s)&&decide (len'=len))))):=by
 have hz:∀m:Int,decide (0=m)=decide (m=0):=fun m=>by rw[Bool.eq_iff_iff];simp only[decide_eq_true_eq];exact eq_comm
 have hzl:∀m:Nat,decide (0=m)=decide (m=0):=fun m=>by rw[Bool.eq_iff_iff];simp only[decide_eq_true_eq];exact eq_comm
 have he:decide ((⟨#[]⟩:ByteArray)=s)=s.data.toList.isEmpty:=by
  rw[Bool.eq_iff_iff]
  simp only[decide_eq_true_eq,List.isEmpty_iff]
  constructor
  ·rintro rfl;rfl
  ·intro h;apply ByteArray.ext;apply Array.ext';rw[h]
 by_cases k0:k=0
 ·subst k0
  exact ⟨_,_,_,_,_,_,_,_,fun w=>zlS n d s o len cap hn.1 hn.2 hd.1 hd.2 w,by rw[Dat.head,if_pos rfl,he,hzl];simp⟩
 by_cases k1:k=1
 ·subst k1
  have hh:Dat.head 1 n d s.data.toList len=(decide (n=0∨n=1)&&(decide (n=n)&&(decide (0=d)&&(decide ((⟨#[]⟩:ByteArray)=s)&&decide (0=len))))):=by
   rw[Dat.head,if_neg (by omega),if_pos rfl,he,hzl,hz];simp only[decide_true,Bool.true_and];rw[<-Bool.and_assoc,Bool.and_comm (decide (d=0)),Bool.and_assoc]
  by_cases n0:n=0
  ·exact ⟨_,_,_,_,_,_,_,_,fun w=>zls n d s o len cap (by simp[n0]) w,by rw[hh,decide_eq_true (Or.inl n0)]⟩
  by_cases n1:n=1
  ·exact ⟨_,_,_,_,_,_,_,_,fun w=>zlB n d s o len cap (by simp[n0]) (by simp[n1]) w,by rw[hh,decide_eq_true (Or.inr n1)]⟩
  ·exact ⟨_,_,_,_,_,_,_,_,fun w=>zlC n d s o len cap (by simp[n0]) (by simp[n1]) w,by rw[hh,decide_eq_false (by omega:¬(n=0∨n=1))]⟩
 have flip:∀a b c e:Bool,(a&&(b&&(c&&e)))=(c&&(b&&(a&&(true&&e)))):=by decide
 by_cases k2:k=2
 ·subst k2
  exact ⟨_,_,_,_,_,_,_,_,fun w=>zlO n d s o len cap hs w,by rw[Dat.head,if_neg (by omega),if_neg (by omega),if_pos rfl,hz,hz,hzl,decide_eq_true (rfl:s=s)];exact flip _ _ _ _⟩
 by_cases k3:k=3
 ·subst k3
  exact ⟨_,_,_,_,_,_,_,_,fun w=>zlQ n d s o len cap hs w,by rw[Dat.head,if_neg (by omega),if_neg (by omega),if_neg (by omega),if_pos rfl,hz,hz,hzl,decide_eq_true (rfl:s=s)];exact flip _ _ _ _⟩
 have flip2:∀a b c e:Bool,(a&&(b&&(c&&e)))=(true&&(b&&(a&&(c&&e)))):=by decide
 by_cases k4:k=4
 ·subst k4
  exact ⟨_,_,_,_,_,_,_,_,fun w=>zlL n d s o len cap w,by rw[Dat.head,if_neg (by omega),if_neg (by omega),if_neg (by omega),if_neg (by omega),if_pos (by omega),hz,hz,hzl,he];exact flip2 _ _ _ _⟩
 by_cases k5:k=5
 ·subst k5
  exact ⟨_,_,_,_,_,_,_,_,fun w=>zlP n d s o len cap w,by rw[Dat.head,if_neg (by omega),if_neg (by omega),if_neg (by omega),if_neg (by omega),if_pos (by omega),hz,hz,hzl,he];exact flip2 _ _ _ _⟩
 have flip3:∀a b c e:Bool,(a&&(b&&(c&&e)))=(e&&(b&&(a&&(c&&true)))):=by decide
 by_cases k6:k=6
 ·subst k6
  have hh:Dat.head 6 n d s.data.toList len=(decide (len=2)&&(decide (0=n)&&(decide (0=d)&&(decide ((⟨#[]⟩:ByteArray)=s)&&decide (len=len))))):=by
   rw[Dat.head,if_neg (by omega),if_neg (by omega),if_neg (by omega),if_neg (by omega),if_neg (by omega),if_pos rfl,hz,hz,he,decide_eq_true (rfl:len=len)];exact flip3 _ _ _ _
  by_cases l2:len=2
  ·subst l2
   exact ⟨_,_,_,_,_,_,_,_,fun w=>zlu n d s o cap w,by rw[hh];rfl⟩
  ·exact ⟨_,_,_,_,_,_,_,_,fun w=>zlD n d s o len cap (by simp;omega) w,by rw[hh,decide_eq_false l2]⟩
 have flip4:∀a b c:Bool,(a&&(b&&c))=(true&&(b&&(a&&(c&&true)))):=by decide
 by_cases k7:k=7
 ·subst k7
  exact ⟨_,_,_,_,_,_,_,_,fun w=>zlR n d s o len cap w,by rw[Dat.head,if_neg (by omega),if_neg (by omega),if_neg (by omega),if_neg (by omega),if_neg (by omega),if_neg (by omega),if_pos rfl,hz,hz,he,decide_eq_true (rfl:len=len)];exact flip4 _ _ _⟩
 ·exact ⟨_,_,_,_,_,_,_,_,fun w=>zlM k n d s o len cap (by omega) w,by rw[Dat.head,if_neg k0,if_neg k1,if_neg k2,if_neg k3,if_neg (by omega),if_neg k6,if_neg k7];rfl⟩
theorem zir (l:List Dat) (deep:Nat):Dat.rightL l deep = !(l.any fun x=>!Dat.right x deep):=by
 induction l with
 | nil=>rfl
 | cons x l ih=>rw[Dat.rightL,ih,List.any_cons];cases Dat.right x deep<;>simp
theorem zgM (_x:Dat) (v:Value) (deep c pb:Nat) (w:World) (r:Bool) (hfn:w.cell? ⟨c,0,none⟩=some (.func (.func 44) #[] #[.pointer (some ⟨c,0,none⟩)])) (hpb:w.cell? ⟨pb,0,none⟩=some (.int .i64 deep)) (hdeep:deep<=200) (hc:c<w.heap.size) (hp:pb<w.heap.size)
  (hv:∃(k n d:Int) (s:ByteArray) (o:Option Addr) (len cap:Nat),v=.agg #[.int .i64 k,.int .i64 n,.int .i64 d,.string s,.slice o len cap])
  (H:∀w',Below w.heap.size w w'->Calls prog 44 #[v,.int .i64 (deep+1:Nat),.pointer (some ⟨c,0,none⟩)] w' fun e w''=>e=.returned (.bool r)∧Below w'.heap.size w' w'') :
  Calls prog 46 #[v,.pointer (some ⟨c,0,none⟩),.pointer (some ⟨pb,0,none⟩)] w fun e w'=>e=.returned (.bool !r)∧Below w.heap.size w w':=by
 obtain ⟨k,n,d,s,o,len,cap,rfl⟩:=hv
 have HW:∀X,Below w.heap.size w (w.alloc X):=fun X=>qzB.alloc qzL _
 have HWH:=zh HW
 have HH:=zh H
 have hcn:¬c=w.heap.size:=by omega
 have hpn:¬pb=w.heap.size:=by omega
 clear HW H
 go_enter func46,ntmps46
 go_wp2_with (first | (go_at_call 44;refine (HH.out _ (HWH.out _)).mono ?_;rintro e' w1 ⟨rfl,hb⟩))
 go_ret
 exact ⟨rfl,(HWH.out _).trans (hb.mono (by simp))⟩
end
section
open Go.RowKit
theorem zgJ (l:List Dat) (deep c pb B:Nat) (sl:Value) (W:World) (r:Bool) (hr:Dat.rightL l (deep+1)=r) (hv:RepS W B l sl) (hB:B<=W.heap.size) (hc:c<W.heap.size) (hp:pb<W.heap.size) (hfn:W.cell? ⟨c,0,none⟩=some (.func (.func 44) #[] #[.pointer (some ⟨c,0,none⟩)])) (hpb:W.cell? ⟨pb,0,none⟩=some (.int .i64 deep)) (hdeep:deep<=200)
  (IH:∀x∈l,∀(v:Value) (deep c:Nat) (di:Int) (B:Nat) (w:World),di=deep->RepD w B x v->B<=w.heap.size->c<w.heap.size->w.cell? ⟨c,0,none⟩=some (.func (.func 44) #[] #[.pointer (some ⟨c,0,none⟩)])->deep<=201 ->
   Calls prog 44 #[v,.int .i64 di,.pointer (some ⟨c,0,none⟩)] w fun e w'=>e=.returned (.bool (Dat.right x deep))∧Below w.heap.size w w') :
  Calls prog 24 #[sl,.func (.func 46) #[] #[.pointer (some ⟨c,0,none⟩),.pointer (some ⟨pb,0,none⟩)]] W fun e w'=>e=.returned (.bool !r)∧Below W.heap.size W w':=by
 refine zbg 46 #[.pointer (some ⟨c,0,none⟩),.pointer (some ⟨pb,0,none⟩)] (fun x=>!Dat.right x (deep+1)) (!r) l sl B W hv hB (fun _ _=>by kernel_rfl) ?_ (by rw[<-hr,zir,Bool.not_not])
 intro x hx v w' hxv hb
 have hs:=hb.size
 refine zgM x v deep c pb w' (Dat.right x (deep+1)) ((hb.cell (p:=⟨c,0,none⟩) hc).trans hfn) ((hb.cell (p:=⟨pb,0,none⟩) hp).trans hpb) hdeep (by omega) (by omega) (zae hxv) ?_
 intro w'' hb2
 have hs2:=hb2.size
 exact IH x hx v (deep+1) c _ B w'' rfl (hxv.kept (hb2.mono (by omega))) (by omega) (by omega) ((hb2.cell (p:=⟨c,0,none⟩) (by show c<_;omega)).trans ((hb.cell (p:=⟨c,0,none⟩) hc).trans hfn)) (by omega)
theorem zkM {deep:Nat} {n n' d d':Int} {s s':ByteArray} {len len':Nat} {b q r:Bool} (h:(decide (deep<=200)&&((b&&(decide (n'=n)&&(decide (d'=d)&&(decide (s'=s)&&decide (len'=len)))))&&q))=r)
  (hno:¬b=true∨200<(deep:Int)∨¬n'=n∨¬d'=d∨¬s'.toList=s.toList∨((len':Int) != (len:Int))=true):false=r:=by
 rw[<-h]
 by_cases h1:deep<=200∧b=true∧n'=n∧d'=d∧s'=s∧len'=len
 ·obtain ⟨a,rfl,rfl,rfl,rfl,rfl⟩:=h1
  rcases hno with h | h | h | h | h | h
  ·exact absurd rfl h
  ·omega
  ·exact absurd rfl h
  ·exact absurd rfl h
  ·exact absurd rfl h
  ·simp at h
 ·symm
  rw[Bool.and_eq_false_iff]
  apply Decidable.byContradiction
  intro h2
  apply h1
  simp only[not_or,Bool.not_eq_false,Bool.and_eq_true,decide_eq_true_eq] at h2
  obtain ⟨a,⟨b,c,d,e,f⟩,_⟩:=h2
  exact ⟨a,b,c,d,e,f⟩
theorem zjm {deep:Nat} {n n' d d':Int} {s s':ByteArray} {len len':Nat} {b q r:Bool} (h:(decide (deep<=200)&&((b&&(decide (n'=n)&&(decide (d'=d)&&(decide (s'=s)&&decide (len'=len)))))&&q))=r)
  (h0:b=true) (h1:(deep:Int)<=200) (h2:n'=n) (h3:d'=d) (h4:s'.toList=s.toList) (h5:((len':Int) != (len:Int))=false):q=r:=by
 have e:s'=s:=by
  apply ByteArray.ext;apply Array.ext'
  rw[<-ByteArray.toList_eq,<-ByteArray.toList_eq];exact h4
 have e2:len'=len:=by have:=h5;simp at this;omega
 rw[<-h,decide_eq_true (by omega:deep<=200),h0,decide_eq_true h2,decide_eq_true h3,decide_eq_true e,decide_eq_true e2];rfl
theorem zic:∀(x:Dat) (v:Value) (deep c:Nat) (di:Int) (B:Nat) (w:World),di=deep->RepD w B x v->B<=w.heap.size->c<w.heap.size->w.cell? ⟨c,0,none⟩=some (.func (.func 44) #[] #[.pointer (some ⟨c,0,none⟩)])->deep<=201 ->
    Calls prog 44 #[v,.int .i64 di,.pointer (some ⟨c,0,none⟩)] w fun e w'=>e=.returned (.bool (Dat.right x deep))∧Below w.heap.size w w':=by
  intro x
  induction x using Dat.ind with
  | h k n d s l ih=>
    intro v deep c di B w hdi hv hB hc hfn hdeep
    subst hdi
    obtain ⟨sl,rfl,bk,bn,bd,bs,o,len,cap,rfl,jk,hcap,hmax,hc0⟩:=hv.open
    obtain ⟨k',n',d',s',o',len',cap',b,hbare,hhead⟩:=zlb k n d s o len cap bn bd bs
    obtain ⟨r,hr⟩:∃r,Dat.right (.mk k n d s l) deep=r:=⟨_,rfl⟩
    rw[hr]
    rw[Dat.right,<-jk,hhead] at hr
    have IH:=zh ih
    have HV:=zh hc0
    have HL:=zh jk
    have HB:=zh hbare
    have HR:=zh hr
    clear ih hv hc0 jk hbare hhead hr
    have hcn:¬c=w.heap.size:=by omega
    go_enter func44,ntmps44
    go_wp2_with (first | (go_at_call 45;refine (HB.out _).mono ?_;rintro e' w1 ⟨rfl,hb⟩;have hz:=zk7 hb;have z0:w.heap.size<w1.heap.size:=(by omega);have z1:w.heap.size+1<w1.heap.size:=(by omega);have z2:c<w1.heap.size:=(by omega);obtain ⟨q0,q1,q2,q3,q4⟩:=zkt hb;have q5:=zkk hb;have q6:=((zef hb).cell (p:=⟨c,0,none⟩) hc).trans hfn;have HB1:=zh hb;clear hb))
    all_goals try
      (go_ret
       refine ⟨zar (zkM HR.out ?_),(zef HB1.out).alloc (by omega) _⟩
       first
       | exact .inl ‹_›
       | exact .inr (.inr (.inr (.inr (.inl ‹_›))))
       | exact .inr (.inr (.inr (.inl ‹_›)))
       | exact .inr (.inr (.inl ‹_›))
       | exact .inr (.inl ‹_›)
       | (rcases ‹200<(deep:Int)∨_› with h | h
          · exact .inr (.inl h)
          · exact .inr (.inr (.inr (.inr (.inr h))))))
    have HQ:=zh (zjm HR.out (by assumption) (by assumption) (by assumption) (by assumption) (by assumption) (‹_∧((len':Int) != (len:Int))=false›).2)
    have hd0:deep<=200:=by have:=‹(deep:Int)<=200›;omega
    have HS:RepS w B l (.slice o len cap):=⟨o,len,cap,rfl,HL.out,hcap,hmax,HV.out⟩
    have HS1:=zh HS
    clear HS
    have HK:=zh (zef HB1.out)
    refine (zgJ l deep c (w.heap.size+1) B _ _ r HQ.out (HS1.out.kept ((HK.out.alloc (by omega) _).mono hB)) ?_ ?_ ?_ ?_ ?_ hd0 IH.out).mono ?_
    · simp;omega
    · simp;omega
    · simp;omega
    · rw[World.cell?_alloc_past _ _ _ z2];exact q6
    · rw[World.cell?_alloc_past _ _ _ z1];exact q5
    rintro e2 w2 ⟨rfl,hb2⟩
    go_wp2
    go_ret
    exact ⟨by simp,(HK.out.alloc (by omega) _).trans (hb2.mono (by simp;omega))⟩
theorem zcl (x:Dat) (v:Value) (B:Nat) (w:World) (hv:RepD w B x v) (hB:B<=w.heap.size) :
  Calls prog 26 #[v] w fun e w'=>e=.returned (.bool (Dat.right x 0))∧Below w.heap.size w w':=by
 obtain ⟨k,n,d,s,l⟩:=x
 obtain ⟨sl,rfl,_,_,_,_,o,len,cap,rfl,hx⟩:=hv.open
 clear hx
 have HV:=zh hv
 clear hv
 have HW:=zh (fun X Y=>((Below.refl w.heap.size w).alloc qzL X).alloc (by simp) Y)
 obtain ⟨y,hy⟩:∃y,Dat.right (.mk k n d s l) 0=y:=⟨_,rfl⟩
 rw[hy]
 have HY:=zh hy
 clear hy
 go_enter func26,ntmps26
 go_wp2_with fail
 refine (zic (.mk k n d s l) _ 0 (w.heap.size+1) 0 B _ rfl (HV.out.kept ((HW.out _ _).mono hB)) ?_ ?_ (zjS _ _ _ _ 0 rfl) (by omega)).mono ?_
 ·simp;omega
 ·simp
 rw[HY.out]
 rintro e' w1 ⟨rfl,hb1⟩
 go_wp2
 go_ret
 exact ⟨rfl,(HW.out _ _).trans (hb1.mono (by simp;omega))⟩
end
end Go.Proofs.YtnbjhmafnigefaaGreatDoor
