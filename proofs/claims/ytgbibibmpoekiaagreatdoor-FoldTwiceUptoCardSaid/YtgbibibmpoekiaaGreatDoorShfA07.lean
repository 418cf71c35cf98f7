/-
  What the proofs lean on: Opens, ListUp, Bare.
-/
import Derived.Test.YtgbibibmpoekiaaGreatDoorRows
import Derived.WalkKit
import Derived.ProofKit
import Derived.OpenShut
import Derived.Carry
import Derived.Deep.Draws
import Derived.Deep.DeepHandedRow
import Derived.Deep.DeepWitnessRowRef
import Derived.LaidMore
import Derived.LaidHandle
import Derived.MakeChecks
import Derived.Stop.LaidErr
import Derived.Stop.Joined
import Derived.SevenTiedAt
import Derived.Deep.Slices
import Derived.SizedLaws
import Derived.Lib.ItoaLen
import Derived.RangeFuncNested
import Derived.RangeFuncBound
import Derived.RangeFuncCalls
import Derived.RangeFuncLeaves
import Derived.Shelf.Abstract
import Derived.Shelf.RegionOpen
import Derived.OwnWalkIn
import Derived.TacticsInMore
import Derived.LoopNIn
import Derived.LoopIn
import Derived.RegionTactic
import Derived.ChangeAlike
import Derived.BigRegion
import Derived.Test.YtgbibibmpoekiaaGreatDoorShfA01
import Derived.Test.YtgbibibmpoekiaaGreatDoorShfA04
import Derived.Test.YtgbibibmpoekiaaGreatDoorShfA06
set_option maxRecDepth 100000
set_option maxHeartbeats 16000000
namespace Go.Proofs.YtgbibibmpoekiaaGreatDoor
section
open Go.ChangeShapes Go.WideShapes Go.ChangeAt Go.RowKit
theorem own:ownKnob Tryz.prog.godebug=none:=by kernel_rfl
theorem laid:laidOutB Tryz.prog=true:=by kernel_rfl
section
variable {H : Type} {enc : TypeId × Value → H} {P : Program}
theorem trodAll_below (hl:laidOutB P=true) {W W':World} (hb:Below W.heap.size W W') :
  ∀(ts:List TypeId) (vs:List Value) (ds:List (DataW H)) (ps:List MemPlace),(∀t∈ts,P.readableRec t=true∧t<P.types.size) →
   DataW.TrodAll enc P W 0 (fun _=>true) true ts vs ds ps→(∀x∈ps,x.block<W.heap.size) →
   DataW.TrodAll enc P W' 0 (fun b=>decide (b<W.heap.size)) true ts vs ds ps
 | [],[],[],_,_,h,_=>h
 | t::ts,v::vs,d::ds,ps,hts,h,hlt=>by
  obtain ⟨p,q,h1,h2,rfl⟩:=h
  refine ⟨p,q,Below.trod hl (hts t (by simp)).1 (hts t (by simp)).2 h1 hb (fun x hx=>hlt x (by simp[hx])),?_,rfl⟩
  exact trodAll_below hl hb ts vs ds q (fun t ht=>hts t (by simp[ht])) h2 (fun x hx=>hlt x (by simp[hx]))
 | [],[],_::_,_,_,h,_=>h.elim
 | [],_::_,_,_,_,h,_=>h.elim
 | _::_,[],_,_,_,h,_=>h.elim
 | _::_,_::_,[],_,_,h,_=>h.elim
theorem law_post {f:Func} {s:ChangeSpec} {W W':World} {args:Array Value} {ds gs:List (DataW H)} {before:List MemPlace} {tb:TypeId}
  (hW:DataW.Whole enc P f.params.toList s.vars false W args.toList ds gs before) (hv:s.vars=[]) (hb:Below W.heap.size W W') (hl:laidOutB P=true)
  (hts0:(f.params.toList.all fun t=>P.readableRec t&&decide (t<P.types.size))=true) (hres:f.resultTypes=#[tb]) (htb:P.underlying tb=some .bool)
  (hfn:s.fn H (ds++gs) = { results:=[.lit (.bool true)],args:=ds }):s.post enc P f false true false false W args (.bool true) W':=by
 have hts:∀t∈f.params.toList,P.readableRec t=true∧t<P.types.size:=fun t ht=>by
  have:=List.all_eq_true.1 hts0 t ht
  simpa using this
 have hW':=hW
 obtain ⟨p,q,hA,hV,rfl,hfz,hnd⟩:=hW
 rw[hv] at hV
 have hq:gs=[]∧q=[]:=by
  cases gs with
  | nil=>exact ⟨rfl,hV⟩
  | cons g gs=>exact hV.elim
 obtain ⟨rfl,rfl⟩:=hq
 refine ⟨ds,[],p++[],[],p,[],hW',?_,?_,?_,hb.frame _,fun h=>by cases h⟩
 ·rw[hfn,hres]
  exact ⟨[],[],⟨1,by simp[Value.cells,DataW.trod,htb]⟩,rfl,rfl⟩
 ·rw[hfn]
  exact trodAll_below hl hb _ _ _ _ hts hA (fun x hx=>hW'.lt x (by simp[hx]))
 ·rw[hfn,hv]
  exact rfl
theorem bd_i64 {n:Int} (h:(Lit.int .i64 n).wf=true):-9223372036854775808≤n∧n≤9223372036854775807:=bounds_i64 h
end
end
section
open Go.ChangeShapes Go.WideShapes Go.ChangeAt Go.RowKit
noncomputable def laidWorld (os:Os):World:=
 { World.doorLaid Tryz.prog 400 os with heap:=(World.doorLaid Tryz.prog 400 os).heap.modify 0 fun
   | .cells _ t frozen=>.cells (Go.Pinned.utf8FirstZ.map fun z:Nat=>Value.int .u8 (z:Int)).toArray t frozen
   | o=>o }
theorem env_of_head {W : World} {rest : List (String × DataW Unit)} (h : laidMet Tryz.prog (("internal/strconv.uint64pow10", Rows.laid_internal_strconv_uint64pow10) :: rest) W) : Env W := by
 have e:(Rows.laid_internal_strconv_uint64pow10:DataW Unit)=Lib.tabData .u64 Lib.pow10Tab:=by kernel_rfl
 rw[e] at h
 exact Lib.tabIs_of_head (g:=3) (t:=208) (e:=151) (n:=20) (by kernel_rfl) (by kernel_rfl) Tryz.underlying208 Tryz.underlying151 (by kernel_rfl) (by kernel_rfl) h
end
section
open Go.RowKit Go.Deep
section
variable {H : Type} {enc : TypeId × Value → H}
theorem cells_datum:Tryz.prog.cellsOf 45=5:=by kernel_rfl
theorem cells_int:Tryz.prog.cellsOf 3=1:=by kernel_rfl
theorem cells_string:Tryz.prog.cellsOf 9=1:=by kernel_rfl
theorem cells_data:Tryz.prog.cellsOf 22=1:=by kernel_rfl
theorem bytes_datum:Tryz.prog.bytesOf 45=64:=by kernel_rfl
theorem weightsAll_mem {P:Program} {e:TypeId}:∀{l:List (DataW H)} {d:DataW H},d∈l→∀n∈d.weights P e,n∈DataW.weightsAll P e l
 | d'::r,d,hd,n,hn=>by
  simp only[DataW.weightsAll,List.mem_append]
  rcases List.mem_cons.1 hd with rfl | h
  ·exact Or.inl hn
  ·exact Or.inr (weightsAll_mem h n hn)
theorem weightsEach_mem {P:Program}:∀{ts:List TypeId} {l:List (DataW H)} (i:Nat) {t:TypeId} {d:DataW H},ts[i]?=some t→l[i]?=some d→∀n∈d.weights P t,n∈DataW.weightsEach P ts l
 | t'::ts,d'::r,0,t,d,ht,hd,n,hn=>by
  simp only[List.getElem?_cons_zero,Option.some.injEq] at ht hd
  subst ht;subst hd
  simp only[DataW.weightsEach,List.mem_append];exact Or.inl hn
 | t'::ts,d'::r,i+1,t,d,ht,hd,n,hn=>by
  simp only[DataW.weightsEach,List.mem_append]
  exact Or.inr (weightsEach_mem i (by simpa using ht) (by simpa using hd) n hn)
 | [],_,i,t,d,ht,_,_,_=>by simp at ht
 | _::_,[],i,t,d,_,hd,_,_=>by simp at hd
theorem repC_build {w:World} {B b:Nat}:∀(len off:Nat),(∀i,i<len→∃x c0 c1 c2 c3 c4,w.cell? ⟨b,off+i*5,none⟩=some c0∧w.cell? ⟨b,off+i*5+1,none⟩=some c1∧w.cell? ⟨b,off+i*5+2,none⟩=some c2∧w.cell? ⟨b,off+i*5+3,none⟩=some c3∧w.cell? ⟨b,off+i*5+4,none⟩=some c4∧RepD w B x (.agg #[c0,c1,c2,c3,c4])) →
  ∃l:List Dat,l.length=len∧RepC w B l b off
 | 0,off,_=>⟨[],rfl,by rw[RepC];trivial⟩
 | len+1,off,h=>by
  obtain ⟨x,c0,c1,c2,c3,c4,h0,h1,h2,h3,h4,h5⟩:=h 0 (by omega)
  obtain ⟨l,hl,hr⟩:=repC_build len (off+5) (fun i hi=>by
   have:=h (i+1) (by omega)
   have e:off+(i+1)*5=off+5+i*5:=by omega
   rw[e] at this;exact this)
  refine ⟨x::l,by simp[hl],?_⟩
  rw[RepC]
  simp only[Nat.zero_mul,Nat.add_zero] at h0 h1 h2 h3 h4
  exact ⟨⟨c0,c1,c2,c3,c4,h0,h1,h2,h3,h4,h5⟩,hr⟩
theorem add_none {a:Addr} (h:a.spot=none) (n:Nat):a.add n=⟨a.block,a.off+n,none⟩:=by
 obtain ⟨b,o,sp⟩:=a
 simp only at h
 subst h
 unfold Addr.add
 split
 ·rename_i h0;subst h0;rfl
 ·rfl
theorem cell_spot {w:World} {a:Addr} {v:Value} (h:w.cell? a=some v):a.spot=none∧a.block<w.heap.size:=by
 unfold World.cell? at h
 split at h
 ·rename_i he
  split at h
  ·cases h
  ·rename_i hs
   refine ⟨by simpa using hs,?_⟩
   exact (Array.getElem?_eq_some_iff.1 he).1
 ·cases h
theorem rep_of_trod {w:World}:∀(fuel:Nat) (cs:List Value) (y:DataW H × List MemPlace),DataW.trod enc Tryz.prog w 0 (fun _=>true) true fuel 45 cs=some y →
  (∀n∈y.1.weights Tryz.prog 45,n≤reachBytes)→∃x,RepD w w.heap.size x (.agg cs.toArray):=by
 intro fuel
 induction fuel using Nat.strongRecOn with
 | ind fuel ih=>
  intro cs y h hw
  obtain ⟨xs,n,rfl,rfl,hlen,hxs,hget⟩:=DataW.trod_struct Tryz.underlying45 h
  rw[cells_datum] at hlen
  match cs,hlen with
  | [c0,c1,c2,c3,c4],_=>
   have g0:DataW.trod enc Tryz.prog w 0 (fun _=>true) true n 3 (([c0,c1,c2,c3,c4].drop 0).take (Tryz.prog.cellsOf 3))=xs[0]?:=hget 0 _ rfl
   have g1:DataW.trod enc Tryz.prog w 0 (fun _=>true) true n 3 (([c0,c1,c2,c3,c4].drop 1).take (Tryz.prog.cellsOf 3))=xs[1]?:=hget 1 _ rfl
   have g2:DataW.trod enc Tryz.prog w 0 (fun _=>true) true n 3 (([c0,c1,c2,c3,c4].drop 2).take (Tryz.prog.cellsOf 3))=xs[2]?:=hget 2 _ rfl
   have g3:DataW.trod enc Tryz.prog w 0 (fun _=>true) true n 9 (([c0,c1,c2,c3,c4].drop 3).take (Tryz.prog.cellsOf 9))=xs[3]?:=hget 3 _ rfl
   have g4:DataW.trod enc Tryz.prog w 0 (fun _=>true) true n 22 (([c0,c1,c2,c3,c4].drop 4).take (Tryz.prog.cellsOf 22))=xs[4]?:=hget 4 _ rfl
   rw[cells_int] at g0 g1 g2
   rw[cells_string] at g3
   rw[cells_data] at g4
   have hx5:xs.length=5:=hxs
   match xs,hx5 with
   | [x0,x1,x2,x3,x4],_=>
    obtain ⟨k,e0,_,w0⟩:=DataW.trod_int Tryz.underlying3 (show _=some x0 from g0)
    obtain ⟨m,e1,_,w1⟩:=DataW.trod_int Tryz.underlying3 (show _=some x1 from g1)
    obtain ⟨d,e2,_,w2⟩:=DataW.trod_int Tryz.underlying3 (show _=some x2 from g2)
    obtain ⟨s,e3,hx3,_⟩:=DataW.trod_string Tryz.underlying9 (show _=some x3 from g3)
    have f0:c0=.int .i64 k:=by simpa using e0
    have f1:c1=.int .i64 m:=by simpa using e1
    have f2:c2=.int .i64 d:=by simpa using e2
    have f3:c3=.string s:=by simpa using e3
    subst f0 f1 f2 f3 hx3
    have we:∀(i:Nat) (t:TypeId) (z:DataW H),[3,3,3,9,22][i]?=some t→[x0.1,x1.1,x2.1,DataW.lit (Lit.string s.data.toList),x4.1][i]?=some z→∀n∈z.weights Tryz.prog t,n≤reachBytes:=by
     intro i t z ht hz q hq
     refine hw q ?_
     show q∈DataW.weights Tryz.prog 45 (.agg _)
     simp only[DataW.weights,Tryz.underlying45]
     exact weightsEach_mem i ht hz q hq
    have hs:s.size≤140737488351232:=we 3 9 _ rfl rfl s.data.toList.length (by simp[DataW.weights])
    have w4:=we 4 22 _ rfl rfl
    rcases DataW.trod_slice Tryz.underlying22 (show _=some x4 from g4) with ⟨e4,_⟩ | ⟨a,len,cap,elems,rest,n',rfl,e4,hx4,_,hle,_,hel,hget4,hsp,_⟩
    ·have f4:c4=.slice none 0 0:=by simpa using e4
     subst f4
     exact ⟨.mk k m d s [],RepD.shut (bounds_i64 w0) (bounds_i64 w1) (bounds_i64 w2) hs ⟨none,0,0,rfl,rfl,by omega,by omega,rfl,rfl⟩⟩
    ·have f4:c4=.slice (some a) len cap:=by simpa using e4
     subst f4 hx4
     have hrest:=(hsp rfl).1
     have hcap:cap≤9223372036854775807:=by
      have:=w4 ((elems.length+rest.length)*64) (by simp[DataW.weights,Tryz.underlying22,bytes_datum])
      have h9:(elems.length+rest.length)*64≤140737488351232:=this
      omega
     by_cases h0:len=0
     ·subst h0
      exact ⟨.mk k m d s [],RepD.shut (bounds_i64 w0) (bounds_i64 w1) (bounds_i64 w2) hs ⟨some a,0,cap,rfl,rfl,by omega,hcap,fun h=>absurd rfl h,by rw[RepC];trivial⟩⟩
     have hat:∀i (hi:i<len),∃cs',w.cells? 0 (a.add (i*5)) 5=some cs'∧DataW.trod enc Tryz.prog w 0 (fun _=>true) true n' 45 cs'=some (elems[i]'(by omega)):=by
      intro i hi
      have hb:=hget4 i hi
      rw[cells_datum,List.getElem?_eq_getElem (by omega)] at hb
      exact Option.bind_eq_some_iff.1 hb
     obtain ⟨hspot,hblk⟩:a.spot=none∧a.block<w.heap.size:=by
      obtain ⟨cs',hc1,_⟩:=hat 0 (by omega)
      obtain ⟨_,hl5,hcs⟩:=World.cells?_some hc1
      have h00:=hcs 0 (by omega)
      rw[List.getElem?_eq_getElem (by omega)] at h00
      have:=cell_spot h00
      simpa[Addr.add] using this
     have hcell:∀i,i<len→∃x c0 c1 c2 c3 c4,w.cell? ⟨a.block,a.off+i*5,none⟩=some c0∧w.cell? ⟨a.block,a.off+i*5+1,none⟩=some c1∧w.cell? ⟨a.block,a.off+i*5+2,none⟩=some c2∧w.cell? ⟨a.block,a.off+i*5+3,none⟩=some c3∧w.cell? ⟨a.block,a.off+i*5+4,none⟩=some c4∧RepD w w.heap.size x (.agg #[c0,c1,c2,c3,c4]):=by
      intro i hi
      obtain ⟨cs',hc1,hc2⟩:=hat i hi
      obtain ⟨_,hl5,hcs⟩:=World.cells?_some hc1
      rw[add_none hspot] at hcs
      have hcs2:∀j,j<5→w.cell? ⟨a.block,a.off+i*5+j,none⟩=cs'[j]?:=by
       intro j hj
       have:=hcs j hj
       rw[add_none rfl] at this
       exact this
      match cs',hl5 with
      | [a0,a1,a2,a3,a4],_=>
       obtain ⟨x,hx⟩:=ih n' (by omega) _ _ hc2 (fun q hq=>w4 q (by
        simp only[DataW.weights,Tryz.underlying22,List.mem_cons,List.mem_append]
        refine Or.inr (Or.inl (weightsAll_mem (d:=(elems[i]'(by omega)).1) ?_ q hq))
        exact List.mem_map_of_mem (List.getElem_mem _)))
       exact ⟨x,a0,a1,a2,a3,a4,hcs2 0 (by omega),hcs2 1 (by omega),hcs2 2 (by omega),hcs2 3 (by omega),hcs2 4 (by omega),hx⟩
     obtain ⟨l,hl,hr⟩:=repC_build len a.off hcell
     exact ⟨.mk k m d s l,RepD.shut (bounds_i64 w0) (bounds_i64 w1) (bounds_i64 w2) hs ⟨some a,len,cap,rfl,hl.symm,hle,hcap,fun _=>⟨hspot,hblk⟩,hr⟩⟩
end
end
section
open Go.RowKit Go.Deep Go.ChangeShapes Go.WideShapes Go.ChangeAt
section
variable {H : Type} {enc : TypeId × Value → H}
theorem weights_at {ts:List TypeId} {l:List (DataW H)} (h:(DataW.weightsEach Tryz.prog ts l).all (·≤reachBytes)=true) (i:Nat) {t:TypeId} {d:DataW H} (ht:ts[i]?=some t) (hd:l[i]?=some d):∀n∈d.weights Tryz.prog t,n≤reachBytes:=fun n hn=>by
 have:=List.all_eq_true.1 h n (weightsEach_mem i ht hd n hn)
 simpa using this
end
end
section
open Go.RowKit Go.Deep Go.ChangeShapes Go.WideShapes Go.ChangeAt
namespace Dat
mutual
def bulk:Dat→Nat
 | mk _ _ _ s l=>s.size+1+bulkL l
def bulkL:List Dat→Nat
 | []=>0
 | x::l=>bulk x+bulkL l
end
theorem num_text_len (n d:Int):(Num.text n d).length≤43:=by
 unfold Num.text
 split
 ·rename_i h
  obtain ⟨h1,h2,h3,h4,_⟩:=(Num.right_iff n d).1 h
  have l1:=Lib.itoa_length_le n (by omega) (by omega)
  have l2:=Lib.itoa_length_le d (by omega) (by omega)
  split<;>simp<;>omega
 ·simp
mutual
theorem text_len:∀(x:Dat) (tl:Bool),(text x tl).length+1≤50*bulk x
 | mk k n d s l,tl=>by
  have hP:=textP_len l
  have hA:=textA_len k n d s l
  rw[text,bulk]
  split
  ·split<;>simp<;>omega
  ·split
   ·split
    ·simp only[List.length_nil];omega
    ·simp only[List.length_cons,List.length_append,List.length_nil];omega
   ·omega
theorem textA_len:∀(k n d:Int) (s:ByteArray) (l:List Dat),(textA k n d s l).length+4≤50*(s.size+1+bulkL l)
 | k,n,d,s,l=>by
  have hV:=textV_len l true
  have hN:=num_text_len n d
  have hs:s.data.toList.length=s.size:=rfl
  rw[textA]
  repeat' split
  all_goals (try simp only[List.length_cons,List.length_append,List.length_nil])
  all_goals omega
theorem textP_len:∀(l:List Dat),(textP l).length≤50*bulkL l
 | [a,b]=>by
  have h1:=text_len a false
  have h2:=text_len b true
  rw[textP]
  simp only[List.length_append,bulkL]
  omega
 | []=>by rw[textP]<;>simp
 | [a]=>by rw[textP]<;>simp
 | a::b::c::l=>by rw[textP]<;>simp
theorem textV_len:∀(l:List Dat) (f:Bool),(textV l f).length≤50*bulkL l
 | [],_=>by rw[textV];simp
 | x::l,f=>by
  have h1:=text_len x false
  have h2:=textV_len l false
  rw[textV,bulkL]
  cases f<;>simp<;>omega
end
end Dat
section
variable {H : Type} {enc : TypeId × Value → H}
theorem bulk_le {x0 x1 x2 x4:DataW H} {k n d:Int} {s:ByteArray} {l:List Dat} (h:Dat.bulkL l≤Rows.uptoBulk x4):Dat.bulk (.mk k n d s l)≤Rows.uptoBulk (DataW.agg [x0,x1,x2,.lit (.string s.data.toList),x4]):=by
 have hs:s.data.toList.length=s.size:=rfl
 simp only[Dat.bulk,Rows.uptoBulk,Rows.uptoBulkAll]
 omega
theorem repC_buildB {w:World} {B b:Nat}:∀(es:List (DataW H)) (off:Nat),(∀i (hi:i<es.length),∃x c0 c1 c2 c3 c4,w.cell? ⟨b,off+i*5,none⟩=some c0∧w.cell? ⟨b,off+i*5+1,none⟩=some c1∧w.cell? ⟨b,off+i*5+2,none⟩=some c2∧w.cell? ⟨b,off+i*5+3,none⟩=some c3∧w.cell? ⟨b,off+i*5+4,none⟩=some c4∧RepD w B x (.agg #[c0,c1,c2,c3,c4])∧Dat.bulk x≤Rows.uptoBulk es[i]) →
  ∃l:List Dat,l.length=es.length∧RepC w B l b off∧Dat.bulkL l≤Rows.uptoBulkAll es
 | [],off,_=>⟨[],rfl,by rw[RepC];trivial,Nat.le_refl _⟩
 | e::es,off,h=>by
  obtain ⟨x,c0,c1,c2,c3,c4,h0,h1,h2,h3,h4,h5,h6⟩:=h 0 (by simp)
  obtain ⟨l,hl,hr,hb⟩:=repC_buildB es (off+5) (fun i hi=>by
   have:=h (i+1) (by simpa using hi)
   have e:off+(i+1)*5=off+5+i*5:=by omega
   rw[e] at this;simpa using this)
  refine ⟨x::l,by simp[hl],?_,?_⟩
  ·rw[RepC]
   simp only[Nat.zero_mul,Nat.add_zero] at h0 h1 h2 h3 h4
   exact ⟨⟨c0,c1,c2,c3,c4,h0,h1,h2,h3,h4,h5⟩,hr⟩
  ·simp only[Dat.bulkL,Rows.uptoBulkAll]
   have:Dat.bulk x≤Rows.uptoBulk e:=by simpa using h6
   omega
theorem rep_of_trodB {w:World}:∀(fuel:Nat) (cs:List Value) (y:DataW H × List MemPlace),DataW.trod enc Tryz.prog w 0 (fun _=>true) true fuel 45 cs=some y →
  (∀n∈y.1.weights Tryz.prog 45,n≤reachBytes)→∃x,RepD w w.heap.size x (.agg cs.toArray)∧Dat.bulk x≤Rows.uptoBulk y.1:=by
 intro fuel
 induction fuel using Nat.strongRecOn with
 | ind fuel ih=>
  intro cs y h hw
  obtain ⟨xs,n,rfl,rfl,hlen,hxs,hget⟩:=DataW.trod_struct Tryz.underlying45 h
  rw[cells_datum] at hlen
  match cs,hlen with
  | [c0,c1,c2,c3,c4],_=>
   have g0:DataW.trod enc Tryz.prog w 0 (fun _=>true) true n 3 (([c0,c1,c2,c3,c4].drop 0).take (Tryz.prog.cellsOf 3))=xs[0]?:=hget 0 _ rfl
   have g1:DataW.trod enc Tryz.prog w 0 (fun _=>true) true n 3 (([c0,c1,c2,c3,c4].drop 1).take (Tryz.prog.cellsOf 3))=xs[1]?:=hget 1 _ rfl
   have g2:DataW.trod enc Tryz.prog w 0 (fun _=>true) true n 3 (([c0,c1,c2,c3,c4].drop 2).take (Tryz.prog.cellsOf 3))=xs[2]?:=hget 2 _ rfl
   have g3:DataW.trod enc Tryz.prog w 0 (fun _=>true) true n 9 (([c0,c1,c2,c3,c4].drop 3).take (Tryz.prog.cellsOf 9))=xs[3]?:=hget 3 _ rfl
   have g4:DataW.trod enc Tryz.prog w 0 (fun _=>true) true n 22 (([c0,c1,c2,c3,c4].drop 4).take (Tryz.prog.cellsOf 22))=xs[4]?:=hget 4 _ rfl
   rw[cells_int] at g0 g1 g2
   rw[cells_string] at g3
   rw[cells_data] at g4
   have hx5:xs.length=5:=hxs
   match xs,hx5 with
   | [x0,x1,x2,x3,x4],_=>
    obtain ⟨k,e0,_,w0⟩:=DataW.trod_int Tryz.underlying3 (show _=some x0 from g0)
    obtain ⟨m,e1,_,w1⟩:=DataW.trod_int Tryz.underlying3 (show _=some x1 from g1)
    obtain ⟨d,e2,_,w2⟩:=DataW.trod_int Tryz.underlying3 (show _=some x2 from g2)
    obtain ⟨s,e3,hx3,_⟩:=DataW.trod_string Tryz.underlying9 (show _=some x3 from g3)
    have f0:c0=.int .i64 k:=by simpa using e0
    have f1:c1=.int .i64 m:=by simpa using e1
    have f2:c2=.int .i64 d:=by simpa using e2
    have f3:c3=.string s:=by simpa using e3
    subst f0 f1 f2 f3 hx3
    have we:∀(i:Nat) (t:TypeId) (z:DataW H),[3,3,3,9,22][i]?=some t→[x0.1,x1.1,x2.1,DataW.lit (Lit.string s.data.toList),x4.1][i]?=some z→∀n∈z.weights Tryz.prog t,n≤reachBytes:=by
     intro i t z ht hz q hq
     refine hw q ?_
     show q∈DataW.weights Tryz.prog 45 (.agg _)
     simp only[DataW.weights,Tryz.underlying45]
     exact weightsEach_mem i ht hz q hq
    have hs:s.size≤140737488351232:=we 3 9 _ rfl rfl s.data.toList.length (by simp[DataW.weights])
    have w4:=we 4 22 _ rfl rfl
    rcases DataW.trod_slice Tryz.underlying22 (show _=some x4 from g4) with ⟨e4,_⟩ | ⟨a,len,cap,elems,rest,n',rfl,e4,hx4,_,hle,_,hel,hget4,hsp,_⟩
    ·have f4:c4=.slice none 0 0:=by simpa using e4
     subst f4
     exact ⟨.mk k m d s [],RepD.shut (bounds_i64 w0) (bounds_i64 w1) (bounds_i64 w2) hs ⟨none,0,0,rfl,rfl,by omega,by omega,rfl,rfl⟩,bulk_le (Nat.zero_le _)⟩
    ·have f4:c4=.slice (some a) len cap:=by simpa using e4
     subst f4 hx4
     have hrest:=(hsp rfl).1
     have hcap:cap≤9223372036854775807:=by
      have:=w4 ((elems.length+rest.length)*64) (by simp[DataW.weights,Tryz.underlying22,bytes_datum])
      have h9:(elems.length+rest.length)*64≤140737488351232:=this
      omega
     by_cases h0:len=0
     ·subst h0
      exact ⟨.mk k m d s [],RepD.shut (bounds_i64 w0) (bounds_i64 w1) (bounds_i64 w2) hs ⟨some a,0,cap,rfl,rfl,by omega,hcap,fun h=>absurd rfl h,by rw[RepC];trivial⟩,bulk_le (Nat.zero_le _)⟩
     have hat:∀i (hi:i<len),∃cs',w.cells? 0 (a.add (i*5)) 5=some cs'∧DataW.trod enc Tryz.prog w 0 (fun _=>true) true n' 45 cs'=some (elems[i]'(by omega)):=by
      intro i hi
      have hb:=hget4 i hi
      rw[cells_datum,List.getElem?_eq_getElem (by omega)] at hb
      exact Option.bind_eq_some_iff.1 hb
     obtain ⟨hspot,hblk⟩:a.spot=none∧a.block<w.heap.size:=by
      obtain ⟨cs',hc1,_⟩:=hat 0 (by omega)
      obtain ⟨_,hl5,hcs⟩:=World.cells?_some hc1
      have h00:=hcs 0 (by omega)
      rw[List.getElem?_eq_getElem (by omega)] at h00
      have:=cell_spot h00
      simpa[Addr.add] using this
     have hcell:∀i (hi:i<(elems.map Prod.fst).length),∃x c0 c1 c2 c3 c4,w.cell? ⟨a.block,a.off+i*5,none⟩=some c0∧w.cell? ⟨a.block,a.off+i*5+1,none⟩=some c1∧w.cell? ⟨a.block,a.off+i*5+2,none⟩=some c2∧w.cell? ⟨a.block,a.off+i*5+3,none⟩=some c3∧w.cell? ⟨a.block,a.off+i*5+4,none⟩=some c4∧RepD w w.heap.size x (.agg #[c0,c1,c2,c3,c4])∧Dat.bulk x≤Rows.uptoBulk (elems.map Prod.fst)[i]:=by
      intro i hi'
      have hi:i<len:=by simpa[hel] using hi'
      obtain ⟨cs',hc1,hc2⟩:=hat i hi
      obtain ⟨_,hl5,hcs⟩:=World.cells?_some hc1
      rw[add_none hspot] at hcs
      have hcs2:∀j,j<5→w.cell? ⟨a.block,a.off+i*5+j,none⟩=cs'[j]?:=by
       intro j hj
       have:=hcs j hj
       rw[add_none rfl] at this
       exact this
      match cs',hl5 with
      | [a0,a1,a2,a3,a4],_=>
       obtain ⟨x,hx,hxb⟩:=ih n' (by omega) _ _ hc2 (fun q hq=>w4 q (by
        simp only[DataW.weights,Tryz.underlying22,List.mem_cons,List.mem_append]
        refine Or.inr (Or.inl (weightsAll_mem (d:=(elems[i]'(by omega)).1) ?_ q hq))
        exact List.mem_map_of_mem (List.getElem_mem _)))
       exact ⟨x,a0,a1,a2,a3,a4,hcs2 0 (by omega),hcs2 1 (by omega),hcs2 2 (by omega),hcs2 3 (by omega),hcs2 4 (by omega),hx,by simpa using hxb⟩
     obtain ⟨l,hl,hr,hlb⟩:=repC_buildB (elems.map Prod.fst) a.off hcell
     exact ⟨.mk k m d s l,RepD.shut (bounds_i64 w0) (bounds_i64 w1) (bounds_i64 w2) hs ⟨some a,len,cap,rfl,by rw[hl];simp[hel],hle,hcap,fun _=>⟨hspot,hblk⟩,hr⟩,bulk_le (Nat.le_trans hlb (by show Rows.uptoBulkAll (elems.map fun x=>x.1)≤_;simp only[Rows.uptoBulk];omega))⟩
end
theorem bulk_bound {H:Type} {l:List (DataW H)} (hk:Rows.uptoSmall H l=true):Rows.uptoBulkAll l≤1048576:=of_decide_eq_true hk
end
section
open Go.RowKit Go.Shelf
attribute [local go_sem] Oper.semAt_some
end
section
open Go.RowKit Go.Shelf
attribute [local go_sem] Oper.semAt_some
def Box5 (W:World) (B:Nat) (t:TypeId) (c0 c1 c2 c3 c4:Value):Prop:=W.heap[B]?=some (.cells #[c0,c1,c2,c3,c4] t (0,0))
section
variable {W W' : World} {B : Nat} {t : TypeId} {c0 c1 c2 c3 c4 : Value}
theorem Box5.lt (h:Box5 W B t c0 c1 c2 c3 c4):B<W.heap.size:=(Array.getElem?_eq_some_iff.1 h).1
theorem Box5.cells (h:Box5 W B t c0 c1 c2 c3 c4):W.cell? ⟨B,0,none⟩=some c0∧W.cell? ⟨B,1,none⟩=some c1∧W.cell? ⟨B,2,none⟩=some c2∧W.cell? ⟨B,3,none⟩=some c3∧W.cell? ⟨B,4,none⟩=some c4:=by
 have h':W.heap[B]?=_:=h
 refine ⟨?_,?_,?_,?_,?_⟩<;>simp[World.cell?,h']
theorem Box5.free (h:Box5 W B t c0 c1 c2 c3 c4):W.frozen? ⟨B,0,none⟩=false∧W.frozen? ⟨B,1,none⟩=false∧W.frozen? ⟨B,2,none⟩=false∧W.frozen? ⟨B,3,none⟩=false∧W.frozen? ⟨B,4,none⟩=false:=by
 have h':W.heap[B]?=_:=h
 refine ⟨?_,?_,?_,?_,?_⟩<;>simp[World.frozen?,h']
theorem Box5.new (W:World) (t:TypeId) (c0 c1 c2 c3 c4:Value):Box5 (W.alloc (.cells #[c0,c1,c2,c3,c4] t)) W.heap.size t c0 c1 c2 c3 c4:=World.alloc_heap_new W _
theorem Box5.kept {row:Option Nat} (h:Box5 W B t c0 c1 c2 c3 c4) (hg:W.grownBy W' row) (hne:some B≠row):Box5 W' B t c0 c1 c2 c3 c4:=(hg.block B h.lt hne).trans h
theorem Box5.alloc (h:Box5 W B t c0 c1 c2 c3 c4) (o:Obj):Box5 (W.alloc o) B t c0 c1 c2 c3 c4:=h.kept (World.grownBy_alloc W o none) (by simp)
theorem setCell_heap_other (W:World) (a:Addr) (v:Value) {k:Nat} (h:k≠a.block):(W.setCell a v).heap[k]?=W.heap[k]?:=Below.heap_setCell W a v k h
theorem Box5.set (h:Box5 W B t c0 c1 c2 c3 c4) (d0 d1 d2 d3 d4:Value) :
  Box5 (((((W.setCell ⟨B,0,none⟩ d0).setCell ⟨B,1,none⟩ d1).setCell ⟨B,2,none⟩ d2).setCell ⟨B,3,none⟩ d3).setCell ⟨B,4,none⟩ d4) B t d0 d1 d2 d3 d4:=by
 obtain ⟨hlt,hk⟩:=Array.getElem?_eq_some_iff.1 h
 simp only[Box5,World.setCell,Array.getElem?_modify,↓reduceIte]
 rw[show W.heap[B]?=_ from h]
 rfl
end
abbrev set5 (W:World) (B:Nat) (d0 d1 d2 d3 d4:Value):World:=((((W.setCell ⟨B,0,none⟩ d0).setCell ⟨B,1,none⟩ d1).setCell ⟨B,2,none⟩ d2).setCell ⟨B,3,none⟩ d3).setCell ⟨B,4,none⟩ d4
theorem set5_below (W:World) (B H:Nat) (d0 d1 d2 d3 d4:Value) (h:H≤B):Below H W (set5 W B d0 d1 d2 d3 d4):=
 (((((Below.refl H W).setCell (p:=⟨B,0,none⟩) h _).setCell (p:=⟨B,1,none⟩) h _).setCell (p:=⟨B,2,none⟩) h _).setCell (p:=⟨B,3,none⟩) h _).setCell (p:=⟨B,4,none⟩) h _
theorem set5_heap (W:World) (B:Nat) (d0 d1 d2 d3 d4:Value) {c:Nat} (h:c≠B):(set5 W B d0 d1 d2 d3 d4).heap[c]?=W.heap[c]?:=by
 unfold set5
 rw[setCell_heap_other _ _ _ h,setCell_heap_other _ _ _ h,setCell_heap_other _ _ _ h,setCell_heap_other _ _ _ h,setCell_heap_other _ _ _ h]
theorem set5_size (W:World) (B:Nat) (d0 d1 d2 d3 d4:Value):(set5 W B d0 d1 d2 d3 d4).heap.size=W.heap.size:=by simp[set5]
end
section
open Go.RowKit
def isZero:Dat→Bool | .mk k n d _ _=>decide (k=0∧n=0∧d=0)
mutual
def nz:Dat→Bool | .mk _ _ _ _ l=>nzL l
def nzL:List Dat→Bool
 | []=>true
 | x::l=>!isZero x&&(nz x&&nzL l)
end
end
section
open Go.RowKit
theorem name_to (s:ByteArray) (r:Bool) (hr:Dat.name s.data.toList=r) (hs:s.size≤140737488351232) (w:World) :
  Calls Tryz.prog 109 #[.string s] w fun e w'=>e=.returned (.bool r)∧Below w.heap.size w w':=by
 rw[←hr];exact name_any s hs w
theorem strok_to (s:ByteArray) (r:Bool) (hr:s.data.toList.all Dat.strByte=r) (hs:s.size≤140737488351232) (w:World) :
  Calls Tryz.prog 110 #[.string s] w fun e w'=>e=.returned (.bool r)∧Below w.heap.size w w':=by
 rw[←hr];exact strok_any s hs w
theorem bare_0 (n d:Int) (s:ByteArray) (o:Option Addr) (len cap:Nat) (hn0:-9223372036854775808≤n) (hn1:n≤9223372036854775807) (hd0:-9223372036854775808≤d) (hd1:d≤9223372036854775807) (w:World) :
  Calls Tryz.prog 91 #[.agg #[.int .i64 0,.int .i64 n,.int .i64 d,.string s,.slice o len cap]] w fun e w'=>e=.returned (.tuple #[.agg #[.int .i64 0,.int .i64 n,.int .i64 d,.string ⟨#[]⟩,.slice none 0 0],.bool (Num.right n d)])∧Below w.heap.size w w':=by
 obtain ⟨r,hr⟩:∃r,Num.right n d=r:=⟨_,rfl⟩
 rw[hr]
 have HR:=Lib.hid hr
 clear hr
 go_enter Tryz.func91,Tryz.ntmps91
 go_wp2
 refine wp_region_quiet_class (Two w #[.int .i64 0,.int .i64 n,.int .i64 d,.string s,.slice o len cap] 45 #[.int .i64 0,.int .i64 0,.int .i64 0,.string ByteArray.empty,.slice none 0 0]) 10 (by kernel_rfl) (by kernel_rfl) Two.drew ?_
 intro T _ W HW HW2
 have e0:∀t,(W t).cell? ⟨w.heap.size,0,none⟩=some (.int .i64 0):=fun t=>(HW t).cell 0 rfl
 have e1:∀t,(W t).cell? ⟨w.heap.size,1,none⟩=some (.int .i64 n):=fun t=>(HW t).cell 1 rfl
 have e2:∀t,(W t).cell? ⟨w.heap.size,2,none⟩=some (.int .i64 d):=fun t=>(HW t).cell 2 rfl
 have e3:∀t,(W t).cell? ⟨w.heap.size,3,none⟩=some (.string s):=fun t=>(HW t).cell 3 rfl
 have e4:∀t,(W t).cell? ⟨w.heap.size,4,none⟩=some (.slice o len cap):=fun t=>(HW t).cell 4 rfl
 have HWH:=Lib.hid HW
 have HW2H:=Lib.hid HW2
 clear HW HW2
 simp only[List.take_succ_cons,List.take_zero,List.drop_succ_cons,List.drop_zero]
 repeat (go_big_quiet_step (first | (go_at_call 108;refine (right_to n d r HR.out hn0 hn1 hd0 hd1 _).mono ?_;rintro e1 w1 ⟨rfl,k,rfl⟩;exact ⟨rfl,HW2H.out _ ((HWH.out _).next (Below.selfN _ _))⟩)))
 refine wpQuiet_nil ?_
 intro t
 obtain ⟨q0,q1,q2,q3,q4,z0,z1,z2,z3,z4⟩:=(HWH.out t).five
 go_wp2
 refine bodyPost_ret (v:=.tuple #[.agg #[.int .i64 0,.int .i64 n,.int .i64 d,.string ⟨#[]⟩,.slice none 0 0],.bool r]) (by simp[results,Tryz.results91,go_sem,q0,q1,q2,q3,q4]) rfl ⟨rfl,?_⟩
 exact (HWH.out t).stored _ _ _ _ _
theorem bare_1a (n d:Int) (s:ByteArray) (o:Option Addr) (len cap:Nat) (h0:(n==0)=true) (w:World) :
  Calls Tryz.prog 91 #[.agg #[.int .i64 1,.int .i64 n,.int .i64 d,.string s,.slice o len cap]] w fun e w'=>e=.returned (.tuple #[.agg #[.int .i64 1,.int .i64 n,.int .i64 0,.string ⟨#[]⟩,.slice none 0 0],.bool (true)])∧Below w.heap.size w w':=by
 go_enter Tryz.func91,Tryz.ntmps91
 go_wp2
 go_region
 all_goals
  go_wp2
  refine bodyPost_ret (v:=.tuple #[.agg #[.int .i64 1,.int .i64 n,.int .i64 0,.string ⟨#[]⟩,.slice none 0 0],.bool true]) (by simp[results,Tryz.results91,go_sem]) rfl ⟨rfl,?_⟩
  exact (((Below.refl w.heap.size w).alloc (Nat.le_refl _) _).alloc (by simp) _).drew
theorem bare_1b (n d:Int) (s:ByteArray) (o:Option Addr) (len cap:Nat) (h0:(n==0)=false) (h1:(n==1)=true) (w:World) :
  Calls Tryz.prog 91 #[.agg #[.int .i64 1,.int .i64 n,.int .i64 d,.string s,.slice o len cap]] w fun e w'=>e=.returned (.tuple #[.agg #[.int .i64 1,.int .i64 n,.int .i64 0,.string ⟨#[]⟩,.slice none 0 0],.bool (true)])∧Below w.heap.size w w':=by
 go_enter Tryz.func91,Tryz.ntmps91
 go_wp2
 go_region
 all_goals
  go_wp2
  refine bodyPost_ret (v:=.tuple #[.agg #[.int .i64 1,.int .i64 n,.int .i64 0,.string ⟨#[]⟩,.slice none 0 0],.bool true]) (by simp[results,Tryz.results91,go_sem]) rfl ⟨rfl,?_⟩
  exact (((Below.refl w.heap.size w).alloc (Nat.le_refl _) _).alloc (by simp) _).drew
theorem bare_1c (n d:Int) (s:ByteArray) (o:Option Addr) (len cap:Nat) (h0:(n==0)=false) (h1:(n==1)=false) (w:World) :
  Calls Tryz.prog 91 #[.agg #[.int .i64 1,.int .i64 n,.int .i64 d,.string s,.slice o len cap]] w fun e w'=>e=.returned (.tuple #[.agg #[.int .i64 1,.int .i64 n,.int .i64 0,.string ⟨#[]⟩,.slice none 0 0],.bool (false)])∧Below w.heap.size w w':=by
 go_enter Tryz.func91,Tryz.ntmps91
 go_wp2
 go_region
 all_goals
  go_wp2
  refine bodyPost_ret (v:=.tuple #[.agg #[.int .i64 1,.int .i64 n,.int .i64 0,.string ⟨#[]⟩,.slice none 0 0],.bool false]) (by simp[results,Tryz.results91,go_sem]) rfl ⟨rfl,?_⟩
  exact (((Below.refl w.heap.size w).alloc (Nat.le_refl _) _).alloc (by simp) _).drew
theorem bare_2 (n d:Int) (s:ByteArray) (o:Option Addr) (len cap:Nat) (hs:s.size≤140737488351232) (w:World) :
  Calls Tryz.prog 91 #[.agg #[.int .i64 2,.int .i64 n,.int .i64 d,.string s,.slice o len cap]] w fun e w'=>e=.returned (.tuple #[.agg #[.int .i64 2,.int .i64 0,.int .i64 0,.string s,.slice none 0 0],.bool (Dat.name s.data.toList)])∧Below w.heap.size w w':=by
 obtain ⟨r,hr⟩:∃r,Dat.name s.data.toList=r:=⟨_,rfl⟩
 rw[hr]
 have HR:=Lib.hid hr
 clear hr
 go_enter Tryz.func91,Tryz.ntmps91
 go_wp2
 refine wp_region_quiet_class (Two w #[.int .i64 2,.int .i64 n,.int .i64 d,.string s,.slice o len cap] 45 #[.int .i64 0,.int .i64 0,.int .i64 0,.string ByteArray.empty,.slice none 0 0]) 8 (by kernel_rfl) (by kernel_rfl) Two.drew ?_
 intro T _ W HW HW2
 have e0:∀t,(W t).cell? ⟨w.heap.size,0,none⟩=some (.int .i64 2):=fun t=>(HW t).cell 0 rfl
 have e1:∀t,(W t).cell? ⟨w.heap.size,1,none⟩=some (.int .i64 n):=fun t=>(HW t).cell 1 rfl
 have e2:∀t,(W t).cell? ⟨w.heap.size,2,none⟩=some (.int .i64 d):=fun t=>(HW t).cell 2 rfl
 have e3:∀t,(W t).cell? ⟨w.heap.size,3,none⟩=some (.string s):=fun t=>(HW t).cell 3 rfl
 have e4:∀t,(W t).cell? ⟨w.heap.size,4,none⟩=some (.slice o len cap):=fun t=>(HW t).cell 4 rfl
 have HWH:=Lib.hid HW
 have HW2H:=Lib.hid HW2
 clear HW HW2
 simp only[List.take_succ_cons,List.take_zero,List.drop_succ_cons,List.drop_zero]
 repeat (go_big_quiet_step (first | (go_at_call 109;refine (name_to s r HR.out hs _).mono ?_;rintro e1 w1 ⟨rfl,hb⟩;exact ⟨rfl,HW2H.out _ ((HWH.out _).next hb)⟩)))
 refine wpQuiet_nil ?_
 intro t
 obtain ⟨q0,q1,q2,q3,q4,z0,z1,z2,z3,z4⟩:=(HWH.out t).five
 go_wp2
 refine bodyPost_ret (v:=.tuple #[.agg #[.int .i64 2,.int .i64 0,.int .i64 0,.string s,.slice none 0 0],.bool r]) (by simp[results,Tryz.results91,go_sem,q0,q1,q2,q3,q4]) rfl ⟨rfl,?_⟩
 exact (HWH.out t).stored _ _ _ _ _
theorem bare_3 (n d:Int) (s:ByteArray) (o:Option Addr) (len cap:Nat) (hs:s.size≤140737488351232) (w:World) :
  Calls Tryz.prog 91 #[.agg #[.int .i64 3,.int .i64 n,.int .i64 d,.string s,.slice o len cap]] w fun e w'=>e=.returned (.tuple #[.agg #[.int .i64 3,.int .i64 0,.int .i64 0,.string s,.slice none 0 0],.bool (s.data.toList.all Dat.strByte)])∧Below w.heap.size w w':=by
 obtain ⟨r,hr⟩:∃r,s.data.toList.all Dat.strByte=r:=⟨_,rfl⟩
 rw[hr]
 have HR:=Lib.hid hr
 clear hr
 go_enter Tryz.func91,Tryz.ntmps91
 go_wp2
 refine wp_region_quiet_class (Two w #[.int .i64 3,.int .i64 n,.int .i64 d,.string s,.slice o len cap] 45 #[.int .i64 0,.int .i64 0,.int .i64 0,.string ByteArray.empty,.slice none 0 0]) 8 (by kernel_rfl) (by kernel_rfl) Two.drew ?_
 intro T _ W HW HW2
 have e0:∀t,(W t).cell? ⟨w.heap.size,0,none⟩=some (.int .i64 3):=fun t=>(HW t).cell 0 rfl
 have e1:∀t,(W t).cell? ⟨w.heap.size,1,none⟩=some (.int .i64 n):=fun t=>(HW t).cell 1 rfl
 have e2:∀t,(W t).cell? ⟨w.heap.size,2,none⟩=some (.int .i64 d):=fun t=>(HW t).cell 2 rfl
 have e3:∀t,(W t).cell? ⟨w.heap.size,3,none⟩=some (.string s):=fun t=>(HW t).cell 3 rfl
 have e4:∀t,(W t).cell? ⟨w.heap.size,4,none⟩=some (.slice o len cap):=fun t=>(HW t).cell 4 rfl
 have HWH:=Lib.hid HW
 have HW2H:=Lib.hid HW2
 clear HW HW2
 simp only[List.take_succ_cons,List.take_zero,List.drop_succ_cons,List.drop_zero]
 repeat (go_big_quiet_step (first | (go_at_call 110;refine (strok_to s r HR.out hs _).mono ?_;rintro e1 w1 ⟨rfl,hb⟩;exact ⟨rfl,HW2H.out _ ((HWH.out _).next hb)⟩)))
 refine wpQuiet_nil ?_
 intro t
 obtain ⟨q0,q1,q2,q3,q4,z0,z1,z2,z3,z4⟩:=(HWH.out t).five
 go_wp2
 refine bodyPost_ret (v:=.tuple #[.agg #[.int .i64 3,.int .i64 0,.int .i64 0,.string s,.slice none 0 0],.bool r]) (by simp[results,Tryz.results91,go_sem,q0,q1,q2,q3,q4]) rfl ⟨rfl,?_⟩
 exact (HWH.out t).stored _ _ _ _ _
theorem bare_4 (n d:Int) (s:ByteArray) (o:Option Addr) (len cap:Nat)  (w:World) :
  Calls Tryz.prog 91 #[.agg #[.int .i64 4,.int .i64 n,.int .i64 d,.string s,.slice o len cap]] w fun e w'=>e=.returned (.tuple #[.agg #[.int .i64 4,.int .i64 0,.int .i64 0,.string ⟨#[]⟩,.slice none 0 0],.bool (true)])∧Below w.heap.size w w':=by
 go_enter Tryz.func91,Tryz.ntmps91
 go_wp2
 refine bodyPost_ret (v:=.tuple #[.agg #[.int .i64 4,.int .i64 0,.int .i64 0,.string ⟨#[]⟩,.slice none 0 0],.bool true]) (by simp[results,Tryz.results91,go_sem]) rfl ⟨rfl,?_⟩
 exact ((Below.refl w.heap.size w).alloc (Nat.le_refl _) _).alloc (by simp) _
theorem bare_5 (n d:Int) (s:ByteArray) (o:Option Addr) (len cap:Nat)  (w:World) :
  Calls Tryz.prog 91 #[.agg #[.int .i64 5,.int .i64 n,.int .i64 d,.string s,.slice o len cap]] w fun e w'=>e=.returned (.tuple #[.agg #[.int .i64 5,.int .i64 0,.int .i64 0,.string ⟨#[]⟩,.slice none 0 0],.bool (true)])∧Below w.heap.size w w':=by
 go_enter Tryz.func91,Tryz.ntmps91
 go_wp2
 refine bodyPost_ret (v:=.tuple #[.agg #[.int .i64 5,.int .i64 0,.int .i64 0,.string ⟨#[]⟩,.slice none 0 0],.bool true]) (by simp[results,Tryz.results91,go_sem]) rfl ⟨rfl,?_⟩
 exact ((Below.refl w.heap.size w).alloc (Nat.le_refl _) _).alloc (by simp) _
theorem bare_6a (n d:Int) (s:ByteArray) (o:Option Addr) (cap:Nat)  (w:World) :
  Calls Tryz.prog 91 #[.agg #[.int .i64 6,.int .i64 n,.int .i64 d,.string s,.slice o 2 cap]] w fun e w'=>e=.returned (.tuple #[.agg #[.int .i64 6,.int .i64 0,.int .i64 0,.string ⟨#[]⟩,.slice o 2 cap],.bool (true)])∧Below w.heap.size w w':=by
 go_enter Tryz.func91,Tryz.ntmps91
 go_wp2
 go_region
 all_goals
  go_wp2
  refine bodyPost_ret (v:=.tuple #[.agg #[.int .i64 6,.int .i64 0,.int .i64 0,.string ⟨#[]⟩,.slice o 2 cap],.bool true]) (by simp[results,Tryz.results91,go_sem]) rfl ⟨rfl,?_⟩
  exact (((Below.refl w.heap.size w).alloc (Nat.le_refl _) _).alloc (by simp) _).drew
theorem bare_6b (n d:Int) (s:ByteArray) (o:Option Addr) (len cap:Nat) (hl:((len:Int)==2)=false) (w:World) :
  Calls Tryz.prog 91 #[.agg #[.int .i64 6,.int .i64 n,.int .i64 d,.string s,.slice o len cap]] w fun e w'=>e=.returned (.tuple #[.agg #[.int .i64 6,.int .i64 0,.int .i64 0,.string ⟨#[]⟩,.slice o len cap],.bool (false)])∧Below w.heap.size w w':=by
 go_enter Tryz.func91,Tryz.ntmps91
 go_wp2
 go_region
 all_goals
  go_wp2
  refine bodyPost_ret (v:=.tuple #[.agg #[.int .i64 6,.int .i64 0,.int .i64 0,.string ⟨#[]⟩,.slice o len cap],.bool false]) (by simp[results,Tryz.results91,go_sem]) rfl ⟨rfl,?_⟩
  exact (((Below.refl w.heap.size w).alloc (Nat.le_refl _) _).alloc (by simp) _).drew
theorem bare_7 (n d:Int) (s:ByteArray) (o:Option Addr) (len cap:Nat)  (w:World) :
  Calls Tryz.prog 91 #[.agg #[.int .i64 7,.int .i64 n,.int .i64 d,.string s,.slice o len cap]] w fun e w'=>e=.returned (.tuple #[.agg #[.int .i64 7,.int .i64 0,.int .i64 0,.string ⟨#[]⟩,.slice o len cap],.bool (true)])∧Below w.heap.size w w':=by
 go_enter Tryz.func91,Tryz.ntmps91
 go_wp2
 refine bodyPost_ret (v:=.tuple #[.agg #[.int .i64 7,.int .i64 0,.int .i64 0,.string ⟨#[]⟩,.slice o len cap],.bool true]) (by simp[results,Tryz.results91,go_sem]) rfl ⟨rfl,?_⟩
 exact ((Below.refl w.heap.size w).alloc (Nat.le_refl _) _).alloc (by simp) _
theorem bare_8 (k:Int) (n d:Int) (s:ByteArray) (o:Option Addr) (len cap:Nat) (h:k<0∨7<k) (w:World) :
  Calls Tryz.prog 91 #[.agg #[.int .i64 k,.int .i64 n,.int .i64 d,.string s,.slice o len cap]] w fun e w'=>e=.returned (.tuple #[.agg #[.int .i64 0,.int .i64 0,.int .i64 0,.string ⟨#[]⟩,.slice none 0 0],.bool (false)])∧Below w.heap.size w w':=by
 have c0:(k==0)=false:=by simp;omega
 have c1:(k==1)=false:=by simp;omega
 have c2:(k==2)=false:=by simp;omega
 have c3:(k==3)=false:=by simp;omega
 have c4:(k==4)=false:=by simp;omega
 have c5:(k==5)=false:=by simp;omega
 have c6:(k==6)=false:=by simp;omega
 have c7:(k==7)=false:=by simp;omega
 clear h
 go_enter Tryz.func91,Tryz.ntmps91
 go_wp2
 refine bodyPost_ret (v:=.tuple #[.agg #[.int .i64 0,.int .i64 0,.int .i64 0,.string ⟨#[]⟩,.slice none 0 0],.bool false]) (by simp[results,Tryz.results91,go_sem]) rfl ⟨rfl,?_⟩
 exact ((Below.refl w.heap.size w).alloc (Nat.le_refl _) _).alloc (by simp) _
end
end Go.Proofs.YtgbibibmpoekiaaGreatDoor
