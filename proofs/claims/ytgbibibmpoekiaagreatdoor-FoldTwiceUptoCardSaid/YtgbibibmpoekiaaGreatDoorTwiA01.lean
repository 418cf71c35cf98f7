/-
  What the proofs lean on: FdB, FewT, FdC, FlS, FlG.
-/
import Derived.Test.YtgbibibmpoekiaaGreatDoorRows
import Derived.WalkKit
import Derived.ProofKit
import Derived.OpenShut
import Derived.Carry
import Derived.Deep.Draws
import Derived.Test.YtgbibibmpoekiaaGreatDoorProg
import Derived.Lib.ItoaNum
import Derived.Lib.Atoi
import Derived.Lib.AtoiAll
import Derived.Lib.SlTrimSet
import Derived.BigQuiet
import Derived.Deep.QuietTactic
import Derived.Lib.Hide
import Derived.IntWalk
import Derived.Shelf.Strings.Builder1
import Derived.Shelf.Strings.Trim
import Derived.Shelf.Small.Utf8
import Derived.Shelf.Small.Strs
import Derived.Shelf.Small.Wraps
import Derived.Shelf.Strings.BuilderF
import Derived.Shelf.Strings.BuilderK
import Derived.Shelf.Strconv.Atoi
import Derived.Shelf.Strconv.Itoa0
import Derived.Shelf.Strconv.Itoa1
import Derived.Shelf.LaysM
import Derived.Shelf.Strconv.Itoa2
import Derived.Shelf.Strconv.Itoa3
import Derived.Shelf.Strconv.AtoiErrFast
import Derived.Shelf.Strconv.Clone
import Derived.Shelf.Strings.Search1
import Derived.Shelf.Strings.Search2
import Derived.Shelf.Strings.Cut
import Derived.Shelf.Strings.Shaped
import Derived.Shelf.Strings.Prefix
import Derived.Shelf.Strings.Runes
import Derived.Shelf.Strings.AsciiSet
import Derived.Shelf.Unicode.DecodeSlow
import Derived.Shelf.Strings.BuilderCap
import Derived.Ground.Names2Prog
import Derived.Shelf.Slices.Clone
import Derived.Shelf.Strings.SlTrimAscii
import Derived.Lib.LaidTab
import Derived.Lib.AppendIntMem
import Derived.Lib.ItoaLen
import Derived.Deep.DeepHandedRow
import Derived.Deep.DeepWitnessRowRef
import Derived.LaidMore
import Derived.LaidHandle
import Derived.MakeChecks
import Derived.Stop.LaidErr
import Derived.Stop.Joined
import Derived.SevenTiedAt
import Derived.Below
import Derived.Deep.Slices
import Derived.SizedLaws
import Derived.Deep.Quiet
import Derived.StillTail
import Derived.RangeFuncBox
import Derived.RangeFuncNested
import Derived.RangeFuncBound
import Derived.RangeFuncCalls
import Derived.RangeFuncLeaves
import Derived.Shelf.Abstract
import Derived.Shelf.RegionOpen
import Derived.OwnWalkIn
import Derived.TacticsInMore
import Derived.LoopNIn
import Derived.LoopIn
import Derived.Laws.AppendOwn
import Derived.Laws.OwnMore
import Derived.Laws.AppendOwnNone
import Derived.OwnWalk
import Derived.WalkSpells
import Derived.Deep.LoopGhost
import Derived.Deep.DeepCutAuto
import Derived.Deep.AppendLies
import Derived.Maps.Own
import Derived.Maps.OwnOps
import Derived.Maps.Views
import Derived.Maps.OwnSet
import Derived.WideKeyEntry
import Derived.Lib.FrozenHead
import Derived.Lib.FrozenHead2
import Derived.Lib.OthersKept
import Derived.Laws.Externs
import Derived.Laws.EntriesVeiled
import Derived.Lib.ConvBytes
import Derived.Lib.IndexAny
import Derived.RegionTactic
import Derived.ChangeAlike
import Derived.BigRegion
import Derived.Lib.AppendZerosOnto
import Derived.Deep.Cut
import Derived.Deep.CutRange
import Derived.Lib.SliceRun
import Derived.Deep.WholeRow
import Derived.Laws.Rows
import Derived.Laws.ResultCell
import Derived.Defers
import Derived.Deep.RegionWith
import Derived.Test.YtgbibibmpoekiaaGreatDoorShfA01
import Derived.Test.YtgbibibmpoekiaaGreatDoorShfA02
import Derived.Test.YtgbibibmpoekiaaGreatDoorShfA03
import Derived.Test.YtgbibibmpoekiaaGreatDoorShfA04
import Derived.Test.YtgbibibmpoekiaaGreatDoorShfA05
import Derived.Test.YtgbibibmpoekiaaGreatDoorShfA06
import Derived.Test.YtgbibibmpoekiaaGreatDoorShfA07
import Derived.Test.YtgbibibmpoekiaaGreatDoorShfA08
import Derived.Test.YtgbibibmpoekiaaGreatDoorShfA09
import Derived.Test.YtgbibibmpoekiaaGreatDoorShfA10
import Derived.Test.YtgbibibmpoekiaaGreatDoorShfA11
import Derived.Test.YtgbibibmpoekiaaGreatDoorShfA12
import Derived.Test.YtgbibibmpoekiaaGreatDoorShfA13
import Derived.Test.YtgbibibmpoekiaaGreatDoorShfA14
import Derived.Test.YtgbibibmpoekiaaGreatDoorShfA15
import Derived.Test.YtgbibibmpoekiaaGreatDoorShfA16
import Derived.Test.YtgbibibmpoekiaaGreatDoorShfA17
import Derived.Test.YtgbibibmpoekiaaGreatDoorShfA18
import Derived.Test.YtgbibibmpoekiaaGreatDoorShfA19
import Derived.Test.YtgbibibmpoekiaaGreatDoorShfA20
import Derived.Test.YtgbibibmpoekiaaGreatDoorShfA21
import Derived.Test.YtgbibibmpoekiaaGreatDoorShfA22
import Derived.Test.YtgbibibmpoekiaaGreatDoorShfA23
import Derived.Test.YtgbibibmpoekiaaGreatDoorShfA24
import Derived.Test.YtgbibibmpoekiaaGreatDoorShfA25
import Derived.Test.YtgbibibmpoekiaaGreatDoorShfA26
import Derived.Test.YtgbibibmpoekiaaGreatDoorShfA27
import Derived.Test.YtgbibibmpoekiaaGreatDoorShfA28
import Derived.Test.YtgbibibmpoekiaaGreatDoorShfA29
import Derived.Test.YtgbibibmpoekiaaGreatDoorShfA30
import Derived.Test.YtgbibibmpoekiaaGreatDoorShfA31
import Derived.Test.YtgbibibmpoekiaaGreatDoorShfA32
import Derived.Test.YtgbibibmpoekiaaGreatDoorShfA33
import Derived.Test.YtgbibibmpoekiaaGreatDoorShfA34
import Derived.Test.YtgbibibmpoekiaaGreatDoorShfA35
import Derived.Test.YtgbibibmpoekiaaGreatDoorShfA36
import Derived.Test.YtgbibibmpoekiaaGreatDoorShfA37
import Derived.Test.YtgbibibmpoekiaaGreatDoorShfA38
import Derived.Test.YtgbibibmpoekiaaGreatDoorShfA39
import Derived.Test.YtgbibibmpoekiaaGreatDoorShfA40
import Derived.Test.YtgbibibmpoekiaaGreatDoorShfA41
set_option maxRecDepth 100000
set_option maxHeartbeats 16000000
namespace Go.Proofs.YtgbibibmpoekiaaGreatDoor
section
open Go Go.RowKit
namespace Fd
open Trm
theorem sim_all {Q:Int→Int→Prop} {r:Int→Int}:∀x y:Trm,Sim Q r x y→y.all=x.all:=by
 intro x
 induction x using Trm.ind with
 | h o n v t ih=>
  intro y h
  obtain ⟨o',n',v',t'⟩:=y
  obtain ⟨_,_,_,_,h4⟩:=h.open
  have key:∀l m:List Trm,(∀y∈l,∀z,Sim Q r y z→z.all=y.all)→SimL Q r l m→allL m=allL l:=fun l=>by
   induction l with
   | nil=>intro m _ h;rw[SimL] at h;subst h;rfl
   | cons y l ihl=>
    intro m hy h
    obtain ⟨z,k,rfl,g1,g2⟩:=h.uncons
    rw[allL,allL,hy y (by simp) z g1,ihl k (fun z hz=>hy z (List.mem_cons_of_mem _ hz)) g2]
  rw[Trm.all,Trm.all,key t t' ih h4]
variable {F : Int → List Dat → Option Dat}
theorem term_behind {r:Int→Int} (hr:∀a b,r a=r b→a=b) {x:Trm} {cs b:List Dat} {nk:Int} {fr:Bool} {sc:Int→Bool} (h:wf cs.length nk fr x sc=true):(term F (shift r x) (cs++b)).1.all=(term F x cs).1.all:=by
 have hQ:QOk (fun _ _:List Dat=>True) (fun cs cs' n m=>0≤n∧0≤m∧∃d,cs[n.toNat]?=some d∧cs'[m.toNat]?=some d):=by
  refine ⟨fun h=>?_,fun a h=>?_,fun _ _=>trivial,fun d _=>?_⟩
  ·obtain ⟨_,_,d,h1,h2⟩:=h
   rw[h1,h2]
  ·obtain ⟨g1,g2,d,h1,h2⟩:=h
   refine ⟨g1,g2,d,?_,?_⟩
   ·rw[List.getElem?_append_left (List.getElem?_eq_some_iff.1 h1).1];exact h1
   ·rw[List.getElem?_append_left (List.getElem?_eq_some_iff.1 h2).1];exact h2
  ·refine ⟨by omega,by omega,d,?_,?_⟩<;>simp
 obtain ⟨a,e1,e2,e3⟩:=sim_term (F:=F) hQ hr x (shift r x) cs (cs++b) trivial (sim_shift r x _ _ _ _ h fun n h0 h1=>by
  obtain ⟨d,hd⟩:∃d,cs[n.toNat]?=some d:=⟨_,List.getElem?_eq_getElem (by omega)⟩
  exact ⟨h0,h0,d,hd,by rw[List.getElem?_append_left (List.getElem?_eq_some_iff.1 hd).1];exact hd⟩)
 exact sim_all _ _ e3
end Fd
end
section
open Go Go.RowKit
namespace Trm
end Trm
theorem tsize_any (x:Trm):∀(c0 c1 c2 c3:Value) (deep:Int) (B:Nat) (w:World),TrmR w B x [c0,c1,c2,c3]→B≤w.heap.size→0≤deep→deep+x.all≤1000 →
  Calls Tryz.prog 30 #[.agg #[c0,c1,c2,c3],.int .i64 deep] w fun e w'=>e=.returned (.int .i64 x.all)∧Below w.heap.size w w':=by
 induction x using Trm.ind with
 | _ o n v t ih=>
  intro c0 c1 c2 c3 deep B w hv hB h0 h1
  obtain ⟨vs,q,len,cap,rfl,rfl,rfl,rfl,hs,_,hlen,hmx⟩:=trm_boxed hv
  obtain ⟨W1,hW1⟩:∃W1,w.alloc (.cells #[.int .i64 o,.int .i64 n,c2,.slice q len cap] 26)=W1:=⟨_,rfl⟩
  have HB1:=Lib.hid (show Below w.heap.size w W1 from by rw[←hW1];exact Below.one w _)
  have HX1:=Lib.hid (show BoxL W1 w.heap.size 26 [.int .i64 o,.int .i64 n,c2,.slice q len cap] from by rw[←hW1];exact BoxL.new rfl _ _)
  rw[Trm.all] at h1 ⊢
  have IH:=Lib.hid ih
  have HS:=Lib.hid hs
  have HL:=Lib.hid hlen
  have HW:=Lib.hid hW1
  clear ih hv hs hlen hW1
  go_enter Tryz.func30,Tryz.ntmps30
  go_upto_region 1 with fail
  rw[HW.out]
  go_wp2
  go_loopg [5,6] len (fun g a i wr=>∃j:Nat,g=len-j∧a=.int .i64 ((1+Trm.allL (t.take j):Nat):Int)∧i=.int .i64 j∧j≤len∧Hid (Below W1.heap.size W1 wr))
  case atStart=>exact ⟨0,rfl,by rw[List.take_zero,Trm.allL];rfl,rfl,by omega,Lib.hid (Below.refl _ _)⟩
  case round=>
   obtain ⟨j,rfl,rfl,rfl,hj,HBR⟩:=hrel
   have HXR:=Lib.hid (HX1.out.keep HBR.out)
   have HBW:=Lib.hid (HB1.out.trans (HBR.out.mono HB1.out.size))
   have b3:=HXR.out.cell 3 rfl
   have bl:=HXR.out.lt
   have hle:=Trm.allL_take_le t j
   by_cases hjl:j<len
   ·obtain ⟨x,hx⟩:∃x,t[j]?=some x:=⟨_,List.getElem?_eq_getElem (by rw[←HL.out];exact hjl)⟩
    obtain ⟨b,off,cs,ho,_,hcl,hcell,hir⟩:=SlC.at HS.out (HBW.out.mono hB) hx
    subst ho
    match cs,hcl with
    | [d0,d1,d2,d3],_=>
     have e0:=hcell 0 _ rfl
     have e1:=hcell 1 _ rfl
     have e2:=hcell 2 _ rfl
     have e3:=hcell 3 _ rfl
     simp only[Nat.add_zero] at e0
     have hle2:=Trm.allL_take_le t (j+1)
     have hst:=Trm.allL_take t j x hx
     have hm:=Trm.allL_mem (List.mem_of_getElem? hx)
     have hap:=x.all_ge
     have hd:deep<1000:=by omega
     have HCC:=Lib.hid (IH.out x (List.mem_of_getElem? hx) d0 d1 d2 d3 (deep+1) B wr (TrmR.kept (HBW.out.mono hB) _ _ hir) (by have:=HBW.out.size;omega) (by omega) (by omega))
     have HST:=Lib.hid hst
     clear hx hir hcell hst
     obtain ⟨N,hN⟩:∃N,Trm.allL (t.take j)=N:=⟨_,rfl⟩
     obtain ⟨M,hM⟩:∃M,x.all=M:=⟨_,rfl⟩
     rw[hN,hM] at HST
     rw[hM] at HCC hm hap
     rw[HST.out] at hle2
     rw[hN] at hle ⊢
     clear hN hM
     go_wp2_with fail
     with_reducible refine HCC.out.mono ?_
     rintro e w1 ⟨rfl,hb1⟩
     have HBN:=Lib.hid (HBR.out.trans (hb1.mono HBR.out.size))
     clear hb1 HCC
     go_wp2_with fail
     go_roundg (len-(j+1))
     case measure=>omega
     case rel=>exact ⟨j+1,rfl,by rw[HST.out];go_num,by go_num,by omega,HBN⟩
   ·obtain rfl:j=len:=by omega
    have HT:=Lib.hid (show t.take j=t from List.take_of_length_le (by rw[←HL.out];exact Nat.le_refl _))
    rw[HT.out]
    go_wp2
    go_ret
    exact ⟨rfl,HBW.out⟩
theorem tSize_any (x:Trm) (c0 c1 c2 c3:Value) (B:Nat) (w:World) (hv:TrmR w B x [c0,c1,c2,c3]) (hB:B≤w.heap.size) (h1:x.all≤1000) :
  Calls Tryz.prog 18 #[.agg #[c0,c1,c2,c3]] w fun e w'=>e=.returned (.int .i64 x.all)∧Below w.heap.size w w':=by
 have HCC:=Lib.hid (tsize_any x c0 c1 c2 c3 0 B (w.alloc (.cells #[c0,c1,c2,c3] 26)) (TrmR.kept ((Below.one w _).mono hB) _ _ hv) (by simp;omega) (by omega) (by omega))
 obtain ⟨o,n,v,t⟩:=x
 obtain ⟨vs',ts,he,_,_,h3,h4⟩:=trmR_iff.1 hv
 simp only[List.cons.injEq,and_true] at he
 obtain ⟨rfl,rfl,rfl,rfl⟩:=he
 obtain ⟨oo,ll,cc,rfl⟩:=h3.form
 obtain ⟨o2,l2,k2,rfl⟩:=h4.form
 obtain ⟨N,hN⟩:∃N,(Trm.mk o n v t).all=N:=⟨_,rfl⟩
 rw[hN] at HCC ⊢
 clear hv h3 h4 hN h1
 go_enter Tryz.func18,Tryz.ntmps18
 go_wp2_with fail
 with_reducible refine HCC.out.mono ?_
 rintro e' w1 ⟨rfl,hb1⟩
 go_wp2_with fail
 go_ret
 exact ⟨rfl,(Below.one w _).trans (hb1.mono (by simp))⟩
end
section
open Go Go.RowKit
namespace Fd
theorem fold_cons (l:List Dat):Prims.fold 17 l=(Prims.zeroD,0,false):=by
 unfold Prims.fold
 rw[show (Prims.facts 17).folds=false by decide +kernel,Bool.false_and,Bool.and_false,if_neg (by decide)]
theorem foldF_cons (l:List Dat):foldF 17 l=none:=by
 unfold foldF
 rw[fold_cons,if_neg (fun h=>absurd h.1 (by decide))]
end Fd
end
section
open Go Go.RowKit
theorem rk_inj (k:Int):∀a b,rk k a=rk k b→a=b:=by
 intro a b h
 unfold rk at h
 split at h<;>split at h
 ·unfold wrap64 at h;omega
 ·unfold wrap64 at h;omega
 ·unfold wrap64 at h;omega
 ·exact h
def PrV (S:Nat→Prop) (p:Option (Trm × List Dat)) (v:Value) (W:World):Prop:=match p with
 | none=>v=.agg #[.slice none 0 0,.int .i64 0,.int .i64 0,.slice none 0 0,.slice none 0 0]
 | some q=>∃(oc:Option Addr) (lc kc:Nat) (o n:Int) (ov:Option Addr) (lv cv:Nat) (ot:Option Addr) (lt ct:Nat),v=.agg #[.slice oc lc kc,.int .i64 o,.int .i64 n,.slice ov lv cv,.slice ot lt ct]∧RepS (hide W S) W.heap.size q.2 (.slice oc lc kc)∧TrmR (hide W S) W.heap.size q.1 [.int .i64 o,.int .i64 n,.slice ov lv cv,.slice ot lt ct]
def errV (p:Option (Trm × List Dat)):Int:=match p with | none=>5 | some _=>0
def CvV (S:Nat→Prop) (p:Option (Trm × List Dat)) (v:Value) (W:World):Prop:=∃u,v=.tuple #[u,.int .i64 (errV p)]∧PrV S p u W
theorem PrV.form {S:Nat→Prop} {p:Option (Trm × List Dat)} {v:Value} {W:World} (h:PrV S p v W):∃(oc:Option Addr) (lc kc:Nat) (o n:Int) (ov:Option Addr) (lv cv:Nat) (ot:Option Addr) (lt ct:Nat),v=.agg #[.slice oc lc kc,.int .i64 o,.int .i64 n,.slice ov lv cv,.slice ot lt ct]:=by
 cases p with
 | none=>exact ⟨_,_,_,_,_,_,_,_,_,_,_,h⟩
 | some q=>
  obtain ⟨oc,lc,kc,o,n,ov,lv,cv,ot,lt,ct,h,_⟩:=h
  exact ⟨_,_,_,_,_,_,_,_,_,_,_,h⟩
theorem PrV.shown {S S':Nat→Prop} {p:Option (Trm × List Dat)} {v:Value} {W W':World} (h:PrV S p v W) (hs:Shown W S W' S') (hz:W.heap.size≤W'.heap.size):PrV S' p v W':=by
 cases p with
 | none=>exact h
 | some q=>
  obtain ⟨oc,lc,kc,o,n,ov,lv,cv,ot,lt,ct,h,h1,h2⟩:=h
  exact ⟨oc,lc,kc,o,n,ov,lv,cv,ot,lt,ct,h,h1.shown hs hz,h2.shown hs hz⟩
theorem CvPostS.val {S:Nat→Prop} {p:Option (Trm × List Dat)} {w w':World} {e:Ending} (h:CvPostS S p w e w'):∃v,e=.returned v∧CvV S p v w'∧Below w.heap.size w w':=by
 obtain ⟨h1,h2⟩:=h
 cases p with
 | none=>exact ⟨_,h2,⟨_,rfl,rfl⟩,h1⟩
 | some q=>
  obtain ⟨x,cs⟩:=q
  obtain ⟨oc,lc,kc,o,n,ov,lv,cv,ot,lt,ct,h2,h3,h4⟩:=h2
  exact ⟨_,h2,⟨_,rfl,oc,lc,kc,o,n,ov,lv,cv,ot,lt,ct,rfl,h3,h4⟩,h1⟩
def PgO (b:Nat) (p:Option (Trm × List Dat)) (W:World):Prop:=∃(oc:Option Addr) (lc kc:Nat) (o n:Int) (ov:Option Addr) (lv cv:Nat) (ot:Option Addr) (lt ct:Nat),BoxL W b 28 [.slice oc lc kc,.int .i64 o,.int .i64 n,.slice ov lv cv,.slice ot lt ct]∧PrV (fun c=>c=b) p (.agg #[.slice oc lc kc,.int .i64 o,.int .i64 n,.slice ov lv cv,.slice ot lt ct]) W
theorem PgO.keep {b:Nat} {p:Option (Trm × List Dat)} {W W':World} (h:PgO b p W) (hb:Below W.heap.size W W'):PgO b p W':=by
 obtain ⟨oc,lc,kc,o,n,ov,lv,cv,ot,lt,ct,h1,h2⟩:=h
 exact ⟨oc,lc,kc,o,n,ov,lv,cv,ot,lt,ct,h1.keep hb,h2.shown (Shown.below hb) hb.size⟩
theorem PgO.new {p:Option (Trm × List Dat)} {W:World} {oc:Option Addr} {lc kc:Nat} {o n:Int} {ov:Option Addr} {lv cv:Nat} {ot:Option Addr} {lt ct:Nat} {S:Nat→Prop} (h:PrV S p (.agg #[.slice oc lc kc,.int .i64 o,.int .i64 n,.slice ov lv cv,.slice ot lt ct]) W) :
  PgO W.heap.size p (W.alloc (.cells #[.slice oc lc kc,.int .i64 o,.int .i64 n,.slice ov lv cv,.slice ot lt ct] 28)):=by
 have hb:=Below.one W (.cells #[.slice oc lc kc,.int .i64 o,.int .i64 n,.slice ov lv cv,.slice ot lt ct] 28)
 exact ⟨oc,lc,kc,o,n,ov,lv,cv,ot,lt,ct,BoxL.new rfl _ _,h.shown (Shown.move (T:=fun _=>False) (.of_below hb) (fun _ _ h=>h.elim) fun b e=>.inr (by omega)) hb.size⟩
theorem listed_of {listed:Array Bool} {i k:Nat} (h:(listed.setIfInBounds i true).getD k false=true) (hk:i≠k):listed.getD k false=true:=by rwa[getD_set_ne false hk] at h
section
variable {W0 : World} {cc : Value} {y : Trm} {p : Option (Trm × List Dat)} {listed : Array Bool} {a : Act} {W W' : World}
end
end
section
open Go Go.RowKit
theorem Fd.conv_two {cs:List Dat} {x:Trm} {k:Int} {q q2:Trm × List Dat} (h1:Fd.conv cs x=some q) (h2:Fd.conv cs (.mk 10 17 [] [x,Trm.shift (rk k) x])=some q2):∃y,q2.1=.mk 10 17 [] [q.1,y]∧y.all=q.1.all:=by
 unfold Fd.conv at h1 h2
 split at h1
 ·rename_i ho
  split at h2
  ·cases h1
   cases h2
   have hcons:∀(l:List Trm) (c:List Dat),Fd.prim Fd.foldF 17 l c=(.mk 10 17 [] l,c):=fun l c=>by
    unfold Fd.prim
    split
    ·rfl
    ·rw[Fd.foldF_cons]
   have he:Fd.iter Fd.foldF 1 (.mk 10 17 [] [x,Trm.shift (rk k) x]) cs=(.mk 10 17 [] [(Fd.term Fd.foldF x cs).1,(Fd.term Fd.foldF (Trm.shift (rk k) x) (Fd.term Fd.foldF x cs).2).1],(Fd.term Fd.foldF (Trm.shift (rk k) x) (Fd.term Fd.foldF x cs).2).2):=by
    show Fd.term Fd.foldF (.mk 10 17 [] [x,Trm.shift (rk k) x]) cs=_
    rw[Fd.term,Fd.termL,Fd.termL,Fd.termL]
    exact hcons _ _
   obtain ⟨b,hb⟩:=Fd.term_more Fd.foldF x cs
   refine ⟨_,congrArg Prod.fst he,?_⟩
   rw[←hb]
   exact Fd.term_behind (rk_inj k) (Fd.okP_wf ho)
  ·cases h2
 ·cases h1
theorem trmS_two {W:World} {S:Nat→Prop} {x y:Trm} {c d:List Value} (hx:TrmR (hide W S) W.heap.size x c) (hy:TrmR (hide W S) W.heap.size y d) (hS:∀b,S b→b<W.heap.size):TrmS (hide (W.alloc (.cells (c++d).toArray 26)) S) (W.alloc (.cells (c++d).toArray 26)).heap.size [x,y] (.slice (some ⟨W.heap.size,0,none⟩) 2 2):=by
 have hb:=Below.one W (.cells (c++d).toArray 26)
 have hn:¬S W.heap.size:=fun h=>Nat.lt_irrefl _ (hS _ h)
 have hc:=hx.len
 have hd:=hy.len
 have hcell:∀(j:Nat) (u:Value),(c++d)[j]?=some u→(hide (W.alloc (.cells (c++d).toArray 26)) S).cell? ⟨W.heap.size,j,none⟩=some u:=fun j u hj=>by
  rw[hide_other hn]
  exact (BoxL.new (W:=W) rfl 26 (c++d)).cell j hj
 refine ⟨_,_,_,rfl,rfl,Nat.le_refl _,by omega,fun _=>⟨rfl,by simp⟩,fun i z hz=>?_⟩
 match i with
 | 0=>
  obtain rfl:x=z:=by simpa using hz
  refine ⟨c,hc,fun j u hj=>?_,hx.shown (Shown.below hb) hb.size⟩
  have hjl:=(List.getElem?_eq_some_iff.1 hj).1
  have:=hcell j u (by rw[List.getElem?_append_left hjl];exact hj)
  simpa using this
 | 1=>
  obtain rfl:y=z:=by simpa using hz
  refine ⟨d,hd,fun j u hj=>?_,hy.shown (Shown.below hb) hb.size⟩
  have:=hcell (4+j) u (by rw[List.getElem?_append_right (by omega),hc,Nat.add_sub_cancel_left];exact hj)
  simpa using this
 | i+2=>simp at hz
section
variable {o : Oper} {a : Act} {w : World} {Q : Exit → Act → World → Prop}
theorem run_bsT2 (w:World) (x y:Int) (o1 o2:Option Addr) (l1 c1 l2 c2:Nat) (x' y':Int) (o1' o2':Option Addr) (l1' c1' l2' c2':Nat):(Instr.buildSlice 24 2 #[(0,.agg #[.int .i64 x,.int .i64 y,.slice o1 l1 c1,.slice o2 l2 c2]),(1,.agg #[.int .i64 x',.int .i64 y',.slice o1' l1' c1',.slice o2' l2' c2'])]).run Tryz.prog w=.ok (.slice (some ⟨w.heap.size,0,none⟩) 2 2) (w.alloc (.cells #[.int .i64 x,.int .i64 y,.slice o1 l1 c1,.slice o2 l2 c2,.int .i64 x',.int .i64 y',.slice o1' l1' c1',.slice o2' l2' c2'] 26)):=by go_simp
theorem wp_bsT2 {K:Act→World→Prop} {s r:Nat} {S:Nat→Prop} {x y:Trm} (ho:o.op=.buildSlice 24 2 #[(0,.tmp s),(1,.tmp r)]) (hx:TmV S x (a.tmps.getD s undef) w) (hy:TmV S y (a.tmps.getD r undef) w) (hS:∀b,S b→b<w.heap.size) (hK:∀v w',TrmS (hide w' S) w'.heap.size [x,y] v→Below w.heap.size w w'→K (a.put o.dst v) w'):o.wp Tryz.prog a w K Q:=by
 obtain ⟨q,n,ov,ot,lv,cv,lt,ct,hv,hr⟩:=hx
 obtain ⟨q',n',ov',ot',lv',cv',lt',ct',hv',hr'⟩:=hy
 refine wp_valF (v:=.slice (some ⟨w.heap.size,0,none⟩) 2 2) (w':=w.alloc (.cells #[.int .i64 q,.int .i64 n,.slice ov lv cv,.slice ot lt ct,.int .i64 q',.int .i64 n',.slice ov' lv' cv',.slice ot' lt' ct'] 26)) ?_ (hK _ _ (trmS_two hr hr' hS) (Below.one _ _))
 have hmap:(#[(0,Operand.tmp s),(1,Operand.tmp r)]:Array (Nat × Operand)).map (fun (i,x)=>(i,a.eval x))=#[(0,.agg #[.int .i64 q,.int .i64 n,.slice ov lv cv,.slice ot lt ct]),(1,.agg #[.int .i64 q',.int .i64 n',.slice ov' lv' cv',.slice ot' lt' ct'])]:=by
  simp only[List.map_toArray,List.map_cons,List.map_nil]
  rw[←hv,←hv'];rfl
 unfold execOp
 rw[ho]
 show (do let r ←Instr.buildSlice 24 2 ((#[(0,Operand.tmp s),(1,Operand.tmp r)]:Array (Nat × Operand)).map (fun (i,x)=>(i,a.eval x)));pure (Next.value r):Sem Next).run Tryz.prog w=_
 rw[hmap]
 simp only[Sem.run_bind,Sem.run_pure,run_bsT2,Result.andThen_ok]
end
theorem wp_build2c {P:Program} {o:Oper} {a:Act} {w:World} {Q:Exit→Act→World→Prop} {K:Act→World→Prop} {t s3 i1 i2 i3:Nat} {x1 x2 x3 v:Value} (ho:o.op=.build t #[(i1,.const x1),(i2,.const x2),(i3,.tmp s3)]) (h3:a.tmps.getD s3 undef=x3) (hm:(Instr.build t #[(i1,x1),(i2,x2),(i3,x3)]).run P w=.ok v w) (hK:K (a.put o.dst v) w):o.wp P a w K Q:=by
 refine wp_valF (v:=v) (w':=w) ?_ hK
 unfold execOp
 rw[ho]
 have hmap:(#[(i1,Operand.const x1),(i2,Operand.const x2),(i3,Operand.tmp s3)]:Array (Nat × Operand)).map (fun (i,x)=>(i,a.eval x))=#[(i1,x1),(i2,x2),(i3,x3)]:=by
  simp only[List.map_toArray,List.map_cons,List.map_nil]
  rw[←h3];rfl
 show (do let r ←Instr.build t ((#[(i1,Operand.const x1),(i2,Operand.const x2),(i3,Operand.tmp s3)]:Array (Nat × Operand)).map (fun (i,x)=>(i,a.eval x)));pure (Next.value r):Sem Next).run P w=_
 rw[hmap]
 simp only[Sem.run_bind,Sem.run_pure,hm,Result.andThen_ok]
def TgO (b:Nat) (y:Trm) (W:World):Prop:=∃(o n:Int) (ov:Option Addr) (lv cv:Nat) (ot:Option Addr) (lt ct:Nat),BoxL W b 26 [.int .i64 o,.int .i64 n,.slice ov lv cv,.slice ot lt ct]∧TrmR (hide W fun c=>c=b) W.heap.size y [.int .i64 o,.int .i64 n,.slice ov lv cv,.slice ot lt ct]
theorem TgO.keep {b:Nat} {y:Trm} {W W':World} (h:TgO b y W) (hb:Below W.heap.size W W'):TgO b y W':=by
 obtain ⟨o,n,ov,lv,cv,ot,lt,ct,h1,h2⟩:=h
 exact ⟨o,n,ov,lv,cv,ot,lt,ct,h1.keep hb,h2.shown (Shown.below hb) hb.size⟩
theorem TgO.set {b:Nat} {y:Trm} {W:World} {S:Nat→Prop} {o n:Int} {ov:Option Addr} {lv cv:Nat} {ot:Option Addr} {lt ct:Nat} {c0 c1 c2 c3:Value} (hb:BoxL W b 26 [c0,c1,c2,c3]) (hS:S b) (h:TrmR (hide W S) W.heap.size y [.int .i64 o,.int .i64 n,.slice ov lv cv,.slice ot lt ct]) :
  TgO b y ((((W.setCell ⟨b,0,none⟩ (.int .i64 o)).setCell ⟨b,1,none⟩ (.int .i64 n)).setCell ⟨b,2,none⟩ (.slice ov lv cv)).setCell ⟨b,3,none⟩ (.slice ot lt ct)):=by
 have ht:=set4_turned W (S:=fun c=>c=b) (b:=b) rfl (.int .i64 o) (.int .i64 n) (.slice ov lv cv) (.slice ot lt ct)
 exact ⟨o,n,ov,lv,cv,ot,lt,ct,set4_box hb _ _ _ _,h.shown (Shown.move ht (fun c _ e=>by rw[e];exact hS) fun c e=>.inl (by rw[e];exact hS)) ht.size⟩
def Sb7 (a:Act) (c:Nat):Prop:=a.tmps.getD 7 undef=.pointer (some ⟨c,0,none⟩)
def SjR (z n0:Nat) (xc:List Value) (listed:Array Bool) (i:Nat) (v:Value) (W:World):Prop:=match i with
 | 0=>v=.pointer (some ⟨n0,1,none⟩)
 | 1=>v=.agg xc.toArray
 | 2=>v=.pointer (some ⟨n0,1,none⟩)
 | 3=>v=.agg xc.toArray
 | 7=>∃b,v=.pointer (some ⟨b,0,none⟩)∧z≤b∧(listed.getD 8 false=false→BoxL W b 26 [.int .i64 0,.int .i64 0,.slice none 0 0,.slice none 0 0])
 | _=>True
theorem sjR_other {z n0:Nat} {xc:List Value} {listed listed':Array Bool} {j:Nat} {u:Value} {A B:World} (h:SjR z n0 xc listed j u A) (hj:j≠7):SjR z n0 xc listed' j u B:=by
 match j,hj with
 | 0,_=>exact h
 | 1,_=>exact h
 | 2,_=>exact h
 | 3,_=>exact h
 | 4,_=>trivial
 | 5,_=>trivial
 | 6,_=>trivial
 | j+8,_=>trivial
theorem sjR_below {z n0:Nat} {xc:List Value} {listed listed':Array Bool} {j:Nat} {u:Value} {A B:World} (h:SjR z n0 xc listed j u A) (hb:Below A.heap.size A B) (hl:listed'.getD 8 false=listed.getD 8 false):SjR z n0 xc listed' j u B:=by
 by_cases hj:j=7
 ·subst hj
  obtain ⟨b,h1,h2,h3⟩:=h
  exact ⟨b,h1,h2,fun g=>(h3 (by rw[←hl];exact g)).keep hb⟩
 ·exact sjR_other h hj
structure SjP (W0:World) (x y:Trm) (listed:Array Bool) (a:Act) (W:World):Prop where
 below:Below W0.heap.size W0 W
 l7:∀c,Sb7 a c→W0.heap.size≤c∧c<W.heap.size
 l8:listed.getD 8 false=true→listed.getD 7 false=true
 t4:listed.getD 4 false=true→TmV (Sb7 a) y (a.tmps.getD 52 undef) W
 t5:listed.getD 5 false=true→∃o l c,a.tmps.getD 53 undef=.slice o l c∧TrmS (hide W (Sb7 a)) W.heap.size [x,y] (.slice o l c)
 t6:listed.getD 6 false=true→TmV (Sb7 a) (.mk 10 17 [] [x,y]) (a.tmps.getD 54 undef) W
 t8:listed.getD 8 false=true→∃b,Sb7 a b∧TgO b (.mk 10 17 [] [x,y]) W
section
variable {W0 : World} {x y : Trm} {listed : Array Bool} {a : Act} {W W' : World}
theorem SjP.step (h:SjP W0 x y listed a W) {i d:Nat} {v:Value} (hd:d<a.tmps.size) (h7:d≠7) (h8:i≠8) (hi7:i≠7) (hb:Below W.heap.size W W')
  (e4:d≠52∧i≠4∨d=52∧TmV (Sb7 a) y v W') (e5:d≠53∧i≠5∨d=53∧∃o l c,v=.slice o l c∧TrmS (hide W' (Sb7 a)) W'.heap.size [x,y] (.slice o l c)) (e6:d≠54∧i≠6∨d=54∧TmV (Sb7 a) (.mk 10 17 [] [x,y]) v W') :
  SjP W0 x y (listed.setIfInBounds i true) (a.put (some d) v) W':=by
 have hg:∀t,(a.put (some d) v).tmps.getD t undef=if d=t then v else a.tmps.getD t undef:=fun t=>put_getD hd
 have hSb:Sb7 (a.put (some d) v)=Sb7 a:=by
  funext c
  unfold Sb7
  rw[hg,if_neg h7]
 refine ⟨h.below.trans (hb.mono h.below.size),fun c hc=>?_,fun hl=>?_,fun hl=>?_,fun hl=>?_,fun hl=>?_,fun hl=>?_⟩
 ·rw[hSb] at hc
  have:=h.l7 c hc
  exact ⟨this.1,Nat.lt_of_lt_of_le this.2 hb.size⟩
 ·rw[getD_set_ne false hi7];exact h.l8 (listed_of hl h8)
 ·rw[hSb,hg]
  rcases e4 with ⟨e,e'⟩ | ⟨e,e'⟩
  ·rw[if_neg e];exact (h.t4 (listed_of hl e')).shown (Shown.below hb) hb.size
  ·rw[if_pos e];exact e'
 ·rw[hSb,hg]
  rcases e5 with ⟨e,e'⟩ | ⟨e,e'⟩
  ·rw[if_neg e]
   obtain ⟨o,l,c,h1,h2⟩:=h.t5 (listed_of hl e')
   exact ⟨o,l,c,h1,h2.shown (Shown.below hb) hb.size⟩
  ·rw[if_pos e];exact e'
 ·rw[hSb,hg]
  rcases e6 with ⟨e,e'⟩ | ⟨e,e'⟩
  ·rw[if_neg e];exact (h.t6 (listed_of hl e')).shown (Shown.below hb) hb.size
  ·rw[if_pos e];exact e'
 ·rw[hSb]
  obtain ⟨b,h1,h2⟩:=h.t8 (listed_of hl h8)
  exact ⟨b,h1,h2.keep hb⟩
theorem SjP.pure (h:SjP W0 x y listed a W) {i d:Nat} {v:Value} (hd:d<a.tmps.size) (hx:(decide (d≠7)&&(decide (i≠8∧i≠7)&&(decide (d≠52∧i≠4)&&(decide (d≠53∧i≠5)&&decide (d≠54∧i≠6)))))=true):SjP W0 x y (listed.setIfInBounds i true) (a.put (some d) v) W:=by
 simp only[Bool.and_eq_true,decide_eq_true_eq] at hx
 obtain ⟨h1,h2,h3,h4,h5⟩:=hx
 exact h.step hd h1 h2.1 h2.2 (Below.refl _ _) (.inl h3) (.inl h4) (.inl h5)
theorem SjP.box (h:SjP W0 x y listed a W) {o:Obj} (hd:7<a.tmps.size) (hun:listed.getD 7 false=false):SjP W0 x y (listed.setIfInBounds 7 true) (a.put (some 7) (.pointer (some ⟨W.heap.size,0,none⟩))) (W.alloc o):=by
 have hu:listed.getD 8 false=false:=by
  cases hl:listed.getD 8 false with
  | false=>rfl
  | true=>rw[h.l8 hl] at hun;cases hun
 have hb:=Below.one W o
 have hg:∀t,t≠7→(a.put (some 7) (.pointer (some ⟨W.heap.size,0,none⟩))).tmps.getD t undef=a.tmps.getD t undef:=fun t ht=>by rw[put_getD hd,if_neg (Ne.symm ht)]
 have hSb:∀c,Sb7 (a.put (some 7) (.pointer (some ⟨W.heap.size,0,none⟩))) c→c=W.heap.size:=fun c hc=>by
  unfold Sb7 at hc
  rw[put_getD hd,if_pos rfl] at hc
  simp only[Value.pointer.injEq,Option.some.injEq,Addr.mk.injEq,and_true] at hc
  exact hc.symm
 have hs:Shown W (Sb7 a) (W.alloc o) (Sb7 (a.put (some 7) (.pointer (some ⟨W.heap.size,0,none⟩)))):=shown_more hb fun c hc=>.inr (by rw[hSb c hc];exact Nat.le_refl _)
 have hl':∀k,k≠7→(listed.setIfInBounds 7 true).getD k false=true→listed.getD k false=true:=fun k hk h=>listed_of h (Ne.symm hk)
 have hz:=h.below.size
 refine ⟨h.below.trans (hb.mono hz),fun c hc=>?_,fun hl=>?_,fun hl=>?_,fun hl=>?_,fun hl=>?_,fun hl=>?_⟩
 ·rw[hSb c hc];exact ⟨hz,by simp⟩
 ·have:=hl' 8 (by decide) hl;rw[hu] at this;cases this
 ·rw[hg 52 (by decide)];exact (h.t4 (hl' 4 (by decide) hl)).shown hs hb.size
 ·rw[hg 53 (by decide)]
  obtain ⟨o',l,c,h1,h2⟩:=h.t5 (hl' 5 (by decide) hl)
  exact ⟨o',l,c,h1,h2.shown hs hb.size⟩
 ·rw[hg 54 (by decide)];exact (h.t6 (hl' 6 (by decide) hl)).shown hs hb.size
 ·have:=hl' 8 (by decide) hl;rw[hu] at this;cases this
theorem SjP.set (h:SjP W0 x y listed a W) {b:Nat} (hS:Sb7 a b) (hl7:listed.getD 7 false=true) (d0 d1 d2 d3:Value) (hp:TgO b (.mk 10 17 [] [x,y]) ((((W.setCell ⟨b,0,none⟩ d0).setCell ⟨b,1,none⟩ d1).setCell ⟨b,2,none⟩ d2).setCell ⟨b,3,none⟩ d3)):SjP W0 x y (listed.setIfInBounds 8 true) (a.put none undef) ((((W.setCell ⟨b,0,none⟩ d0).setCell ⟨b,1,none⟩ d1).setCell ⟨b,2,none⟩ d2).setCell ⟨b,3,none⟩ d3):=by
 have ht:=set4_turned W (S:=fun c=>c=b) (b:=b) rfl d0 d1 d2 d3
 have hs:Shown W (Sb7 a) ((((W.setCell ⟨b,0,none⟩ d0).setCell ⟨b,1,none⟩ d1).setCell ⟨b,2,none⟩ d2).setCell ⟨b,3,none⟩ d3) (Sb7 a):=Shown.turned ht fun c _ e=>by rw[e];exact hS
 have hz:=ht.size
 have hb:=(h.l7 b hS).1
 refine ⟨h.below.trans (ht.below (fun c e=>by omega) h.below.size),fun c hc=>?_,fun _=>by rw[getD_set_ne false (by decide)];exact hl7,fun hl=>?_,fun hl=>?_,fun hl=>?_,fun _=>⟨b,hS,hp⟩⟩
 ·have:=h.l7 c hc
  exact ⟨this.1,Nat.lt_of_lt_of_le this.2 hz⟩
 ·exact (h.t4 (listed_of hl (by decide))).shown hs hz
 ·obtain ⟨o,l,c,h1,h2⟩:=h.t5 (listed_of hl (by decide))
  exact ⟨o,l,c,h1,h2.shown hs hz⟩
 ·exact (h.t6 (listed_of hl (by decide))).shown hs hz
end
end
end Go.Proofs.YtgbibibmpoekiaaGreatDoor
