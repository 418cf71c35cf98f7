/-
  What the proofs lean on: Shp1, Shp2, Shp3, FewA, Walks2, Hide, Fd3.
-/
import Derived.Deep.LoopGhost
import Derived.OwnWalk
import Derived.IntWalk
import Derived.Laws.OwnMore
import Derived.BigRegion
import Derived.Test.YtgbibibmpoekiaaGreatDoorShfA01
import Derived.Test.YtgbibibmpoekiaaGreatDoorShfA04
import Derived.Test.YtgbibibmpoekiaaGreatDoorShfA07
import Derived.Test.YtgbibibmpoekiaaGreatDoorShfA08
import Derived.Test.YtgbibibmpoekiaaGreatDoorShfA10
import Derived.Test.YtgbibibmpoekiaaGreatDoorShfA11
set_option maxRecDepth 100000
set_option maxHeartbeats 16000000
namespace Go.Proofs.YtgbibibmpoekiaaGreatDoor
section
open Go Go.RowKit
theorem shape_7 (w:World):Calls Tryz.prog 61 #[.int .i64 7] w fun e w'=>e=.returned (.tuple #[.agg #[.int .i64 0,.int .i64 0,.int .i64 0,.bool false,.bool true],.bool true])∧Below w.heap.size w w':=by
 go_enter Tryz.func61,Tryz.ntmps61
 go_wp2_with fail
 exact bodyPost_ret (v:=.tuple #[.agg #[.int .i64 0,.int .i64 0,.int .i64 0,.bool false,.bool true],.bool true]) (by simp[results,Tryz.results61,go_sem]) rfl ⟨rfl,Below.one _ _⟩
theorem shape_8 (w:World):Calls Tryz.prog 61 #[.int .i64 8] w fun e w'=>e=.returned (.tuple #[.agg #[.int .i64 1,.int .i64 3,.int .i64 0,.bool false,.bool true],.bool true])∧Below w.heap.size w w':=by
 go_enter Tryz.func61,Tryz.ntmps61
 go_wp2_with fail
 exact bodyPost_ret (v:=.tuple #[.agg #[.int .i64 1,.int .i64 3,.int .i64 0,.bool false,.bool true],.bool true]) (by simp[results,Tryz.results61,go_sem]) rfl ⟨rfl,Below.one _ _⟩
theorem shape_9 (w:World):Calls Tryz.prog 61 #[.int .i64 9] w fun e w'=>e=.returned (.tuple #[.agg #[.int .i64 1,.int .i64 3,.int .i64 0,.bool false,.bool true],.bool true])∧Below w.heap.size w w':=by
 go_enter Tryz.func61,Tryz.ntmps61
 go_wp2_with fail
 exact bodyPost_ret (v:=.tuple #[.agg #[.int .i64 1,.int .i64 3,.int .i64 0,.bool false,.bool true],.bool true]) (by simp[results,Tryz.results61,go_sem]) rfl ⟨rfl,Below.one _ _⟩
theorem shape_12 (w:World):Calls Tryz.prog 61 #[.int .i64 12] w fun e w'=>e=.returned (.tuple #[.agg #[.int .i64 1,.int .i64 3,.int .i64 1,.bool false,.bool false],.bool true])∧Below w.heap.size w w':=by
 go_enter Tryz.func61,Tryz.ntmps61
 go_wp2_with fail
 exact bodyPost_ret (v:=.tuple #[.agg #[.int .i64 1,.int .i64 3,.int .i64 1,.bool false,.bool false],.bool true]) (by simp[results,Tryz.results61,go_sem]) rfl ⟨rfl,Below.one _ _⟩
theorem shape_13 (w:World):Calls Tryz.prog 61 #[.int .i64 13] w fun e w'=>e=.returned (.tuple #[.agg #[.int .i64 1,.int .i64 3,.int .i64 0,.bool false,.bool false],.bool true])∧Below w.heap.size w w':=by
 go_enter Tryz.func61,Tryz.ntmps61
 go_wp2_with fail
 exact bodyPost_ret (v:=.tuple #[.agg #[.int .i64 1,.int .i64 3,.int .i64 0,.bool false,.bool false],.bool true]) (by simp[results,Tryz.results61,go_sem]) rfl ⟨rfl,Below.one _ _⟩
theorem shape_14 (w:World):Calls Tryz.prog 61 #[.int .i64 14] w fun e w'=>e=.returned (.tuple #[.agg #[.int .i64 1,.int .i64 1,.int .i64 1,.bool false,.bool false],.bool true])∧Below w.heap.size w w':=by
 go_enter Tryz.func61,Tryz.ntmps61
 go_wp2_with fail
 exact bodyPost_ret (v:=.tuple #[.agg #[.int .i64 1,.int .i64 1,.int .i64 1,.bool false,.bool false],.bool true]) (by simp[results,Tryz.results61,go_sem]) rfl ⟨rfl,Below.one _ _⟩
theorem shape_10 (w:World):Calls Tryz.prog 61 #[.int .i64 10] w fun e w'=>e=.returned (.tuple #[.agg #[.int .i64 2,.int .i64 3,.int .i64 0,.bool true,.bool false],.bool true])∧Below w.heap.size w w':=by
 go_enter Tryz.func61,Tryz.ntmps61
 go_wp2_with fail
 exact bodyPost_ret (v:=.tuple #[.agg #[.int .i64 2,.int .i64 3,.int .i64 0,.bool true,.bool false],.bool true]) (by simp[results,Tryz.results61,go_sem]) rfl ⟨rfl,Below.one _ _⟩
end
section
open Go Go.RowKit
theorem shape_15 (w:World):Calls Tryz.prog 61 #[.int .i64 15] w fun e w'=>e=.returned (.tuple #[.agg #[.int .i64 2,.int .i64 3,.int .i64 1,.bool false,.bool false],.bool true])∧Below w.heap.size w w':=by
 go_enter Tryz.func61,Tryz.ntmps61
 go_wp2_with fail
 exact bodyPost_ret (v:=.tuple #[.agg #[.int .i64 2,.int .i64 3,.int .i64 1,.bool false,.bool false],.bool true]) (by simp[results,Tryz.results61,go_sem]) rfl ⟨rfl,Below.one _ _⟩
theorem shape_16 (w:World):Calls Tryz.prog 61 #[.int .i64 16] w fun e w'=>e=.returned (.tuple #[.agg #[.int .i64 2,.int .i64 3,.int .i64 1,.bool false,.bool false],.bool true])∧Below w.heap.size w w':=by
 go_enter Tryz.func61,Tryz.ntmps61
 go_wp2_with fail
 exact bodyPost_ret (v:=.tuple #[.agg #[.int .i64 2,.int .i64 3,.int .i64 1,.bool false,.bool false],.bool true]) (by simp[results,Tryz.results61,go_sem]) rfl ⟨rfl,Below.one _ _⟩
theorem shape_17 (w:World):Calls Tryz.prog 61 #[.int .i64 17] w fun e w'=>e=.returned (.tuple #[.agg #[.int .i64 2,.int .i64 3,.int .i64 2,.bool false,.bool false],.bool true])∧Below w.heap.size w w':=by
 go_enter Tryz.func61,Tryz.ntmps61
 go_wp2_with fail
 exact bodyPost_ret (v:=.tuple #[.agg #[.int .i64 2,.int .i64 3,.int .i64 2,.bool false,.bool false],.bool true]) (by simp[results,Tryz.results61,go_sem]) rfl ⟨rfl,Below.one _ _⟩
theorem shape_18 (w:World):Calls Tryz.prog 61 #[.int .i64 18] w fun e w'=>e=.returned (.tuple #[.agg #[.int .i64 2,.int .i64 3,.int .i64 2,.bool false,.bool false],.bool true])∧Below w.heap.size w w':=by
 go_enter Tryz.func61,Tryz.ntmps61
 go_wp2_with fail
 exact bodyPost_ret (v:=.tuple #[.agg #[.int .i64 2,.int .i64 3,.int .i64 2,.bool false,.bool false],.bool true]) (by simp[results,Tryz.results61,go_sem]) rfl ⟨rfl,Below.one _ _⟩
theorem shape_19 (w:World):Calls Tryz.prog 61 #[.int .i64 19] w fun e w'=>e=.returned (.tuple #[.agg #[.int .i64 3,.int .i64 3,.int .i64 0,.bool true,.bool false],.bool true])∧Below w.heap.size w w':=by
 go_enter Tryz.func61,Tryz.ntmps61
 go_wp2_with fail
 exact bodyPost_ret (v:=.tuple #[.agg #[.int .i64 3,.int .i64 3,.int .i64 0,.bool true,.bool false],.bool true]) (by simp[results,Tryz.results61,go_sem]) rfl ⟨rfl,Below.one _ _⟩
end
section
open Go Go.RowKit
theorem shape_20 (w:World):Calls Tryz.prog 61 #[.int .i64 20] w fun e w'=>e=.returned (.tuple #[.agg #[.int .i64 3,.int .i64 3,.int .i64 0,.bool false,.bool false],.bool true])∧Below w.heap.size w w':=by
 go_enter Tryz.func61,Tryz.ntmps61
 go_wp2_with fail
 exact bodyPost_ret (v:=.tuple #[.agg #[.int .i64 3,.int .i64 3,.int .i64 0,.bool false,.bool false],.bool true]) (by simp[results,Tryz.results61,go_sem]) rfl ⟨rfl,Below.one _ _⟩
theorem shape_21 (w:World):Calls Tryz.prog 61 #[.int .i64 21] w fun e w'=>e=.returned (.tuple #[.agg #[.int .i64 3,.int .i64 3,.int .i64 0,.bool false,.bool false],.bool true])∧Below w.heap.size w w':=by
 go_enter Tryz.func61,Tryz.ntmps61
 go_wp2_with fail
 exact bodyPost_ret (v:=.tuple #[.agg #[.int .i64 3,.int .i64 3,.int .i64 0,.bool false,.bool false],.bool true]) (by simp[results,Tryz.results61,go_sem]) rfl ⟨rfl,Below.one _ _⟩
theorem shape_22 (w:World):Calls Tryz.prog 61 #[.int .i64 22] w fun e w'=>e=.returned (.tuple #[.agg #[.int .i64 3,.int .i64 3,.int .i64 1,.bool true,.bool false],.bool true])∧Below w.heap.size w w':=by
 go_enter Tryz.func61,Tryz.ntmps61
 go_wp2_with fail
 exact bodyPost_ret (v:=.tuple #[.agg #[.int .i64 3,.int .i64 3,.int .i64 1,.bool true,.bool false],.bool true]) (by simp[results,Tryz.results61,go_sem]) rfl ⟨rfl,Below.one _ _⟩
theorem shape_no (n:Int) (h:n<0∨22<n) (w:World):Calls Tryz.prog 61 #[.int .i64 n] w fun e w'=>e=.returned (.tuple #[.agg #[.int .i64 0,.int .i64 0,.int .i64 0,.bool false,.bool false],.bool false])∧Below w.heap.size w w':=by
 have f0:(n==0)=false:=by simp;omega
 have f1:(n==1)=false:=by simp;omega
 have f2:(n==2)=false:=by simp;omega
 have f3:(n==3)=false:=by simp;omega
 have f4:(n==4)=false:=by simp;omega
 have f5:(n==5)=false:=by simp;omega
 have f6:(n==6)=false:=by simp;omega
 have f7:(n==7)=false:=by simp;omega
 have f8:(n==8)=false:=by simp;omega
 have f9:(n==9)=false:=by simp;omega
 have f10:(n==10)=false:=by simp;omega
 have f11:(n==11)=false:=by simp;omega
 have f12:(n==12)=false:=by simp;omega
 have f13:(n==13)=false:=by simp;omega
 have f14:(n==14)=false:=by simp;omega
 have f15:(n==15)=false:=by simp;omega
 have f16:(n==16)=false:=by simp;omega
 have f17:(n==17)=false:=by simp;omega
 have f18:(n==18)=false:=by simp;omega
 have f19:(n==19)=false:=by simp;omega
 have f20:(n==20)=false:=by simp;omega
 have f21:(n==21)=false:=by simp;omega
 have f22:(n==22)=false:=by simp;omega
 clear h
 go_enter Tryz.func61,Tryz.ntmps61
 go_wp2_with fail
 exact bodyPost_ret (v:=.tuple #[.agg #[.int .i64 0,.int .i64 0,.int .i64 0,.bool false,.bool false],.bool false]) (by simp[results,Tryz.results61,go_sem]) rfl ⟨rfl,Below.one _ _⟩
end
section
open Go.RowKit
theorem fewLA_iff:∀(l:List Dat) (left:Int),0≤left→(0≤Dat.fewL l left↔(Dat.allL l:Int)≤left)
 | [],left,h=>by simp[Dat.fewL,Dat.allL,h]
 | x::l,left,h=>by
  have hb:=Dat.few_both x left
  have hi:=Dat.few_iff x left
  rw[Dat.fewL,if_pos h,Dat.allL]
  by_cases hf:0≤Dat.few x left
  ·rw[fewLA_iff l _ hf,hb.1 (hi.1 hf)]
   omega
  ·have h1:¬(Dat.all x:Int)≤left:=fun hh=>hf (hi.2 hh)
   rw[fewL_neg _ hf]
   constructor
   ·intro hh;exact absurd hh hf
   ·intro hh;omega
theorem rfewAll_to (l:List Dat) (sl:Value) (left:Int) (B:Nat) (w:World) (hv:RepS w B l sl) (hB:B≤w.heap.size) (h0:0≤left) (h1:left≤100000) (r:Bool) (hr:decide ((Dat.allL l:Int)≤left)=r) :
  Calls Tryz.prog 15 #[sl,.int .i64 left] w fun e w'=>e=.returned (.bool r)∧Below w.heap.size w w':=by
 obtain ⟨o,len,cap,rfl,hl,hcap,hmax,hc⟩:=hv
 have HV:=Lib.hid hc
 have HL:=Lib.hid hl
 have HR:=Lib.hid (show decide (0≤Dat.fewL l left)=r by rw[←hr,Bool.eq_iff_iff];simp only[decide_eq_true_eq];exact fewLA_iff l left h0)
 clear hc hl hr
 go_enter Tryz.func15,Tryz.ntmps15
 go_wp2_with fail
 go_loopg [1,5] len (fun g a i wr=>∃(cur:Int) (j:Nat),g=len-j∧a=.int .i64 cur∧i=.int .i64 j∧j≤len∧-1≤cur∧cur≤100000∧Hid (Dat.fewL (l.drop j) cur=Dat.fewL l left)∧Below w.heap.size w wr)
 case atStart=>exact ⟨left,0,rfl,rfl,rfl,by omega,by omega,by omega,rfl,Below.refl _ _⟩
 case round=>
  obtain ⟨cur,j,rfl,rfl,rfl,hj,hc1,hc2,HF,hb⟩:=hrel
  have HB:=Lib.hid hb
  have hsz:=hb.size
  clear hb
  by_cases hjl:j<len
  ·by_cases hcur:0≤cur
   ·obtain ⟨x,hx⟩:∃x,l[j]?=some x:=⟨_,List.getElem?_eq_getElem (by rw[←HL.out];exact hjl)⟩
    obtain ⟨b1,off1,k1,n1,d1,s1,l1,o1,len1,cap1,ho1,hx1,e0,e1,e2,e3,e4,er⟩:=part_at2 HV.out (HB.out.mono hB) hx
    subst ho1 hx1
    have HX:=Lib.hid hx
    have ER:=Lib.hid er
    have HF2:=Lib.hid ((fewL_step hx hcur).symm.trans HF.out)
    have g1:=few_ge (.mk k1 n1 d1 s1 l1) cur hcur
    have g2:=Dat.few_le (.mk k1 n1 d1 s1 l1) cur
    obtain ⟨y,hy⟩:∃y,Dat.few (.mk k1 n1 d1 s1 l1) cur=y:=⟨_,rfl⟩
    rw[hy] at g1 g2 HF2
    have HC:=Lib.hid (rfew_any _ _ cur B wr ER.out (by omega) hcur (by omega))
    rw[hy] at HC
    clear hx er hy
    go_wp2_with fail
    refine HC.out.mono ?_
    rintro e1 w1 ⟨rfl,hb1⟩
    have HB1:=Lib.hid (Below.next HB.out hb1)
    clear hb1
    go_wp2_with fail
    go_roundg (len-(j+1))
    case measure=>omega
    case rel=>exact ⟨y,j+1,rfl,rfl,by go_num,by omega,by omega,by omega,HF2,HB1.out⟩
   ·have HQ:=Lib.hid (show decide (0≤cur)=r by rw[←HR.out,←HF.out,fewL_neg _ hcur])
    obtain rfl:false=r:=by rw[←HQ.out,decide_eq_false hcur]
    go_wp2_with fail
    go_ret
    exact ⟨rfl,HB.out⟩
  ·obtain rfl:len=j:=by omega
   have HQ:=Lib.hid (show decide (0≤cur)=r by
     rw[←HR.out,←HF.out,List.drop_eq_nil_of_le (by rw[←HL.out];exact Nat.le_refl _)];rfl)
   by_cases hcur:0≤cur
   ·obtain rfl:true=r:=by rw[←HQ.out,decide_eq_true hcur]
    go_wp2_with fail
    go_ret
    exact ⟨rfl,HB.out⟩
   ·obtain rfl:false=r:=by rw[←HQ.out,decide_eq_false hcur]
    go_wp2_with fail
    go_ret
    exact ⟨rfl,HB.out⟩
end
section
open Go.RowKit
end
section
open Go.RowKit
end
section
open Go.RowKit
def Five (w:World) (b:Nat) (v0 v1 v2 v3 v4:Value):Prop:=
 w.cell? ⟨b,0,none⟩=some v0∧w.cell? ⟨b,1,none⟩=some v1∧w.cell? ⟨b,2,none⟩=some v2∧w.cell? ⟨b,3,none⟩=some v3∧w.cell? ⟨b,4,none⟩=some v4
end
section
open Go Go.RowKit
noncomputable def hide (W:World) (S:Nat→Prop):World:={ W with heap:=W.heap.mapIdx fun i o=>@ite _ (S i) (Classical.propDecidable _) (.deferred none) o }
theorem hide_heap {W:World} {S:Nat→Prop} {c:Nat} (h:¬S c):(hide W S).heap[c]?=W.heap[c]?:=by
 simp only[hide,Array.getElem?_mapIdx]
 simp only[if_neg h,Option.map_id_fun',id]
theorem hide_size (W:World) (S:Nat→Prop):(hide W S).heap.size=W.heap.size:=by simp[hide]
theorem hide_other {W:World} {S:Nat→Prop} {c o:Nat} (h:¬S c):(hide W S).cell? ⟨c,o,none⟩=W.cell? ⟨c,o,none⟩:=by
 unfold World.cell?
 rw[show (hide W S).heap[({ block:=c,off:=o,spot:=none }:Addr).block]?=W.heap[c]? from hide_heap h]
theorem hide_same {W:World} {S:Nat→Prop} {c o:Nat} (h:S c):(hide W S).cell? ⟨c,o,none⟩=none:=by
 have e:(hide W S).heap[c]?=W.heap[c]?.map fun _=>.deferred none:=by
  simp only[hide,Array.getElem?_mapIdx]
  simp only[if_pos h]
 unfold World.cell?
 rw[show (hide W S).heap[({ block:=c,off:=o,spot:=none }:Addr).block]?=W.heap[c]?.map fun _=>.deferred none from e]
 cases W.heap[c]?<;>rfl
theorem hide_some {W:World} {S:Nat→Prop} {c o:Nat} {v:Value} (h:(hide W S).cell? ⟨c,o,none⟩=some v):¬S c∧W.cell? ⟨c,o,none⟩=some v:=by
 by_cases hc:S c
 ·rw[hide_same hc] at h;cases h
 ·exact ⟨hc,by rwa[hide_other hc] at h⟩
def Shown (W:World) (S:Nat→Prop) (W':World) (S':Nat→Prop):Prop:=∀c o u,¬S c→W.cell? ⟨c,o,none⟩=some u→¬S' c∧W'.cell? ⟨c,o,none⟩=some u
theorem Shown.cells {W W':World} {S S':Nat→Prop} (h:Shown W S W' S'):∀c o u,(hide W S).cell? ⟨c,o,none⟩=some u→(hide W' S').cell? ⟨c,o,none⟩=some u:=fun c o u hc=>by
 obtain ⟨h1,h2⟩:=hide_some hc
 obtain ⟨h3,h4⟩:=h c o u h1 h2
 rw[hide_other h3];exact h4
theorem Shown.trans {A B C:World} {S T U:Nat→Prop} (h:Shown A S B T) (h':Shown B T C U):Shown A S C U:=fun c o u hc hu=>(h c o u hc hu).elim fun h1 h2=>h' c o u h1 h2
theorem Shown.less (W:World) {S S':Nat→Prop} (h:∀b,b<W.heap.size→S' b→S b):Shown W S W S':=fun c _o _u hc hu=>⟨fun hs=>hc (h c (cell_lt hu) hs),hu⟩
theorem Shown.turned {W W':World} {S T:Nat→Prop} (h:Turned T W W') (hT:∀b,b<W.heap.size→T b→S b):Shown W S W' S:=fun c o u hc hu=>by
 have hlt:=cell_lt hu
 refine ⟨hc,?_⟩
 unfold World.cell? at hu ⊢
 rw[show W'.heap[({ block:=c,off:=o,spot:=none }:Addr).block]?=W.heap[c]? from h.block c hlt fun ht=>hc (hT c hlt ht)]
 exact hu
theorem Shown.below {W W':World} {S:Nat→Prop} (h:Below W.heap.size W W'):Shown W S W' S:=Shown.turned (T:=fun _=>False) (Turned.of_below h) fun _ _ h=>h.elim
theorem RepD.shown {W W':World} {S S':Nat→Prop} {B B':Nat} {x:Dat} {v:Value} (h:RepD (hide W S) B x v) (hs:Shown W S W' S') (hB:B≤B'):RepD (hide W' S') B' x v:=((rep_mono hs.cells).1 _ _ h).wider hB
theorem RepS.shown {W W':World} {S S':Nat→Prop} {B B':Nat} {l:List Dat} {v:Value} (h:RepS (hide W S) B l v) (hs:Shown W S W' S') (hB:B≤B'):RepS (hide W' S') B' l v:=(RepS.mono hs.cells h).wider hB
theorem CellsD.shown {W W':World} {S S':Nat→Prop} {B B':Nat} {l:List Dat} {xs:List Value} (h:CellsD (hide W S) B l xs) (hs:Shown W S W' S') (hB:B≤B'):CellsD (hide W' S') B' l xs:=h.mono fun _ _ hx=>hx.shown hs hB
theorem RepD.unhide {W:World} {S:Nat→Prop} {B:Nat} {x:Dat} {v:Value} (h:RepD (hide W S) B x v):RepD W B x v:=(rep_mono fun _ _ _ h=>(hide_some h).2).1 _ _ h
theorem RepS.unhide {W:World} {S:Nat→Prop} {B:Nat} {l:List Dat} {v:Value} (h:RepS (hide W S) B l v):RepS W B l v:=RepS.mono (fun _ _ _ h=>(hide_some h).2) h
theorem RepS.dug {W:World} {S:Nat→Prop} {B:Nat} {l:List Dat} {v:Value} (h:RepS W B l v) (hS:∀b,S b→B≤b):RepS (hide W S) B l v:=by
 obtain ⟨o,len,cap,rfl,h1,h2,h3,h4⟩:=h
 refine ⟨o,len,cap,rfl,h1,h2,h3,?_⟩
 cases o with
 | none=>exact h4
 | some a=>
  refine ⟨h4.1,?_⟩
  by_cases hl:l=[]
  ·subst hl;rw[RepC];trivial
  ·exact (rep_kept fun c o hc=>hide_other fun hs=>by have:=hS c hs;omega).2 _ _ _ (h4.1 hl).2 h4.2
theorem row_hide {W:World} {S:Nat→Prop} {base n size:Nat} {e:TypeId} {v:Value} {xs:List Value} (h:W.ownsRow base e size v n xs) (hS:∀g,v.ownBlock=some g→¬S g):(hide W S).ownsRow base e size v n xs:=by
 refine ⟨h.1,?_⟩
 rcases h.2 with h' | ⟨g,cap,cur,rfl,h2,h3,h4⟩
 ·exact .inl h'
 ·exact .inr ⟨g,cap,cur,rfl,h2,by rw[hide_heap (hS g rfl)];exact h3,h4⟩
end
section
open Go Go.RowKit
namespace Fd
open Trm
theorem putL_len (b:List (Int × Trm)):∀l:List Trm,(putL b l).length=l.length
 | []=>rfl
 | x::l=>by rw[putL,List.length_cons,List.length_cons,putL_len b l]
theorem look_mem {b:List (Int × Trm)} {n:Int} {x:Trm} (hx:b.lookup n=some x):∃k,(k,x)∈b:=by
 induction b with
 | nil=>cases hx
 | cons p b ih=>
  rw[List.lookup_cons] at hx
  split at hx
  ·cases hx;exact ⟨p.1,by simp⟩
  ·obtain ⟨k,hk⟩:=ih hx
   exact ⟨k,List.mem_cons_of_mem _ hk⟩
theorem prim_more (F:Int→List Dat→Option Dat) (n:Int) (l:List Trm) (cs:List Dat):cs <+: (prim F n l cs).2:=by
 unfold prim
 split
 ·exact List.prefix_rfl
 ·split
  ·exact List.prefix_rfl
  ·exact List.prefix_append _ _
theorem post_more (F:Int→List Dat→Option Dat) (op n:Int) (v:List Int) (t:List Trm) (cs:List Dat):cs <+: (post F op n v t cs).2:=by
 unfold post
 repeat' split
 all_goals first | exact List.prefix_rfl | exact prim_more ..
theorem term_more (F:Int→List Dat→Option Dat):∀(x:Trm) (cs:List Dat),cs <+: (term F x cs).2:=by
 intro x
 induction x using Trm.ind with
 | h o n v t ih=>
  intro cs
  have key:∀(l:List Trm) (cs:List Dat),(∀y∈l,∀cs,cs <+: (term F y cs).2)→cs <+: (termL F l cs).2:=fun l=>by
   induction l with
   | nil=>intro cs _;exact List.prefix_rfl
   | cons y l ihl=>
    intro cs hy
    rw[termL]
    exact (hy y (by simp) cs).trans (ihl (term F y cs).2 fun z hz=>hy z (List.mem_cons_of_mem _ hz))
  rw[term]
  exact (key t cs ih).trans (post_more F o n v _ _)
end Fd
end
end Go.Proofs.YtgbibibmpoekiaaGreatDoor
