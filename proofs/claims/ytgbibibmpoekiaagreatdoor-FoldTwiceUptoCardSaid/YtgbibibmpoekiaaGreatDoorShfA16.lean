/-
  What the proofs lean on: Eqc, RAlike, PgOpU.
-/
import Derived.Deep.LoopGhost
import Derived.Test.YtgbibibmpoekiaaGreatDoorShfA06
import Derived.Test.YtgbibibmpoekiaaGreatDoorShfA09
import Derived.Test.YtgbibibmpoekiaaGreatDoorShfA10
import Derived.Test.YtgbibibmpoekiaaGreatDoorShfA11
import Derived.Test.YtgbibibmpoekiaaGreatDoorShfA12
set_option maxRecDepth 100000
set_option maxHeartbeats 16000000
namespace Go.Proofs.YtgbibibmpoekiaaGreatDoor
section
open Go.RowKit
theorem eqcL_bd (l:List Dat) (ih:∀x∈l,∀(y:Dat) (left:Int),0≤left→-1≤(Prims.eqc x y left).2∧(Prims.eqc x y left).2≤left∧((Prims.eqc x y left).1=true→0≤(Prims.eqc x y left).2)) :
  ∀(m:List Dat) (left:Int),0≤left→-1≤(Prims.eqcL l m left).2∧(Prims.eqcL l m left).2≤left∧((Prims.eqcL l m left).1=true→0≤(Prims.eqcL l m left).2):=by
 induction l with
 | nil=>intro m left h;rw[Prims.eqcL];exact ⟨by omega,Int.le_refl _,fun _=>h⟩;all_goals (intros;simp_all)
 | cons x l ihl=>
  intro m left h
  cases m with
  | nil=>rw[Prims.eqcL];exact ⟨by omega,Int.le_refl _,fun _=>h⟩;all_goals (intros;simp_all)
  | cons y m=>
   have h1:=ih x (by simp) y left h
   rw[Prims.eqcL]
   split
   ·rename_i ht
    have h2:=ihl (fun x hx=>ih x (by simp[hx])) m (Prims.eqc x y left).2 (h1.2.2 ht)
    exact ⟨h2.1,Int.le_trans h2.2.1 h1.2.1,h2.2.2⟩
   ·exact ⟨h1.1,h1.2.1,fun h=>by cases h⟩
theorem eqc_bd:∀(x y:Dat) (left:Int),0≤left→-1≤(Prims.eqc x y left).2∧(Prims.eqc x y left).2≤left∧((Prims.eqc x y left).1=true→0≤(Prims.eqc x y left).2):=by
 intro x
 induction x using Dat.ind with
 | h k n d s l ih=>
  intro y left h
  obtain ⟨k',n',d',s',l'⟩:=y
  rw[Prims.eqc]
  split
  ·exact ⟨by omega,by omega,fun h=>by cases h⟩
  ·rename_i hn
   have hl:0≤left-1:=by omega
   have:=eqcL_bd l ih l' (left-1) hl
   exact ⟨this.1,by omega,this.2.2⟩
def eqcS (l m:List Dat) (left:Int):Bool × Int:=if l.length=m.length then Prims.eqcL l m left else (false,left)
theorem eqc_mk (k n d k' n' d':Int) (s s':ByteArray) (l l':List Dat) (left:Int) :
  Prims.eqc (.mk k n d s l) (.mk k' n' d' s' l') left=if left≤0∨¬(k=k'∧n=n'∧d=d'∧s=s') then (false,left-1) else eqcS l l' (left-1):=by
 rw[Prims.eqc,eqcS]
 by_cases h0:left≤0
 ·simp[h0]
 by_cases h1:k=k'∧n=n'∧d=d'∧s=s'
 ·by_cases h2:l.length=l'.length
  ·obtain ⟨rfl,rfl,rfl,rfl⟩:=h1;simp[h0,h2]
  ·obtain ⟨rfl,rfl,rfl,rfl⟩:=h1;simp[h0,h2]
 ·rw[if_pos (.inr (fun hh=>h1 ⟨hh.1,hh.2.1,hh.2.2.1,hh.2.2.2.1⟩)),if_pos (.inr h1)]
theorem eqcL_step {l m:List Dat} {j:Nat} {x y:Dat} {c:Int} (hx:l[j]?=some x) (hy:m[j]?=some y) :
  Prims.eqcL (l.drop j) (m.drop j) c=if (Prims.eqc x y c).1=true then Prims.eqcL (l.drop (j+1)) (m.drop (j+1)) (Prims.eqc x y c).2 else (false,(Prims.eqc x y c).2):=by
 obtain ⟨hj,he⟩:=List.getElem?_eq_some_iff.1 hx
 obtain ⟨hj',he'⟩:=List.getElem?_eq_some_iff.1 hy
 rw[List.drop_eq_getElem_cons hj,List.drop_eq_getElem_cons hj',Prims.eqcL,he,he']
theorem equalFuncS_any (F:FuncId) (caps:Array Value) (St:Int→World→Prop) (hSt:∀c w w',St c w→Below w.heap.size w w'→St c w') (l m:List Dat) (sl sm:Value) (B:Nat) (w:World) (c:Int) (R:Bool) (left':Int)
  (hl:RepS w B l sl) (hm:RepS w B m sm) (hB:B≤w.heap.size) (hc0:0≤c) (hc1:c≤1000) (hS:St c w) (hr:eqcS l m (1000-c)=(R,left'))
  (hF:∀(args:Array Value) (w:World),(callFunc F args).run Tryz.prog w=.ok (.enter F args) w)
  (H:∀x∈l,∀y∈m,∀v u w' c,0≤c→c≤1000→RepD w' B x v→RepD w' B y u→B≤w'.heap.size→St c w'→Calls Tryz.prog F (#[v,u]++caps) w' fun e w''=>e=.returned (.bool (Prims.eqc x y (1000-c)).1)∧Below B w' w''∧St (1000-(Prims.eqc x y (1000-c)).2) w'') :
  Calls Tryz.prog 145 #[sl,sm,.func (.func F) #[] caps] w fun e w'=>e=.returned (.bool R)∧Below B w w'∧St (1000-left') w':=by
 obtain ⟨o,len,cap,rfl,hl1,hcap,hmax,hv⟩:=hl
 obtain ⟨o2,len2,cap2,rfl,hm1,hcap2,hmax2,hv2⟩:=hm
 have HR:=Lib.hid hr
 have HV:=Lib.hid hv
 have HV2:=Lib.hid hv2
 have HL:=Lib.hid hl1
 have HM:=Lib.hid hm1
 have HH:=Lib.hid H
 have HS:=Lib.hid hS
 have HST:=Lib.hid hSt
 clear hr hv hv2 hl1 hm1 H hS hSt
 by_cases hne:len=len2
 ·subst hne
  have hnn:((len:Int) != (len:Int))=false:=by simp
  have HR2:=Lib.hid (show Prims.eqcL l m (1000-c)=(R,left') by rw[←HR.out,eqcS,if_pos (by rw[←HL.out,←HM.out])])
  go_enter Tryz.func145,Tryz.ntmps145
  go_wp2
  go_loopw [17] (fun i wr=>∃(j:Nat),i=.int .i64 j∧j≤len∧Hid (∃cj:Int,0≤cj∧cj≤1000∧Prims.eqcL (l.drop j) (m.drop j) (1000-cj)=(R,left')∧St cj wr)∧Below B w wr) (fun i _=>len-(intOf i).toNat)
  case atStart=>exact ⟨0,rfl,by omega,Lib.hid ⟨c,hc0,hc1,by rw[List.drop_zero,List.drop_zero];exact HR2.out,HS.out⟩,Below.refl _ _⟩
  case round=>
   obtain ⟨j,rfl,hj,HA,hb⟩:=hrel
   by_cases hjl:j<len
   ·obtain ⟨x,hx⟩:∃x,l[j]?=some x:=⟨_,List.getElem?_eq_getElem (by rw[←HL.out];exact hjl)⟩
    obtain ⟨y,hy⟩:∃y,m[j]?=some y:=⟨_,List.getElem?_eq_getElem (by rw[←HM.out];exact hjl)⟩
    obtain ⟨b,off,k',n',d',s',l',o',len',cap',ho,hxe,e0,e1,e2,e3,e4,er⟩:=part_at2 HV.out hb hx
    obtain ⟨b2,off2,k2,n2,d2,s2,l2,o2',len2,cap2',ho2,hye,f0,f1,f2,f3,f4,fr⟩:=part_at2 HV2.out hb hy
    subst ho hxe ho2 hye
    have HX:=Lib.hid hx
    have HY:=Lib.hid hy
    have ER:=Lib.hid er
    have FR:=Lib.hid fr
    clear hx hy er fr
    have hs:=hb.size
    have hw1:b<wr.heap.size:=cell_lt e0
    have hw2:b2<wr.heap.size:=cell_lt f0
    have hw1':b<wr.heap.size+1:=by omega
    have hw2':b2<wr.heap.size+1:=by omega
    obtain ⟨cj,hcj0,hcj1,hcR,hcS⟩:=HA.out
    have bds:=eqc_bd (.mk k' n' d' s' l') (.mk k2 n2 d2 s2 l2) (1000-cj) (by omega)
    have HBD:=Lib.hid bds
    have HCR:=Lib.hid ((eqcL_step HX.out HY.out).symm.trans hcR)
    have HCS:=Lib.hid hcS
    have HK:=Lib.hid (fun X Y=>((Below.refl wr.heap.size wr).alloc (Nat.le_refl _) X).alloc (by simp) Y)
    have hBr:B≤wr.heap.size:=by omega
    have HC:=Lib.hid (fun X Y=>HH.out _ (List.mem_of_getElem? HX.out) _ (List.mem_of_getElem? HY.out) _ _ ((wr.alloc X).alloc Y) cj hcj0 hcj1 (ER.out.kept ((HK.out X Y).mono hBr)) (FR.out.kept ((HK.out X Y).mono hBr)) (by simp;omega) (HST.out _ _ _ HCS.out (HK.out X Y)))
    clear bds hcR hcS HA
    obtain ⟨⟨q,lq⟩,hq⟩:∃q,Prims.eqc (.mk k' n' d' s' l') (.mk k2 n2 d2 s2 l2) (1000-cj)=q:=⟨_,rfl⟩
    rw[hq] at HC HBD HCR
    clear hq
    cases q with
    | true=>
     have HT:=Lib.hid (show Prims.eqcL (l.drop (j+1)) (m.drop (j+1)) lq=(R,left') by rw[←HCR.out];simp)
     have hb1:=HBD.out.1
     have hb2:=HBD.out.2.1
     have hb3:0≤lq:=HBD.out.2.2 rfl
     clear HCR HBD
     go_wp2_with (first | ((with_reducible refine (HC.out _ _).mono ?_);rintro e' w1 ⟨rfl,hb1,hst⟩))
     go_roundw
     case rel=>
      exact ⟨j+1,by go_num,by omega,Lib.hid ⟨1000-lq,by omega,by omega,by rw[show (1000:Int)-(1000-lq)=lq by omega];exact HT.out,hst⟩,(hb.trans ((HK.out _ _).mono hBr)).trans hb1⟩
     case measure=>simp[intOf];omega
    | false=>
     have HT:=Lib.hid (show (false,lq)=(R,left') by rw[←HCR.out];simp)
     clear HCR HBD
     go_wp2_with (first | ((with_reducible refine (HC.out _ _).mono ?_);rintro e' w1 ⟨rfl,hb1,hst⟩))
     go_ret
     have hT:=HT.out
     simp only[Prod.mk.injEq] at hT
     obtain ⟨rfl,rfl⟩:=hT
     exact ⟨rfl,(hb.trans ((HK.out _ _).mono hBr)).trans hb1,hst⟩
   ·obtain ⟨cj,hcj0,hcj1,hcR,hcS⟩:=HA.out
    obtain rfl:j=len:=by omega
    have HT:=Lib.hid (show (true,1000-cj)=(R,left') by rw[←hcR,List.drop_of_length_le (by rw[←HL.out];exact Nat.le_refl _),Prims.eqcL];intros;simp_all)
    have HCS:=Lib.hid hcS
    clear hcR hcS HA
    go_wp2
    go_ret
    have hT:=HT.out
    simp only[Prod.mk.injEq] at hT
    obtain ⟨rfl,rfl⟩:=hT
    exact ⟨rfl,hb,by rw[show (1000:Int)-(1000-cj)=cj by omega];exact HCS.out⟩
 ·have hnn:((len:Int) != (len2:Int))=true:=by simp;omega
  have HT:=Lib.hid (show (false,1000-c)=(R,left') by rw[←HR.out,eqcS,if_neg (by rw[←HL.out,←HM.out];exact hne)])
  go_enter Tryz.func145,Tryz.ntmps145
  go_wp2
  go_ret
  have hT:=HT.out
  simp only[Prod.mk.injEq] at hT
  obtain ⟨rfl,rfl⟩:=hT
  exact ⟨rfl,Below.refl _ _,by rw[show (1000:Int)-(1000-c)=c by omega];exact HS.out⟩
def EqSt (B nb cb:Nat) (c:Int) (w:World):Prop:=B≤nb∧B≤cb∧nb≠cb∧w.heap[nb]?=some (.cells #[.int .i64 c] 3)∧w.heap[cb]?=some (.cells #[.func (.func 144) #[] #[.pointer (some ⟨nb,0,none⟩),.pointer (some ⟨cb,0,none⟩)]] 61)
theorem EqSt.next {B nb cb:Nat} {c:Int} {w w':World} (h:EqSt B nb cb c w) (hb:Below w.heap.size w w'):EqSt B nb cb c w':=
 ⟨h.1,h.2.1,h.2.2.1,(hb.block _ (Array.getElem?_eq_some_iff.1 h.2.2.2.1).1).trans h.2.2.2.1,(hb.block _ (Array.getElem?_eq_some_iff.1 h.2.2.2.2).1).trans h.2.2.2.2⟩
theorem EqSt.set {B nb cb:Nat} {c:Int} {w:World} (h:EqSt B nb cb c w) (c':Int):EqSt B nb cb c' (w.setCell ⟨nb,0,none⟩ (.int .i64 c')):=by
 refine ⟨h.1,h.2.1,h.2.2.1,?_,(Below.heap_setCell w ⟨nb,0,none⟩ _ cb (fun h1=>h.2.2.1 h1.symm)).trans h.2.2.2.2⟩
 simp only[World.setCell,Array.getElem?_modify,↓reduceIte]
 rw[show w.heap[nb]?=_ from h.2.2.2.1]
 rfl
theorem one_cells {w:World} {b:Nat} {v:Value} {t:TypeId} (h:w.heap[b]?=some (.cells #[v] t)):w.cell? ⟨b,0,none⟩=some v∧w.frozen? ⟨b,0,none⟩=false∧b<w.heap.size:=by
 refine ⟨?_,?_,(Array.getElem?_eq_some_iff.1 h).1⟩
 ·simp[World.cell?,h]
 ·simp[World.frozen?,h]
theorem eqc_no {k n d k' n' d':Int} {s s':ByteArray} {l l':List Dat} {c:Int} {q:Bool × Int} (h:Prims.eqc (.mk k n d s l) (.mk k' n' d' s' l') (1000-c)=q)
  (hno:¬c+1≤1000∨¬k=k'∨¬n=n'∨¬d=d'∨¬s.toList=s'.toList):q=(false,1000-(c+1)):=by
 rw[←h,eqc_mk,if_pos]
 ·rw[show (1000:Int)-c-1=1000-(c+1) by omega]
 ·rcases hno with h | h | h | h | h
  ·left;omega
  ·right;exact fun hh=>h hh.1
  ·right;exact fun hh=>h hh.2.1
  ·right;exact fun hh=>h hh.2.2.1
  ·right;exact fun hh=>h (by rw[hh.2.2.2])
theorem eqc_yes {k n d k' n' d':Int} {s s':ByteArray} {l l':List Dat} {c:Int} {q:Bool × Int} (h:Prims.eqc (.mk k n d s l) (.mk k' n' d' s' l') (1000-c)=q)
  (hc:c+1≤1000) (h0:k=k') (h1:n=n') (h2:d=d') (h3:s.toList=s'.toList):eqcS l l' (1000-(c+1))=q:=by
 have e:s=s':=by
  apply ByteArray.ext;apply Array.ext'
  rw[←ByteArray.toList_eq,←ByteArray.toList_eq];exact h3
 rw[←h,eqc_mk,if_neg,show (1000:Int)-c-1=1000-(c+1) by omega]
 rintro (h | h)
 ·omega
 ·exact h ⟨h0,h1,h2,e⟩
theorem alike1_any:∀(x y:Dat) (v u:Value) (B nb cb:Nat) (c:Int) (w:World),0≤c→c≤1000→RepD w B x v→RepD w B y u→B≤w.heap.size→EqSt B nb cb c w →
  Calls Tryz.prog 144 #[v,u,.pointer (some ⟨nb,0,none⟩),.pointer (some ⟨cb,0,none⟩)] w fun e w'=>e=.returned (.bool (Prims.eqc x y (1000-c)).1)∧Below B w w'∧EqSt B nb cb (1000-(Prims.eqc x y (1000-c)).2) w':=by
 intro x
 induction x using Dat.ind with
 | h k n d s l ih=>
  intro y v u B nb cb c w hc0 hc1 hv hu hB hst
  obtain ⟨k',n',d',s',l'⟩:=y
  obtain ⟨⟨q,lq⟩,hr⟩:∃r,Prims.eqc (.mk k n d s l) (.mk k' n' d' s' l') (1000-c)=r:=⟨_,rfl⟩
  rw[hr]
  have HR:=Lib.hid hr
  obtain ⟨sl,rfl,_,_,_,_,hs⟩:=hv.open
  obtain ⟨sm,rfl,_,_,_,_,hs'⟩:=hu.open
  have HS:=Lib.hid hs
  have HS':=Lib.hid hs'
  have IH:=Lib.hid ih
  have hnb0:=hst.1
  obtain ⟨n0,n1,n2⟩:=one_cells hst.2.2.2.1
  obtain ⟨c0,_,c2⟩:=one_cells hst.2.2.2.2
  have hne:=hst.2.2.1
  have HK:=Lib.hid (fun X Y=>((Below.refl w.heap.size w).alloc (Nat.le_refl _) X).alloc (by simp) Y)
  have HST:=Lib.hid (fun X Y=>((hst.set (c+1)).next (((Below.refl _ (w.setCell ⟨nb,0,none⟩ (.int .i64 (c+1)))).alloc (Nat.le_refl _) X).alloc (by simp) Y)))
  have HB2:=Lib.hid (fun X Y=>((((Below.refl B w).setCell (p:=⟨nb,0,none⟩) hst.1 (.int .i64 (c+1))).alloc (by simpa using hB) X).alloc (by simp;omega) Y))
  clear ih hv hu hr hs hs' hst
  go_enter Tryz.func144,Tryz.ntmps144
  go_wp2_with fail
  ·refine (equalFuncS_any 144 #[.pointer (some ⟨nb,0,none⟩),.pointer (some ⟨cb,0,none⟩)] (EqSt B nb cb) (fun _ _ _ h hb=>h.next hb) l l' sl sm B _ (c+1) q lq (HS.out.kept (HB2.out _ _)) (HS'.out.kept (HB2.out _ _)) (by simp;omega) (by omega) (by assumption) (HST.out _ _)
    (eqc_yes HR.out (by assumption) (by assumption) (by assumption) (by assumption) (by assumption)) (fun _ _=>by kernel_rfl)
    (fun x hx y _ v u w' c h0 h1 hxv hyu hb hst=>IH.out x hx y v u B nb cb c w' h0 h1 hxv hyu hb hst)).mono ?_
   rintro e' w1 ⟨rfl,hb1,hst⟩
   go_wp2
   go_ret
   exact ⟨rfl,(HB2.out _ _).trans hb1,hst⟩
  all_goals
   have hq:=eqc_no HR.out (by first
    | exact .inr (.inr (.inr (.inr ‹_›)))
    | exact .inr (.inr (.inr (.inl ‹_›)))
    | exact .inr (.inr (.inl ‹_›))
    | exact .inr (.inl ‹_›)
    | exact .inl (by omega))
   simp only[Prod.mk.injEq] at hq
   obtain ⟨rfl,rfl⟩:=hq
   go_ret
   exact ⟨rfl,HB2.out _ _,by rw[show (1000:Int)-(1000-(c+1))=c+1 by omega];exact HST.out _ _⟩
theorem eqSt_new (w:World) (X Y Z:Obj):EqSt (w.heap.size+3) (w.heap.size+3) (w.heap.size+4) 0 (((((w.alloc X).alloc Y).alloc Z).alloc (.cells #[.int .i64 0] 3)).alloc (.cells #[.func (.func 144) #[] #[.pointer (some ⟨w.heap.size+3,0,none⟩),.pointer (some ⟨w.heap.size+4,0,none⟩)]] 61)):=by
 refine ⟨by omega,by omega,by omega,?_,?_⟩
 ·rw[Below.heap_alloc _ _ _ (by simp)]
  have:=World.alloc_heap_new (((w.alloc X).alloc Y).alloc Z) (.cells #[.int .i64 0] 3)
  simpa[World.size_alloc,Nat.add_assoc] using this
 ·have:=World.alloc_heap_new ((((w.alloc X).alloc Y).alloc Z).alloc (.cells #[.int .i64 0] 3)) (.cells #[.func (.func 144) #[] #[.pointer (some ⟨w.heap.size+3,0,none⟩),.pointer (some ⟨w.heap.size+4,0,none⟩)]] 61)
  simpa[World.size_alloc,Nat.add_assoc] using this
theorem pequal_any (x y:Dat) (v u:Value) (B:Nat) (w:World) (kq nq dq zq:Int) (h:Prims.equal x y=(.mk kq nq dq ⟨#[]⟩ [],zq)) (hv:RepD w B x v) (hu:RepD w B y u) (hB:B≤w.heap.size) :
  Calls Tryz.prog 119 #[v,u] w fun e w'=>e=.returned (.tuple #[leafV kq nq dq,.int .i64 zq])∧Below w.heap.size w w':=by
 obtain ⟨k,n,d,s,o,len,cap,rfl⟩:=agg_of hv
 obtain ⟨k',n',d',s',o',len',cap',rfl⟩:=agg_of hu
 obtain ⟨⟨q,lq⟩,hq⟩:∃r,Prims.eqc x y 1000=r:=⟨_,rfl⟩
 have bds:=eqc_bd x y 1000 (by omega)
 have HC:=Lib.hid (fun W (hb:Below w.heap.size w W) (hsz:w.heap.size+3≤W.heap.size) (hst:EqSt (w.heap.size+3) (w.heap.size+3) (w.heap.size+4) 0 W)=>alike1_any x y _ _ (w.heap.size+3) (w.heap.size+3) (w.heap.size+4) 0 W (by omega) (by omega) (((hv.wider hB).kept hb).wider (by omega)) (((hu.wider hB).kept hb).wider (by omega)) hsz hst)
 rw[show (1000:Int)-0=1000 from rfl,hq] at HC
 rw[hq] at bds
 unfold Prims.equal at h
 rw[hq] at h
 have HR:=Lib.hid h
 have bd1:-1≤lq:=bds.1
 have bd2:lq≤1000:=bds.2.1
 clear hv hu hq h bds
 have HK:=Lib.hid (fun X Y Z V U=>(((((Below.refl w.heap.size w).alloc (Nat.le_refl _) X).alloc (by simp) Y).alloc (by simp;omega) Z).alloc (by simp;omega) V).alloc (by simp;omega) U)
 have HN:=Lib.hid (eqSt_new w)
 have HX:=Lib.hid (fun X Y V U=>(show Box5 (((((w.alloc X).alloc Y).alloc (.cells #[.int .i64 0,.int .i64 0,.int .i64 0,.string ⟨#[]⟩,.slice none 0 0] 45)).alloc V).alloc U) (w.heap.size+2) 45 (.int .i64 0) (.int .i64 0) (.int .i64 0) (.string ⟨#[]⟩) (.slice none 0 0) by
  have:=Box5.new ((w.alloc X).alloc Y) 45 (.int .i64 0) (.int .i64 0) (.int .i64 0) (.string ⟨#[]⟩) (.slice none 0 0)
  rw[World.size_alloc,World.size_alloc] at this
  exact (this.alloc _).alloc _))
 go_enter Tryz.func119,Tryz.ntmps119
 go_wp2_with fail
 refine (HC.out _ (HK.out _ _ _ _ _) (by simp) (HN.out _ _ _)).mono ?_
 rintro e1 w1 ⟨rfl,hb1,hst⟩
 obtain ⟨n0,n1,n2⟩:=one_cells hst.2.2.2.1
 have hbox:Box5 w1 (w.heap.size+2) 45 (.int .i64 0) (.int .i64 0) (.int .i64 0) (.string ⟨#[]⟩) (.slice none 0 0):=(hb1.block _ (by omega)).trans (HX.out _ _ _ _)
 have HX1:=Lib.hid hbox
 have HB1:=Lib.hid ((HK.out _ _ _ _ _).trans (hb1.mono (by omega)))
 have hs1:=HB1.out.size
 clear hst hb1 hbox HC HN HX HK
 by_cases hlq:lq<0
 ·have hlq2:decide (1000<1000-lq)=true:=decide_eq_true (by omega)
  have hR:=HR.out
  rw[if_pos hlq] at hR
  simp only[Prims.zeroD,Prims.num,Prod.mk.injEq,Dat.mk.injEq,and_true] at hR
  obtain ⟨⟨rfl,rfl,rfl⟩,rfl⟩:=hR
  obtain ⟨q0,q1,q2,q3,q4⟩:=HX1.out.cells
  obtain ⟨z0,z1,z2,z3,z4⟩:=HX1.out.free
  have hlt:=HX1.out.lt
  obtain ⟨r0,r1,r2,r3,r4⟩:=(HX1.out.set (.int .i64 0) (.int .i64 0) (.int .i64 0) (.string ⟨#[]⟩) (.slice none 0 0)).cells
  have HBF:=Lib.hid (HB1.out.trans (set5_below w1 (w.heap.size+2) w.heap.size (.int .i64 0) (.int .i64 0) (.int .i64 0) (.string ⟨#[]⟩) (.slice none 0 0) (by omega)))
  go_wp2_with fail
  exact bodyPost_ret (v:=.tuple #[leafV 0 0 0,.int .i64 3]) (by simp[results,Tryz.results119,go_sem,leafV,r0,r1,r2,r3,r4]) rfl ⟨rfl,HBF.out⟩
 ·have hlq2:decide (1000<1000-lq)=false:=decide_eq_false (by omega)
  have hR:=HR.out
  rw[if_neg hlq] at hR
  simp only[Prims.truth,Prod.mk.injEq,Dat.mk.injEq,and_true] at hR
  obtain ⟨⟨rfl,hnq,rfl⟩,rfl⟩:=hR
  have HNQ:=Lib.hid hnq
  clear hnq
  go_wp2_with fail
  refine (truth_any q _).mono ?_
  rintro e1 w2 ⟨rfl,hb2⟩
  rw[HNQ.out]
  simp only[leafV]
  have hbox2:Box5 w2 (w.heap.size+2) 45 (.int .i64 0) (.int .i64 0) (.int .i64 0) (.string ⟨#[]⟩) (.slice none 0 0):=(hb2.block _ HX1.out.lt).trans HX1.out
  have HB2:=Lib.hid (Below.next HB1.out hb2)
  obtain ⟨q0,q1,q2,q3,q4⟩:=hbox2.cells
  obtain ⟨z0,z1,z2,z3,z4⟩:=hbox2.free
  have hlt:=hbox2.lt
  obtain ⟨r0,r1,r2,r3,r4⟩:=(hbox2.set (.int .i64 1) (.int .i64 nq) (.int .i64 0) (.string ⟨#[]⟩) (.slice none 0 0)).cells
  have HBF:=Lib.hid (HB2.out.trans (set5_below w2 (w.heap.size+2) w.heap.size (.int .i64 1) (.int .i64 nq) (.int .i64 0) (.string ⟨#[]⟩) (.slice none 0 0) (by omega)))
  clear hb2 hbox2
  go_wp2_with fail
  exact bodyPost_ret (v:=.tuple #[leafV 1 nq 0,.int .i64 0]) (by simp[results,Tryz.results119,go_sem,leafV,r0,r1,r2,r3,r4]) rfl ⟨rfl,HBF.out⟩
end
section
open Go.RowKit
theorem bytes_ext {s s':ByteArray} (h:s.toList=s'.toList):s=s':=by
 apply ByteArray.ext;apply Array.ext'
 rw[←ByteArray.toList_eq,←ByteArray.toList_eq];exact h
theorem ralike_no {k n d k' n' d':Int} {s s':ByteArray} {l l':List Dat} {r:Bool} (h:((decide (k=k')&&(decide (n=n')&&(decide (d=d')&&decide (s=s'))))&&all2 Dat.alike l l')=r)
  (hno:¬(k=k'∧n=n'∧d=d'∧s=s'∧l.length=l'.length)):false=r:=by
 cases r with
 | false=>rfl
 | true=>
  simp only[Bool.and_eq_true,decide_eq_true_eq] at h
  exact absurd ⟨h.1.1,h.1.2.1,h.1.2.2.1,h.1.2.2.2,all2_len h.2⟩ hno
theorem ralike_yes {k n d k' n' d':Int} {s s':ByteArray} {len len':Nat} (hno:¬(k=k'∧n=n'∧d=d'∧s=s'∧len=len')) (h0:k=k') (h1:n=n') (h2:d=d') (h3:s.toList=s'.toList) (h4:((len:Int) != (len':Int))=false):False:=by
 refine hno ⟨h0,h1,h2,bytes_ext h3,?_⟩
 have:(len:Int)=len':=by simpa using h4
 omega
theorem ralike_any:∀(x y:Dat) (v u:Value) (B:Nat) (w:World),RepD w B x v→RepD w B y u→B≤w.heap.size →
  Calls Tryz.prog 32 #[v,u] w fun e w'=>e=.returned (.bool (Dat.alike x y))∧Below w.heap.size w w':=by
 intro x
 induction x using Dat.ind with
 | h k n d s l ih=>
  intro y v u B w hv hu hB
  obtain ⟨k',n',d',s',l'⟩:=y
  obtain ⟨r,hr⟩:∃r,Dat.alike (.mk k n d s l) (.mk k' n' d' s' l')=r:=⟨_,rfl⟩
  rw[hr]
  rw[Dat.alike,alikeL_all2] at hr
  have HR:=Lib.hid hr
  obtain ⟨sl,rfl,_,_,_,_,hs⟩:=hv.open
  obtain ⟨sm,rfl,_,_,_,_,hs'⟩:=hu.open
  obtain ⟨o,len,cap,rfl,hl,hcap,hmax,hc⟩:=hs
  obtain ⟨o',len',cap',rfl,hl',hcap',hmax',hc'⟩:=hs'
  have HL:=Lib.hid hl
  have HL':=Lib.hid hl'
  have HC:=Lib.hid hc
  have HC':=Lib.hid hc'
  have IH:=Lib.hid ih
  clear ih hv hu hl hl' hc hc'
  have HK:=Lib.hid (fun X Y=>((Below.refl w.heap.size w).alloc (Nat.le_refl _) X).alloc (by simp) Y)
  by_cases hall:k=k'∧n=n'∧d=d'∧s=s'∧len=len'
  ·obtain ⟨rfl,rfl,rfl,rfl,rfl⟩:=hall
   have HQ:=Lib.hid (show all2 Dat.alike l l'=r by rw[←hr];simp)
   clear hr HR
   have HT:=Lib.hid (show Two w #[.int .i64 k,.int .i64 n,.int .i64 d,.string s,.slice o len cap] 45 #[.int .i64 k,.int .i64 n,.int .i64 d,.string s,.slice o' len cap'] _ from Below.refl _ _)
   go_enter Tryz.func32,Tryz.ntmps32
   go_wp2_with fail
   go_loopg [5] len (fun g i wr=>∃j:Nat,g=len-j∧j≤len∧i=.int .i64 j∧(∀(q:Nat) (x y:Dat),q<j→l[q]?=some x→l'[q]?=some y→Dat.alike x y=true)∧Two w #[.int .i64 k,.int .i64 n,.int .i64 d,.string s,.slice o len cap] 45 #[.int .i64 k,.int .i64 n,.int .i64 d,.string s,.slice o' len cap'] wr)
   case atStart=>exact ⟨0,rfl,by omega,rfl,fun q x y h=>absurd h (by omega),HT.out⟩
   case round=>
    obtain ⟨j,rfl,hj,rfl,hq,ht⟩:=hrel
    have HQ2:=Lib.hid hq
    have HTW:=Lib.hid ht
    have c4:=ht.cell 4 (v:=.slice o len cap) rfl
    have d4:=ht.cell2 4 (v:=.slice o' len cap') rfl
    have hb:Below w.heap.size w wr:=(HK.out _ _).trans (Below.mono ht (by omega))
    have HB:=Lib.hid hb
    have hsz:=ht.size
    clear hq ht hb
    by_cases hjl:j<len
    ·obtain ⟨x,hx⟩:∃x,l[j]?=some x:=⟨_,List.getElem?_eq_getElem (by rw[←HL.out];exact hjl)⟩
     obtain ⟨y,hy⟩:∃y,l'[j]?=some y:=⟨_,List.getElem?_eq_getElem (by rw[←HL'.out];exact hjl)⟩
     obtain ⟨b1,off1,k1,n1,d1,s1,l1,o1,len1,cap1,ho1,hx1,e0,e1,e2,e3,e4,er⟩:=part_at2 HC.out (HB.out.mono hB) hx
     obtain ⟨b2,off2,k2,n2,d2,s2,l2,o2,len2,cap2,ho2,hx2,f0,f1,f2,f3,f4,fr⟩:=part_at2 HC'.out (HB.out.mono hB) hy
     subst ho1 ho2 hx1 hx2
     have ER:=Lib.hid er
     have FR:=Lib.hid fr
     have HX:=Lib.hid hx
     have HY:=Lib.hid hy
     have hl1:=cell_lt e0
     have hl2:=cell_lt f0
     have hlb1:=cell_lt c4
     have hlb2:=cell_lt d4
     obtain ⟨q,hq⟩:∃q,Dat.alike (.mk k1 n1 d1 s1 l1) (.mk k2 n2 d2 s2 l2)=q:=⟨_,rfl⟩
     have HQQ:=Lib.hid hq
     have HD:=Lib.hid ((Below.refl wr.heap.size wr).drew)
     clear hx hy er fr hq
     go_wp2_with fail
     refine wp_region_quiet_class (Below wr.heap.size wr) 11 (by kernel_rfl) (by kernel_rfl) HD.out ?_
     intro T _ W HW HW2
     have g4:∀t,(W t).cell? ⟨w.heap.size,4,none⟩=some (.slice (some ⟨b1,off1,none⟩) len cap):=fun t=>((HW t).cell (p:=⟨w.heap.size,4,none⟩) hlb1).trans c4
     have h4:∀t,(W t).cell? ⟨w.heap.size+1,4,none⟩=some (.slice (some ⟨b2,off2,none⟩) len cap'):=fun t=>((HW t).cell (p:=⟨w.heap.size+1,4,none⟩) hlb2).trans d4
     have g0:∀t,(W t).cell? _=_:=fun t=>((HW t).cell (p:=⟨b1,off1+j*5,none⟩) hl1).trans e0
     have g1:∀t,(W t).cell? _=_:=fun t=>((HW t).cell (p:=⟨b1,off1+j*5+1,none⟩) hl1).trans e1
     have g2:∀t,(W t).cell? _=_:=fun t=>((HW t).cell (p:=⟨b1,off1+j*5+2,none⟩) hl1).trans e2
     have g3:∀t,(W t).cell? _=_:=fun t=>((HW t).cell (p:=⟨b1,off1+j*5+3,none⟩) hl1).trans e3
     have g5:∀t,(W t).cell? _=_:=fun t=>((HW t).cell (p:=⟨b1,off1+j*5+4,none⟩) hl1).trans e4
     have j0:∀t,(W t).cell? _=_:=fun t=>((HW t).cell (p:=⟨b2,off2+j*5,none⟩) hl2).trans f0
     have j1:∀t,(W t).cell? _=_:=fun t=>((HW t).cell (p:=⟨b2,off2+j*5+1,none⟩) hl2).trans f1
     have j2:∀t,(W t).cell? _=_:=fun t=>((HW t).cell (p:=⟨b2,off2+j*5+2,none⟩) hl2).trans f2
     have j3:∀t,(W t).cell? _=_:=fun t=>((HW t).cell (p:=⟨b2,off2+j*5+3,none⟩) hl2).trans f3
     have j5:∀t,(W t).cell? _=_:=fun t=>((HW t).cell (p:=⟨b2,off2+j*5+4,none⟩) hl2).trans f4
     have hC:∀t,Calls Tryz.prog 32 #[.agg #[.int .i64 k1,.int .i64 n1,.int .i64 d1,.string s1,.slice o1 len1 cap1],.agg #[.int .i64 k2,.int .i64 n2,.int .i64 d2,.string s2,.slice o2 len2 cap2]] (W t) fun e w'=>e=.returned (.bool q)∧∃t',w'=W t':=fun t=>by
      have:=IH.out (.mk k1 n1 d1 s1 l1) (List.mem_of_getElem? HX.out) (.mk k2 n2 d2 s2 l2) _ _ B (W t) (ER.out.kept (Below.mono (HW t) (by omega))) (FR.out.kept (Below.mono (HW t) (by omega))) (by have:=(HW t).size;omega)
      rw[HQQ.out] at this
      exact this.mono fun e w' h=>⟨h.1,HW2 _ (Below.next (HW t) h.2)⟩
     have HCC:=Lib.hid hC
     have HWH:=Lib.hid HW
     clear HW HW2 hC
     simp only[List.take_succ_cons,List.take_zero,List.drop_succ_cons,List.drop_zero]
     repeat (go_big_quiet_step (first | (go_at_call 32;exact HCC.out _) | fail))
     refine wpQuiet_nil ?_
     intro t
     cases q with
     | true=>
      go_wp2_with fail
      go_roundg (len-(j+1))
      case measure=>omega
      case rel=>
       refine ⟨j+1,rfl,by omega,by go_num,?_,Two.next HTW.out (HWH.out t)⟩
       intro p x y hp hx hy
       by_cases hpj:p<j
       ·exact HQ2.out p x y hpj hx hy
       ·obtain rfl:p=j:=by omega
        obtain rfl:=Option.some.inj (hx.symm.trans HX.out)
        obtain rfl:=Option.some.inj (hy.symm.trans HY.out)
        exact HQQ.out
     | false=>
      have HF:=Lib.hid (show r=false by rw[←HQ.out];exact all2_false HX.out HY.out HQQ.out)
      go_wp2_with fail
      go_ret
      exact ⟨ret_bool HF.out.symm,Below.next HB.out (HWH.out t)⟩
    ·obtain rfl:j=len:=by omega
     have HF:=Lib.hid (show r=true by
      rw[←HQ.out]
      refine all2_all (by rw[←HL.out,←HL'.out]) fun i x y hx hy=>HQ2.out i x y ?_ hx hy
      have:=(List.getElem?_eq_some_iff.1 hx).1
      rw[HL.out];exact this)
     go_wp2_with fail
     go_ret
     exact ⟨ret_bool HF.out.symm,HB.out⟩
  ·have hno:¬(k=k'∧n=n'∧d=d'∧s=s'∧l.length=l'.length):=by rw[←HL.out,←HL'.out];exact hall
   have HF:=Lib.hid (ralike_no HR.out hno)
   have HNO:=Lib.hid hall
   clear hno hall hr
   go_enter Tryz.func32,Tryz.ntmps32
   go_wp2_with fail
   all_goals first
    | (go_ret;exact ⟨ret_bool HF.out,HK.out _ _⟩)
    | exact (ralike_yes HNO.out (by assumption) (by assumption) (by assumption) (by assumption) (by assumption)).elim
    | fail
end
section
open Go Go.RowKit Go.Deep Go.ChangeShapes Go.WideShapes Go.ChangeAt
section
variable {H : Type} {enc : TypeId × Value → H}
theorem uptoBulk_pos (d:DataW H):1≤Rows.uptoBulk d:=by
 cases d with
 | lit l=>cases l<;>(simp only[Rows.uptoBulk];omega)
 | _=>all_goals (simp only[Rows.uptoBulk];omega)
theorem bulk_sum {α:Type} {m:α→Nat}:∀(l:List α) (es:List (DataW H)),l.length=es.length→(∀(i:Nat) (x:α) (e:DataW H),l[i]?=some x→es[i]?=some e→m x≤Rows.uptoBulk e)→(l.map m).sum≤Rows.uptoBulkAll es
 | [],_,_,_=>Nat.zero_le _
 | x::l,[],h,_=>by simp at h
 | x::l,e::es,h,hx=>by
  have h1:=hx 0 x e rfl rfl
  have h2:=bulk_sum l es (by simpa using h) fun i y f hy hf=>hx (i+1) y f hy hf
  simp only[List.map_cons,List.sum_cons,Rows.uptoBulkAll]
  omega
theorem slC_of_trodM {α:Type} {w:World} {ts te:TypeId} {size bs:Nat} (hu:Tryz.prog.underlying ts=some (.slice te)) (hcs:Tryz.prog.cellsOf te=size) (hbs:Tryz.prog.bytesOf te=bs) (hpos:0<size) (hbp:0<bs) {R:α→List Value→Prop} (m:α→Nat)
  (fuel:Nat) (hel:∀n' cs' y,n' < fuel→DataW.trod enc Tryz.prog w 0 (fun _=>true) true n' te cs'=some y→(∀n∈y.1.weights Tryz.prog te,n≤reachBytes)→∃x,R x cs'∧m x≤Rows.uptoBulk y.1) (c4:Value) (x4:DataW H × List MemPlace) (g4:DataW.trod enc Tryz.prog w 0 (fun _=>true) true fuel ts [c4]=some x4) (w4:∀n∈x4.1.weights Tryz.prog ts,n≤reachBytes):∃l:List α,SlC w w.heap.size size R l c4∧(l.map m).sum≤Rows.uptoBulk x4.1:=by
 rcases DataW.trod_slice hu g4 with ⟨e4,_⟩ | ⟨a,len,cap,elems,rest,n',rfl,e4,hx4,_,hle,_,hel2,hget4,hsp,_⟩
 ·have f4:c4=.slice none 0 0:=by simpa using e4
  subst f4
  exact ⟨[],⟨none,0,0,rfl,rfl,by omega,by omega,rfl,rfl⟩,Nat.zero_le _⟩
 ·have f4:c4=.slice (some a) len cap:=by simpa using e4
  subst f4 hx4
  have hrest:=(hsp rfl).1
  have hcap:cap≤9223372036854775807:=by
   have:=w4 ((elems.length+rest.length)*bs) (by simp[DataW.weights,hu,hbs])
   have h9:(elems.length+rest.length)*bs≤140737488351232:=this
   have h10:(elems.length+rest.length)*1≤(elems.length+rest.length)*bs:=Nat.mul_le_mul_left _ hbp
   omega
  by_cases h0:len=0
  ·subst h0
   exact ⟨[],⟨some a,0,cap,rfl,rfl,by omega,hcap,fun h=>absurd rfl h,fun i x hx=>by simp at hx⟩,Nat.zero_le _⟩
  have hat:∀i (hi:i<len),∃cs',w.cells? 0 (a.add (i*size)) size=some cs'∧DataW.trod enc Tryz.prog w 0 (fun _=>true) true n' te cs'=some (elems[i]'(by omega)):=by
   intro i hi
   have hb:=hget4 i hi
   rw[hcs,List.getElem?_eq_getElem (by omega)] at hb
   exact Option.bind_eq_some_iff.1 hb
  obtain ⟨hspot,hblk⟩:a.spot=none∧a.block<w.heap.size:=by
   obtain ⟨cs',hc1,_⟩:=hat 0 (by omega)
   obtain ⟨_,hl5,hcs⟩:=World.cells?_some hc1
   have h00:=hcs 0 (by omega)
   rw[List.getElem?_eq_getElem (by omega)] at h00
   have:=cell_spot h00
   simpa[Addr.add] using this
  have hcell:∀i,i<len→∃x:α,∃cs:List Value,cs.length=size∧(∀j u,cs[j]?=some u→w.cell? ⟨a.block,a.off+i*size+j,none⟩=some u)∧R x cs∧∀e,(elems.map Prod.fst)[i]?=some e→m x≤Rows.uptoBulk e:=by
   intro i hi
   obtain ⟨cs',hc1,hc2⟩:=hat i hi
   obtain ⟨_,hl5,hcs⟩:=World.cells?_some hc1
   rw[add_none hspot] at hcs
   obtain ⟨x,hx,hxm⟩:=hel n' _ _ (by omega) hc2 (fun q hq=>w4 q (by
     simp only[DataW.weights,hu,List.mem_cons,List.mem_append]
     refine Or.inr (Or.inl (weightsAll_mem (d:=(elems[i]'(by omega)).1) ?_ q hq))
     exact List.mem_map_of_mem (List.getElem_mem _)))
   refine ⟨x,cs',hl5,fun j u hj=>?_,hx,fun e he=>?_⟩
   ·have hjl:j<size:=by have:=(List.getElem?_eq_some_iff.1 hj).1;omega
    have:=hcs j hjl
    rw[add_none rfl] at this
    rw[←hj];exact this
   ·rw[List.getElem?_map,List.getElem?_eq_getElem (by omega)] at he
    obtain rfl:(elems[i]'(by omega)).1=e:=by simpa using he
    exact hxm
  obtain ⟨l,hl,hP⟩:=list_choice hcell
  refine ⟨l,⟨some a,len,cap,rfl,hl.symm,hle,hcap,fun _=>⟨hspot,hblk⟩,fun i x hx=>?_⟩,?_⟩
  ·obtain ⟨cs,h1,h2,h3,_⟩:=hP i x hx
   exact ⟨cs,h1,h2,h3⟩
  ·have:=bulk_sum (m:=m) l (elems.map Prod.fst) (by rw[hl,List.length_map];omega) fun i x e hx he=>by
    obtain ⟨cs,_,_,_,h4⟩:=hP i x hx
    exact h4 e he
   replace this:(l.map m).sum≤Rows.uptoBulkAll (elems.map fun x=>x.1):=this
   simp only[Rows.uptoBulk]
   omega
theorem sum_one (l:List Int):(l.map fun _=>1).sum=l.length:=by
 induction l with
 | nil=>rfl
 | cons x l ih=>rw[List.map_cons,List.sum_cons,ih,List.length_cons];omega
theorem bnd_sum:∀l:List Trm,(Trm.bndL l).length=(l.map fun x=>x.bnd.length).sum
 | []=>rfl
 | x::l=>by rw[Trm.bndL,List.length_append,bnd_sum l,List.map_cons,List.sum_cons]
theorem trmR_of_trodB {w:World}:∀(fuel:Nat) (cs:List Value) (y:DataW H × List MemPlace),DataW.trod enc Tryz.prog w 0 (fun _=>true) true fuel 26 cs=some y→(∀n∈y.1.weights Tryz.prog 26,n≤reachBytes)→∃x,TrmR w w.heap.size x cs∧x.bnd.length≤Rows.uptoBulk y.1:=by
 intro fuel
 induction fuel using Nat.strongRecOn with
 | _ fuel ih=>
  intro cs y h hw
  obtain ⟨xs,n,hn,rfl,hlen,hxs,hget⟩:=DataW.trod_struct Tryz.underlying26 h
  rw[show Tryz.prog.cellsOf 26=4 by kernel_rfl] at hlen
  match cs,hlen with
  | [c0,c1,c2,c3],_=>
   have g0:DataW.trod enc Tryz.prog w 0 (fun _=>true) true n 3 (([c0,c1,c2,c3].drop 0).take (Tryz.prog.cellsOf 3))=xs[0]?:=hget 0 _ rfl
   have g1:DataW.trod enc Tryz.prog w 0 (fun _=>true) true n 3 (([c0,c1,c2,c3].drop 1).take (Tryz.prog.cellsOf 3))=xs[1]?:=hget 1 _ rfl
   have g2:DataW.trod enc Tryz.prog w 0 (fun _=>true) true n 23 (([c0,c1,c2,c3].drop 2).take (Tryz.prog.cellsOf 23))=xs[2]?:=hget 2 _ rfl
   have g3:DataW.trod enc Tryz.prog w 0 (fun _=>true) true n 24 (([c0,c1,c2,c3].drop 3).take (Tryz.prog.cellsOf 24))=xs[3]?:=hget 3 _ rfl
   rw[cells_int] at g0 g1
   rw[show Tryz.prog.cellsOf 23=1 by kernel_rfl] at g2
   rw[show Tryz.prog.cellsOf 24=1 by kernel_rfl] at g3
   have hx4:xs.length=4:=hxs
   match xs,hx4 with
   | [x0,x1,x2,x3],_=>
    obtain ⟨k,e0,_,w0⟩:=DataW.trod_int Tryz.underlying3 (show _=some x0 from g0)
    obtain ⟨m,e1,_,w1⟩:=DataW.trod_int Tryz.underlying3 (show _=some x1 from g1)
    have f0:c0=.int .i64 k:=by simpa using e0
    have f1:c1=.int .i64 m:=by simpa using e1
    subst f0 f1
    have we:∀(i:Nat) (t:TypeId) (z:DataW H),[3,3,23,24][i]?=some t→[x0.1,x1.1,x2.1,x3.1][i]?=some z→∀n∈z.weights Tryz.prog t,n≤reachBytes:=by
     intro i t z ht hz q hq
     refine hw q ?_
     show q∈DataW.weights Tryz.prog 26 (.agg _)
     simp only[DataW.weights,Tryz.underlying26]
     exact weightsEach_mem i ht hz q hq
    obtain ⟨l,hl,hlb⟩:=slC_of_trodM (te:=3) (size:=1) (bs:=8) Tryz.underlying23 (by kernel_rfl) (by kernel_rfl) (by omega) (by omega) (R:=IntR) (fun _=>1) n (fun n' cs' y _ hy _=>by
     obtain ⟨k,e0,_,w0⟩:=DataW.trod_int Tryz.underlying3 hy
     exact ⟨k,⟨e0,bd_i64 w0⟩,uptoBulk_pos _⟩) c2 x2 (show _=some x2 from g2) (we 2 23 _ rfl rfl)
    obtain ⟨l2,hl2,hlb2⟩:=slC_of_trodM (te:=26) (size:=4) (bs:=64) Tryz.underlying24 (by kernel_rfl) (by kernel_rfl) (by omega) (by omega) (R:=TrmR w w.heap.size) (fun x=>x.bnd.length) n (fun n' cs' y hlt hy hw=>ih n' (by omega) cs' y hy hw) c3 x3 (show _=some x3 from g3) (we 3 24 _ rfl rfl)
    refine ⟨.mk k m l l2,trmR_iff.2 ⟨c2,c3,rfl,bd_i64 w0,bd_i64 w1,hl,hl2⟩,?_⟩
    rw[sum_one] at hlb
    rw[Trm.bnd,List.length_append,bnd_sum]
    show _≤Rows.uptoBulk (.agg [x0.1,x1.1,x2.1,x3.1])
    simp only[Rows.uptoBulk,Rows.uptoBulkAll]
    omega
theorem open_programU {W:World} {r:Reach} {b0:Nat} {v:Value} {d:DataW H} {ps:List MemPlace} (hval:Value.okWide Tryz.prog W r b0 28 v) (hd:DataW.Trod enc Tryz.prog W 0 (fun _=>true) true 28 v d ps) (hw:∀n∈d.weights Tryz.prog 28,n≤reachBytes) :
  ∃(cs:List Dat) (x:Trm) (cc c0 c1 c2 c3:Value),v=.agg #[cc,c0,c1,c2,c3]∧RepS W W.heap.size cs cc∧TrmR W W.heap.size x [c0,c1,c2,c3]∧Dat.bulkL cs+x.bnd.length≤Rows.uptoBulk d:=by
 unfold Value.okWide at hval
 rw[Tryz.underlying28] at hval
 obtain ⟨⟨cs⟩,rfl,_⟩:=hval
 obtain ⟨fuel,hf⟩:=hd
 have hf':DataW.trod enc Tryz.prog W 0 (fun _=>true) true fuel 28 cs=some (d,ps):=by simpa[Value.cells] using hf
 obtain ⟨xs,n,rfl,hd2,hlen,hxs,hget⟩:=DataW.trod_struct Tryz.underlying28 hf'
 obtain rfl:d=_:=congrArg Prod.fst hd2
 rw[show Tryz.prog.cellsOf 28=5 by kernel_rfl] at hlen
 match cs,hlen with
 | [c0,c1,c2,c3,c4],_=>
  have g0:DataW.trod enc Tryz.prog W 0 (fun _=>true) true n 22 (([c0,c1,c2,c3,c4].drop 0).take (Tryz.prog.cellsOf 22))=xs[0]?:=hget 0 _ rfl
  have g1:DataW.trod enc Tryz.prog W 0 (fun _=>true) true n 26 (([c0,c1,c2,c3,c4].drop 1).take (Tryz.prog.cellsOf 26))=xs[1]?:=hget 1 _ rfl
  rw[cells_data] at g0
  rw[show Tryz.prog.cellsOf 26=4 by kernel_rfl] at g1
  have hx2:xs.length=2:=hxs
  match xs,hx2 with
  | [x0,x1],_=>
   have we:∀(i:Nat) (t:TypeId) (z:DataW H),[22,26][i]?=some t→[x0.1,x1.1][i]?=some z→∀n∈z.weights Tryz.prog t,n≤reachBytes:=by
    intro i t z ht hz q hq
    refine hw q ?_
    show q∈DataW.weights Tryz.prog 28 (.agg _)
    simp only[DataW.weights,Tryz.underlying28]
    exact weightsEach_mem i ht hz q hq
   obtain ⟨l,hl,hb⟩:=repS_of_trodB n c0 x0 (show _=some x0 from g0) (we 0 22 _ rfl rfl)
   obtain ⟨t,ht,htb⟩:=trmR_of_trodB n [c1,c2,c3,c4] x1 (show _=some x1 from g1) (we 1 26 _ rfl rfl)
   refine ⟨l,t,c0,c1,c2,c3,c4,rfl,hl,ht,?_⟩
   show _≤Rows.uptoBulk (.agg [x0.1,x1.1])
   simp only[Rows.uptoBulk,Rows.uptoBulkAll]
   omega
end
end
end Go.Proofs.YtgbibibmpoekiaaGreatDoor
