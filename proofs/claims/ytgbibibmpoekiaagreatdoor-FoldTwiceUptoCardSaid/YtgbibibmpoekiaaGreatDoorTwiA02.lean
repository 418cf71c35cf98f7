/-
  What the proofs lean on: FlV.
-/
import Derived.Test.YtgbibibmpoekiaaGreatDoorTwiA01
set_option maxRecDepth 100000
set_option maxHeartbeats 16000000
namespace Go.Proofs.YtgbibibmpoekiaaGreatDoor
section
open Go Go.RowKit
theorem len_allD2:∀l:List Dat,l.length≤Dat.allL l
 | []=>Nat.zero_le _
 | x::l=>by
  have:=len_allD2 l
  have h1:1≤Dat.all x:=by obtain ⟨k,n,d,s,l⟩:=x;rw[Dat.all];omega
  rw[Dat.allL,List.length_cons]
  omega
theorem PgO.some2 {b:Nat} {q:Trm × List Dat} {W:World} (h:PgO b (some q) W):∃(oc:Option Addr) (lc kc:Nat) (o n:Int) (ov:Option Addr) (lv cv:Nat) (ot:Option Addr) (lt ct:Nat),BoxL W b 28 [.slice oc lc kc,.int .i64 o,.int .i64 n,.slice ov lv cv,.slice ot lt ct] ∧
  RepS W W.heap.size q.2 (.slice oc lc kc)∧TrmR W W.heap.size q.1 [.int .i64 o,.int .i64 n,.slice ov lv cv,.slice ot lt ct]:=by
 obtain ⟨oc,lc,kc,o,n,ov,lv,cv,ot,lt,ct,h1,h2⟩:=h
 obtain ⟨oc',lc',kc',o',n',ov',lv',cv',ot',lt',ct',he,h3,h4⟩:=h2
 simp only[Value.agg.injEq,Array.mk.injEq,List.cons.injEq,Value.slice.injEq,Value.int.injEq,and_true,true_and] at he
 obtain ⟨⟨rfl,rfl,rfl⟩,rfl,rfl,⟨rfl,rfl,rfl⟩,rfl,rfl,rfl⟩:=he
 exact ⟨oc,lc,kc,o,n,ov,lv,cv,ot,lt,ct,h1,h3.unhide,h4.unhide⟩
theorem ints_last {w:World} {B:Nat} {l:List Int} {o:Option Addr} {k c:Nat} (h:SlC w B 1 IntR l (.slice o (k+1) c)):∃b off z,o=some ⟨b,off,none⟩∧w.cell? ⟨b,off+k,none⟩=some (.int .i64 z)∧b<B∧-9223372036854775808≤z∧z≤9223372036854775807:=by
 obtain ⟨o',n',c',he,hn,hle,hc,hm⟩:=h
 simp only[Value.slice.injEq] at he
 obtain ⟨rfl,rfl,rfl⟩:=he
 cases o with
 | none=>obtain ⟨h1,_⟩:=hm;rw[h1] at hn;simp at hn
 | some a=>
  obtain ⟨h1,h2⟩:=hm
  obtain ⟨b,off,sp⟩:=a
  obtain ⟨h3,h4⟩:=h1 (fun e=>by rw[e] at hn;simp at hn)
  simp only at h3
  subst h3
  obtain ⟨z,hz⟩:∃z,l[k]?=some z:=⟨_,List.getElem?_eq_getElem (by omega)⟩
  obtain ⟨cs,_,h6,h7,h8⟩:=h2 k z hz
  subst h7
  exact ⟨b,off,z,rfl,by simpa using h6 0 _ rfl,h4,h8⟩
theorem terms_two {w:World} {B:Nat} {x y:Trm} {o:Option Addr} {k c:Nat} (h:SlC w B 4 (TrmR w B) [x,y] (.slice o k c)):k=2∧∃b off,o=some ⟨b,off,none⟩∧b<B∧∃c0 c1 c2 c3 d0 d1 d2 d3,TrmR w B x [c0,c1,c2,c3]∧TrmR w B y [d0,d1,d2,d3] ∧
  (w.cell? ⟨b,off,none⟩=some c0∧w.cell? ⟨b,off+1,none⟩=some c1∧w.cell? ⟨b,off+2,none⟩=some c2∧w.cell? ⟨b,off+3,none⟩=some c3)∧(w.cell? ⟨b,off+4,none⟩=some d0∧w.cell? ⟨b,off+5,none⟩=some d1∧w.cell? ⟨b,off+6,none⟩=some d2∧w.cell? ⟨b,off+7,none⟩=some d3):=by
 obtain ⟨o',n',c',he,hn,hle,hc,hm⟩:=h
 simp only[Value.slice.injEq] at he
 obtain ⟨rfl,rfl,rfl⟩:=he
 refine ⟨hn,?_⟩
 cases o with
 | none=>obtain ⟨h1,_⟩:=hm;simp at h1
 | some a=>
  obtain ⟨h1,h2⟩:=hm
  obtain ⟨b,off,sp⟩:=a
  obtain ⟨h3,h4⟩:=h1 (by simp)
  simp only at h3
  subst h3
  obtain ⟨cs,hl,hcs,hx⟩:=h2 0 x rfl
  obtain ⟨ds,hl2,hds,hy⟩:=h2 1 y rfl
  match cs,hl,ds,hl2 with
  | [c0,c1,c2,c3],_,[d0,d1,d2,d3],_=>
   refine ⟨b,off,rfl,h4,c0,c1,c2,c3,d0,d1,d2,d3,hx,hy,⟨?_,?_,?_,?_⟩,?_,?_,?_,?_⟩
   ·simpa using hcs 0 _ rfl
   ·simpa using hcs 1 _ rfl
   ·simpa using hcs 2 _ rfl
   ·simpa using hcs 3 _ rfl
   ·simpa using hds 0 _ rfl
   ·simpa using hds 1 _ rfl
   ·simpa using hds 2 _ rfl
   ·simpa using hds 3 _ rfl
def SkR (n10 n6 tb tof ct:Nat) (cA dA qA:List Value) (N:Int) (i:Nat) (v:Value):Prop:=match i with
 | 0=>v=.bool true
 | 1=>v=.bool true
 | 2=>v=.int .i64 2
 | 3=>v=.bool true
 | 4=>v=.bool true
 | 5=>v=.bool true
 | 6=>v=.pointer (some ⟨n10,1,none⟩)
 | 7=>v=.pointer (some ⟨n10,4,none⟩)
 | 8=>v=.slice (some ⟨tb,tof,none⟩) 2 ct
 | 9=>v=.int .i64 2
 | 10=>v=.int .i64 0
 | 11=>v=.pointer (some ⟨tb,tof,none⟩)
 | 12=>v=.agg cA.toArray
 | 13=>v=.int .i64 N
 | 14=>v=.pointer (some ⟨n6,1,none⟩)
 | 15=>v=.agg qA.toArray
 | 16=>v=.int .i64 N
 | 17=>v=.bool true
 | 18=>v=.bool true
 | 19=>v=.bool true
 | 20=>v=.pointer (some ⟨n10,1,none⟩)
 | 21=>v=.pointer (some ⟨n10,4,none⟩)
 | 22=>v=.slice (some ⟨tb,tof,none⟩) 2 ct
 | 23=>v=.int .i64 2
 | 24=>v=.int .i64 1
 | 25=>v=.pointer (some ⟨tb,tof+4,none⟩)
 | 26=>v=.agg dA.toArray
 | 27=>v=.int .i64 N
 | 28=>v=.pointer (some ⟨n6,1,none⟩)
 | 29=>v=.agg qA.toArray
 | 30=>v=.int .i64 N
 | 31=>v=.bool true
 | 32=>v=.bool true
 | 33=>v=.bool true
 | _=>True
theorem foldTwice_walk (cs:List Dat) (x:Trm) (cc c0 c1 c2 c3:Value) (w:World) (hcon:RepS w w.heap.size cs cc) (hbody:TrmR w w.heap.size x [c0,c1,c2,c3]) (hE:Env w) (hbk:Dat.bulkL cs≤1048576) (hbd:x.bnd.length≤1048576) :
  Calls Tryz.prog 6 #[.agg #[cc,c0,c1,c2,c3]] w fun e w'=>e=.returned (.bool true)∧Below w.heap.size w w':=by
 obtain ⟨q,r,u,q',r',u',rfl,rfl,rfl,rfl⟩:=hbody.shape2
 obtain ⟨oc,lc,kc,rfl⟩:∃o l c,cc=.slice o l c:=by obtain ⟨o,l,c,h,_⟩:=hcon;exact ⟨o,l,c,h⟩
 obtain ⟨W1,hW1⟩:∃W1,w.alloc (.cells #[.slice oc lc kc,.int .i64 x.op,.int .i64 x.n,.slice q r u,.slice q' r' u'] 28)=W1:=⟨_,rfl⟩
 have HB1:=Lib.hid (show Below w.heap.size w W1 from by rw[←hW1];exact Below.one w _)
 have HX1:=Lib.hid (show BoxL W1 w.heap.size 28 [.slice oc lc kc,.int .i64 x.op,.int .i64 x.n,.slice q r u,.slice q' r' u'] from by rw[←hW1];exact BoxL.new rfl _ _)
 have HAW:=Lib.hid (awake11_any W1 (env_kept hE HB1.out))
 have HCON:=Lib.hid (fun W (hb:Below w.heap.size w W)=>hcon.kept hb)
 have HBODY:=Lib.hid (fun W (hb:Below w.heap.size w W)=>TrmR.kept hb _ _ hbody)
 have HENV:=Lib.hid (fun W (hb:Below w.heap.size w W)=>env_kept hE hb)
 have HW:=Lib.hid hW1
 obtain ⟨f1,hf1⟩:∃f1,decide ((x.all:Int)≤100)=f1:=⟨_,rfl⟩
 obtain ⟨f2,hf2⟩:∃f2,decide ((Dat.allL cs:Int)≤2000)=f2:=⟨_,rfl⟩
 have HF1:=Lib.hid (fun W (hb:Below w.heap.size w W)=>show Calls Tryz.prog 14 #[.agg #[.int .i64 x.op,.int .i64 x.n,.slice q r u,.slice q' r' u'],.int .i64 100] W fun e w'=>e=.returned (.bool f1)∧Below W.heap.size W w' from by
  have:=tFew_any x _ _ _ _ 100 w.heap.size W (HBODY.out W hb) hb.size (by omega) (by omega)
  rwa[hf1] at this)
 have HF2:=Lib.hid (fun W (hb:Below w.heap.size w W)=>rfewAll_to cs (.slice oc lc kc) 2000 w.heap.size W (HCON.out W hb) hb.size (by omega) (by omega) f2 hf2)
 have HF1E:=Lib.hid hf1
 have HF2E:=Lib.hid hf2
 have HBK:=Lib.hid hbk
 have HBD:=Lib.hid hbd
 clear hcon hbody hE hW1 hf1 hf2 hbk hbd
 go_enter Tryz.func6,Tryz.ntmps6
 go_upto_region 1 with fail
 rw[HW.out]
 clear HW
 go_wp2_with fail
 refine HAW.out.mono ?_
 rintro e W2 ⟨rfl,hb2⟩
 have HB2:=Lib.hid (HB1.out.trans (hb2.mono HB1.out.size))
 have HX2:=Lib.hid (HX1.out.keep hb2)
 clear hb2 HAW HX1 HB1
 have x0:=HX2.out.cell 0 rfl
 have x1:=HX2.out.cell 1 rfl
 have x2:=HX2.out.cell 2 rfl
 have x3:=HX2.out.cell 3 rfl
 have x4:=HX2.out.cell 4 rfl
 have xl:=HX2.out.lt
 go_wp2_with fail
 refine (HF1.out W2 HB2.out).mono ?_
 rintro e W3 ⟨rfl,hb3⟩
 have HB3:=Lib.hid (HB2.out.trans (hb3.mono HB2.out.size))
 have HX3:=Lib.hid (HX2.out.keep hb3)
 clear hb3 HF1 HX2 HB2 x0 x1 x2 x3 x4 xl
 have x0:=HX3.out.cell 0 rfl
 have xl:=HX3.out.lt
 cases f1 with
 | false=>
  go_wp2_with fail
  go_ret
  exact ⟨rfl,HB3.out⟩
 | true=>
  have hxa:x.all≤100:=by have:=of_decide_eq_true HF1E.out;omega
  go_wp2_with fail
  refine (HF2.out W3 HB3.out).mono ?_
  rintro e W4 ⟨rfl,hb4⟩
  have HB4:=Lib.hid (HB3.out.trans (hb4.mono HB3.out.size))
  have HX4:=Lib.hid (HX3.out.keep hb4)
  clear hb4 HF2 HX3 HB3 x0 xl
  cases f2 with
  | false=>
   go_wp2_with fail
   go_ret
   exact ⟨rfl,HB4.out⟩
  | true=>
   have hca:cs.length≤2000:=by have:=of_decide_eq_true HF2E.out;have:=len_allD2 cs;omega
   have HCA:=Lib.hid hca
   clear hca
   obtain ⟨p1,hp1⟩:∃p1,Fd.conv cs x=p1:=⟨_,rfl⟩
   obtain ⟨p2,hp2⟩:∃p2,Fd.conv cs (.mk 10 17 [] [x,Trm.shift (rk 20000) x])=p2:=⟨_,rfl⟩
   have HPP:=Lib.hid (show ∀a b,p1=some a→p2=some b→∃y,b.1=.mk 10 17 [] [a.1,y]∧y.all=a.1.all from fun a b h1 h2=>Fd.conv_two (hp1.trans h1) (hp2.trans h2))
   have HQ1:=Lib.hid (show ∀a,p1=some a→a.1.all≤100 from fun a h1=>by
    rw[h1] at hp1
    unfold Fd.conv at hp1
    split at hp1
    ·rename_i ho1
     cases hp1
     exact Nat.le_trans (Fd.iter_ok Fd.foldF_right ho1 1).2 hxa
    ·cases hp1)
   have hbk2:∀d∈cs,Dat.bulk d≤1048576:=fun d hd=>Nat.le_trans (Fd.bulkL_mem hd) HBK.out
   have HC1:=Lib.hid (show Calls Tryz.prog 10 #[.agg #[.slice oc lc kc,.int .i64 x.op,.int .i64 x.n,.slice q r u,.slice q' r' u']] W4 (CvPostS (fun _=>False) p1 W4) from by
    rw[←hp1]
    exact fconvert_anyS cs x _ _ _ _ _ (fun _=>False) W4 (((HCON.out W4 HB4.out).dug fun _ h=>h.elim).wider HB4.out.size) (TrmR.wider HB4.out.size _ _ ((HBODY.out W4 HB4.out).dug fun _ h=>h.elim)) (fun _ h=>h.elim) (HENV.out W4 HB4.out) (by omega) (fun _=>by have:=HCA.out;omega) (fun _=>hbk2))
   have HC2:=Lib.hid (fun (S:Nat→Prop) (W:World) (hz:∀c,S c→w.heap.size≤c) (hS:∀c,S c→c<W.heap.size) (hb:Below w.heap.size w W) (c0 c1 c2 c3:Value) (ht:TrmR (hide W S) W.heap.size (.mk 10 17 [] [x,Trm.shift (rk 20000) x]) [c0,c1,c2,c3])=>show Calls Tryz.prog 10 #[.agg #[.slice oc lc kc,c0,c1,c2,c3]] W (CvPostS S p2 W) from by
    rw[←hp2]
    exact fconvert_anyS cs (.mk 10 17 [] [x,Trm.shift (rk 20000) x]) _ _ _ _ _ S W (((HCON.out W hb).dug hz).wider hb.size) ht hS (HENV.out W hb) (by simp only[Trm.all,Trm.allL,Trm.shift_all];omega) (fun _=>by have:=HCA.out;omega) (fun _=>hbk2))
   have HSH:=Lib.hid (fun (S:Nat→Prop) (W:World) (hz:∀c,S c→w.heap.size≤c) (hS:∀c,S c→c<W.heap.size) (hb:Below w.heap.size w W)=>rshift_any 20000 x S _ _ _ _ W (TrmR.wider hb.size _ _ ((HBODY.out W hb).dug hz)) hS (by omega) (by have:=HBD.out;omega))
   have HBI:=Lib.hid (fun (W:World) (hb:Below w.heap.size w W)=>rBinds_any x _ _ _ _ w.heap.size W (HBODY.out W hb) hb.size (by omega) (by have:=HBD.out;omega))
   have HXA:=Lib.hid hxa
   clear hp1 hp2 hbk2 HF1E HF2E hxa
   have x0:=HX4.out.cell 0 rfl
   have x1:=HX4.out.cell 1 rfl
   have x2:=HX4.out.cell 2 rfl
   have x3:=HX4.out.cell 3 rfl
   have x4:=HX4.out.cell 4 rfl
   have xl:=HX4.out.lt
   go_wp2_with fail
   refine HC1.out.mono ?_
   intro e W6 h
   obtain ⟨v6,rfl,⟨u6,rfl,hpr⟩,hb6⟩:=h.val
   obtain ⟨o1,l1,k1,g1,n1,ov1,lv1,cv1,ot1,lt1,ct1,rfl⟩:=hpr.form
   have HP7:=Lib.hid (PgO.new hpr)
   have hb7:=hb6.trans ((Below.one W6 (.cells #[.slice o1 l1 k1,.int .i64 g1,.int .i64 n1,.slice ov1 lv1 cv1,.slice ot1 lt1 ct1] 28)).mono hb6.size)
   have HX7:=Lib.hid (HX4.out.keep hb7)
   have HB7:=Lib.hid (HB4.out.trans (hb7.mono HB4.out.size))
   obtain ⟨W7,hW7⟩:∃W7,W6.alloc (.cells #[.slice o1 l1 k1,.int .i64 g1,.int .i64 n1,.slice ov1 lv1 cv1,.slice ot1 lt1 ct1] 28)=W7:=⟨_,rfl⟩
   rw[hW7] at HP7 HX7 HB7
   have HW7:=Lib.hid hW7
   clear hpr hb6 hb7 HC1 HX4 HB4 x0 x1 x2 x3 x4 xl h hW7
   obtain ⟨er1,her1⟩:∃er1,errV p1=er1:=⟨_,rfl⟩
   obtain ⟨er2,her2⟩:∃er2,errV p2=er2:=⟨_,rfl⟩
   rw[her1]
   have HE2:=Lib.hid her2
   go_upto_region 5 with fail
   rw[HW7.out]
   clear HW7
   have x1:=HX7.out.cell 1 rfl
   have x2:=HX7.out.cell 2 rfl
   have x3:=HX7.out.cell 3 rfl
   have x4:=HX7.out.cell 4 rfl
   have xl:=HX7.out.lt
   go_wp2_with fail
   refine (HBI.out W7 HB7.out).mono ?_
   rintro e W8 ⟨ob,nb,cb,lb,rfl,hints,_,hb8⟩
   have HP8:=Lib.hid (HP7.out.keep hb8)
   have HX8:=Lib.hid (HX7.out.keep hb8)
   have HB8:=Lib.hid (HB7.out.trans (hb8.mono HB7.out.size))
   have HI8:=Lib.hid hints
   clear hb8 HBI HX7 HB7 HP7 x1 x2 x3 x4 xl hints
   cases p1 with
   | none=>
    obtain rfl:(5:Int)=er1:=her1
    go_wp2_with fail
    go_ret
    exact ⟨rfl,HB8.out⟩
   | some q1=>
    obtain rfl:(0:Int)=er1:=her1
    cases nb with
    | zero=>
     go_wp2_with fail
     go_ret
     exact ⟨rfl,HB8.out⟩
    | succ k=>
     obtain ⟨ib,io,iz,rfl,hic,hib,hz1,hz2⟩:=ints_last HI8.out
     have d1:(((k+1:Nat):Int)==0)=false:=by simp;omega
     have d2:((k+1:Nat)==0)=false:=by simp
     have hk:k<9223372036854775807:=by
      obtain ⟨_,_,_,he,_,hle,hcap,_⟩:=HI8.out
      simp only[Value.slice.injEq] at he
      obtain ⟨_,rfl,rfl⟩:=he
      omega
     by_cases hz:(10000:Int)<iz
     ·have d5:decide (iz > 10000)=true:=decide_eq_true hz
      go_wp2_with fail
      go_ret
      exact ⟨rfl,HB8.out⟩
     have d5:decide (iz > 10000)=false:=decide_eq_false hz
     go_upto_region 8 with fail
     clear d1 d2 d5 hz hic hib hz1 hz2 hk HI8
     have HD8:=Lib.hid ((Below.refl W8.heap.size W8).drew)
     have hz8:=HB8.out.size
     go_cut [7] (fun pb wx=>∃b,pb=.pointer (some ⟨b,0,none⟩)∧W8.heap.size≤b∧Hid (Below W8.heap.size W8 wx)∧Hid (TgO b (.mk 10 17 [] [x,Trm.shift (rk 20000) x]) wx))
     case first=>as_aux_lemma=>
      refine wp_region_stW [0,1,0,1,2,3,4,0,5] [] (SjP W8 x (Trm.shift (rk 20000) x)) (SjR W8.heap.size w.heap.size [.int .i64 x.op,.int .i64 x.n,.slice q r u,.slice q' r' u']) (by kernel_rfl) (by kernel_rfl) (fun _ h=>by cases h) ⟨HD8.out,(fun c h=>by unfold Sb7 at h;cases h),(fun h=>by rw[getD_replicate_false] at h;cases h),(fun h=>by rw[getD_replicate_false] at h;cases h),(fun h=>by rw[getD_replicate_false] at h;cases h),(fun h=>by rw[getD_replicate_false] at h;cases h),(fun h=>by rw[getD_replicate_false] at h;cases h)⟩ ?hops ?hend
      case hops=>
       intro i o8 hi ho listed a w1 hli hld hph hun hdep hrest hsz
       have hbx:=HX8.out.keep hph.below
       have hbw:=HB8.out.trans (hph.below.mono HB8.out.size)
       have hs67:a.tmps.size=103:=hsz.trans rfl
       match i,hi with
       | 0,_=>
        cases ho
        have h1:a.tmps.getD 1 undef=.pointer (some ⟨w.heap.size,0,none⟩):=hrest.at 1 (by kernel_rfl)
        exact wp_valF (v:=.pointer (some ⟨w.heap.size,1,none⟩)) (w':=w1) (by go_simp) ⟨_,rfl,rfl,hph.pure (d:=48) (by omega) rfl,fun j u _ _ h=>sjR_below h (Below.refl _ _) (getD_set_ne false (by decide))⟩
       | 1,_=>
        cases ho
        have h48:a.tmps.getD 48 undef=.pointer (some ⟨w.heap.size,1,none⟩):=hdep.at 0 48 (by kernel_rfl)
        have c1:=hbx.cell 1 rfl
        have c2:=hbx.cell 2 rfl
        have c3:=hbx.cell 3 rfl
        have c4:=hbx.cell 4 rfl
        have cl:=hbx.lt
        exact wp_valF (v:=.agg #[.int .i64 x.op,.int .i64 x.n,.slice q r u,.slice q' r' u']) (w':=w1) (by go_simp) ⟨_,rfl,rfl,hph.pure (d:=49) (by omega) rfl,fun j u _ _ h=>sjR_below h (Below.refl _ _) (getD_set_ne false (by decide))⟩
       | 2,_=>
        cases ho
        have h1:a.tmps.getD 1 undef=.pointer (some ⟨w.heap.size,0,none⟩):=hrest.at 1 (by kernel_rfl)
        exact wp_valF (v:=.pointer (some ⟨w.heap.size,1,none⟩)) (w':=w1) (by go_simp) ⟨_,rfl,rfl,hph.pure (d:=50) (by omega) rfl,fun j u _ _ h=>sjR_below h (Below.refl _ _) (getD_set_ne false (by decide))⟩
       | 3,_=>
        cases ho
        have h50:a.tmps.getD 50 undef=.pointer (some ⟨w.heap.size,1,none⟩):=hdep.at 2 50 (by kernel_rfl)
        have c1:=hbx.cell 1 rfl
        have c2:=hbx.cell 2 rfl
        have c3:=hbx.cell 3 rfl
        have c4:=hbx.cell 4 rfl
        have cl:=hbx.lt
        exact wp_valF (v:=.agg #[.int .i64 x.op,.int .i64 x.n,.slice q r u,.slice q' r' u']) (w':=w1) (by go_simp) ⟨_,rfl,rfl,hph.pure (d:=51) (by omega) rfl,fun j u _ _ h=>sjR_below h (Below.refl _ _) (getD_set_ne false (by decide))⟩
       | 4,_=>
        cases ho
        have h51:a.tmps.getD 51 undef=.agg #[.int .i64 x.op,.int .i64 x.n,.slice q r u,.slice q' r' u']:=hdep.at 3 51 (by kernel_rfl)
        refine wp_callF (vals:=#[.agg #[.int .i64 x.op,.int .i64 x.n,.slice q r u,.slice q' r' u'],.int .i64 20000]) rfl (by simp only[List.map_toArray,List.map_cons,List.map_nil];rw[←h51];rfl) (fun _ _=>rfl) (HSH.out (Sb7 a) w1 (fun c h=>Nat.le_trans hz8 (hph.l7 c h).1) (fun c h=>(hph.l7 c h).2) hbw) ?_
        intro e w' h
        obtain ⟨v,rfl,h1,h2⟩:=h.val
        exact ⟨v,rfl,v,rfl,trivial,hph.step (d:=52) (by omega) (by decide) (by decide) (by decide) h2 (.inr ⟨rfl,h1⟩) (.inl ⟨by decide,by decide⟩) (.inl ⟨by decide,by decide⟩),fun j u _ _ h=>sjR_below h h2 (getD_set_ne false (by decide))⟩
       | 5,_=>
        cases ho
        have h49:a.tmps.getD 49 undef=.agg #[.int .i64 x.op,.int .i64 x.n,.slice q r u,.slice q' r' u']:=hdep.at 1 49 (by kernel_rfl)
        have hd4:listed.getD 4 false=true:=listed_dep hld 4 (by kernel_rfl)
        refine wp_bsT2 (S:=Sb7 a) (x:=x) (y:=Trm.shift (rk 20000) x) rfl ⟨_,_,_,_,_,_,_,_,h49,TrmR.wider hbw.size _ _ ((HBODY.out w1 hbw).dug fun c h=>Nat.le_trans hz8 (hph.l7 c h).1)⟩ (hph.t4 hd4) (fun c h=>(hph.l7 c h).2) fun v w' h1 h2=>?_
        obtain ⟨o3,l3,c3,rfl⟩:=h1.form
        exact ⟨_,rfl,trivial,hph.step (d:=53) (by omega) (by decide) (by decide) (by decide) h2 (.inl ⟨by decide,by decide⟩) (.inr ⟨rfl,_,_,_,rfl,h1⟩) (.inl ⟨by decide,by decide⟩),fun j u _ _ h=>sjR_below h h2 (getD_set_ne false (by decide))⟩
       | 6,_=>
        cases ho
        have hd5:listed.getD 5 false=true:=listed_dep hld 5 (by kernel_rfl)
        obtain ⟨o3,l3,c3,h53,hr3⟩:=hph.t5 hd5
        exact wp_build2c (v:=.agg #[.int .i64 10,.int .i64 17,.slice none 0 0,.slice o3 l3 c3]) rfl h53 (by go_simp) ⟨_,rfl,trivial,hph.step (d:=54) (by omega) (by decide) (by decide) (by decide) (Below.refl _ _) (.inl ⟨by decide,by decide⟩) (.inl ⟨by decide,by decide⟩) (.inr ⟨rfl,10,17,none,o3,0,0,l3,c3,rfl,trmR_iff.2 ⟨_,_,rfl,⟨by omega,by omega⟩,⟨by omega,by omega⟩,⟨none,0,0,rfl,rfl,by omega,by omega,rfl,rfl⟩,hr3⟩⟩),fun j u _ _ h=>sjR_below h (Below.refl _ _) (getD_set_ne false (by decide))⟩
       | 7,_=>
        cases ho
        exact wp_valF (v:=.pointer (some ⟨w1.heap.size,0,none⟩)) (w':=w1.alloc (.cells #[.int .i64 0,.int .i64 0,.slice none 0 0,.slice none 0 0] 26)) (by go_simp) ⟨_,rfl,⟨_,rfl,hph.below.size,fun _=>BoxL.new rfl _ _⟩,hph.box (by omega) hun,fun j u _ _ h=>sjR_below h (Below.one _ _) (getD_set_ne false (by decide))⟩
       | 8,_=>
        cases ho
        have hl8:(listed.setIfInBounds 8 true).getD 8 false=true:=by simp[hli]
        obtain ⟨b,h7,hzb,hbx7⟩:SjR W8.heap.size w.heap.size [.int .i64 x.op,.int .i64 x.n,.slice q r u,.slice q' r' u'] listed 7 (a.tmps.getD 7 undef) w1:=hdep.at 7 7 (by kernel_rfl)
        have hb7:=hbx7 hun
        obtain ⟨o3,n3,ov3,ot3,lv3,cv3,lt3,ct3,h54,hr3⟩:=hph.t6 (listed_dep hld 6 (by kernel_rfl))
        have HPO:=TgO.set hb7 (show Sb7 a b from h7) hr3
        have z0:=hb7.cell 0 rfl
        have z1:=hb7.cell 1 rfl
        have z2:=hb7.cell 2 rfl
        have z3:=hb7.cell 3 rfl
        have y0:=hb7.free 0
        have y1:=hb7.free 1
        have y2:=hb7.free 2
        have y3:=hb7.free 3
        have zl:=hb7.lt
        refine wp_skipF (w':=(((w1.setCell ⟨b,0,none⟩ (.int .i64 o3)).setCell ⟨b,1,none⟩ (.int .i64 n3)).setCell ⟨b,2,none⟩ (.slice ov3 lv3 cv3)).setCell ⟨b,3,none⟩ (.slice ot3 lt3 ct3)) (by go_simp) ⟨undef,rfl,trivial,hph.set h7 (listed_dep hld 7 (by kernel_rfl)) _ _ _ _ HPO,fun j u hj _ h=>?_⟩
        by_cases e:j=7
        ·subst e
         obtain ⟨b',hb',hz',_⟩:=h
         exact ⟨b',hb',hz',fun g=>(by rw[hl8] at g;cases g)⟩
        ·exact sjR_other h e
       | i+9,hi=>exact absurd hi (by simp)
      case hend=>
       intro listed a w1 hdf hsz hls hph hval hrest
       obtain ⟨b,h7,hpo⟩:=hph.t8 (hls 8 (by simp))
       have hzb:=(hph.l7 b h7).1
       obtain ⟨f9,ha,hf⟩:=act_spellF [false,false,false,false,false,false,false,true,false,false,false,false,false,false,false,false,false,false,false,false,false,false,false,false,false,false,false,false,false,false,false,false,false,false,false,false,false,false,false,false,false,false,false,false,false,false,false,false,true,true,true,true,true,true,true,false,false,false,false,false,false,false,false,false,false,false,false,false,false,false,false,false,false,false,false,false,false,false,false,false,false,false,false,false,false,false,false,false,false,false,false,false,false,false,false,false,false,false,false,false,false,false,false] (by kernel_rfl) hdf hsz hrest
       unfold Sb7 at h7
       rw[←hf] at h7
       subst ha
       have HB1:=Lib.hid hph.below
       have HPO:=Lib.hid hpo
       clear hval hrest hf hdf hsz hls hph hpo
       simp only[spellF,h7]
       go_wp2_with fail
       go_meet
       exact ⟨b,rfl,hzb,HB1,HPO⟩
     case rest=>
      obtain ⟨b,rfl,hzb,HBC,HTO⟩:=hcut
      have HB9:=Lib.hid (HB8.out.trans (HBC.out.mono HB8.out.size))
      have HX9:=Lib.hid (HX8.out.keep HBC.out)
      have HP9:=Lib.hid (HP8.out.keep HBC.out)
      obtain ⟨tq,tn,tov,tlv,tcv,tot,tlt,tct,htb,htr⟩:=HTO.out
      have HC3:=Lib.hid (HC2.out (fun c=>c=b) wc (fun c e=>by omega) (fun c e=>by rw[e];exact htb.lt) HB9.out _ _ _ _ htr)
      have HTB:=Lib.hid htb
      clear HSH HC2 HD8 HX8 HP8 HB8 hz8 hzb HBC HTO htb htr
      have x0:=HX9.out.cell 0 rfl
      have xl:=HX9.out.lt
      have z0:=HTB.out.cell 0 rfl
      have z1:=HTB.out.cell 1 rfl
      have z2:=HTB.out.cell 2 rfl
      have z3:=HTB.out.cell 3 rfl
      have zl:=HTB.out.lt
      go_wp2_with fail
      refine HC3.out.mono ?_
      intro e W10 h
      obtain ⟨v10,rfl,⟨u10,rfl,hpr⟩,hb10⟩:=h.val
      obtain ⟨o3,l3,k3,g3,n3,ov3,lv3,cv3,ot3,lt3,ct3,rfl⟩:=hpr.form
      have HP11:=Lib.hid (PgO.new hpr)
      have hb11:=hb10.trans ((Below.one W10 (.cells #[.slice o3 l3 k3,.int .i64 g3,.int .i64 n3,.slice ov3 lv3 cv3,.slice ot3 lt3 ct3] 28)).mono hb10.size)
      have HB11:=Lib.hid (HB9.out.trans (hb11.mono HB9.out.size))
      have HQ11:=Lib.hid (HP9.out.keep hb11)
      obtain ⟨W11,hW11⟩:∃W11,W10.alloc (.cells #[.slice o3 l3 k3,.int .i64 g3,.int .i64 n3,.slice ov3 lv3 cv3,.slice ot3 lt3 ct3] 28)=W11:=⟨_,rfl⟩
      rw[hW11] at HP11 HB11 HQ11
      have HW11:=Lib.hid hW11
      clear hpr hb10 hb11 HC3 HX9 HB9 HP9 HTB x0 xl z0 z1 z2 z3 zl h hW11
      rw[HE2.out]
      go_upto_region 10 with fail
      rw[HW11.out]
      clear HW11
      cases p2 with
      | none=>
       obtain rfl:(5:Int)=er2:=HE2.out
       go_wp2_with fail
       go_ret
       exact ⟨rfl,HB11.out⟩
      | some q2=>
       obtain rfl:(0:Int)=er2:=HE2.out
       obtain ⟨y,hq2,hya⟩:=HPP.out q1 q2 rfl rfl
       have hqa:=HQ1.out q1 rfl
       obtain ⟨oc5,lc5,kc5,g5,n5,ov5,lv5,cv5,ot5,lt5,ct5,hx5,hr5,ht5⟩:=HQ11.out.some2
       obtain ⟨oc6,lc6,kc6,g6,n6,ov6,lv6,cv6,ot6,lt6,ct6,hx6,hr6,ht6⟩:=HP11.out.some2
       rw[hq2] at ht6
       obtain ⟨vs,ts,he,_,_,hvs,hts⟩:=trmR_iff.1 ht6
       simp only[List.cons.injEq,Value.int.injEq,true_and,and_true] at he
       obtain ⟨rfl,rfl,rfl,rfl⟩:=he
       obtain ⟨rfl,tb,tof,rfl,htl,c0,c1,c2,c3,d0,d1,d2,d3,htc,htd,⟨e0,e1,e2,e3⟩,e4,e5,e6,e7⟩:=terms_two hts
       have HX5:=Lib.hid hx5
       have HX6:=Lib.hid hx6
       have HCA6:=Lib.hid (fun W (hb:Below W11.heap.size W11 W)=>show W.cell? ⟨tb,tof,none⟩=some c0∧W.cell? ⟨tb,tof+1,none⟩=some c1∧W.cell? ⟨tb,tof+2,none⟩=some c2∧W.cell? ⟨tb,tof+3,none⟩=some c3∧tb<W.heap.size from ⟨(hb.cell (p:=⟨tb,tof,none⟩) htl).trans e0,(hb.cell (p:=⟨tb,tof+1,none⟩) htl).trans e1,(hb.cell (p:=⟨tb,tof+2,none⟩) htl).trans e2,(hb.cell (p:=⟨tb,tof+3,none⟩) htl).trans e3,Nat.lt_of_lt_of_le htl hb.size⟩)
       have HDA6:=Lib.hid (fun W (hb:Below W11.heap.size W11 W)=>show W.cell? ⟨tb,tof+4,none⟩=some d0∧W.cell? ⟨tb,tof+5,none⟩=some d1∧W.cell? ⟨tb,tof+6,none⟩=some d2∧W.cell? ⟨tb,tof+7,none⟩=some d3∧tb<W.heap.size from ⟨(hb.cell (p:=⟨tb,tof+4,none⟩) htl).trans e4,(hb.cell (p:=⟨tb,tof+5,none⟩) htl).trans e5,(hb.cell (p:=⟨tb,tof+6,none⟩) htl).trans e6,(hb.cell (p:=⟨tb,tof+7,none⟩) htl).trans e7,Nat.lt_of_lt_of_le htl hb.size⟩)
       have HSC:=Lib.hid (fun W (hb:Below W11.heap.size W11 W)=>tSize_any q1.1 c0 c1 c2 c3 W11.heap.size W (TrmR.kept hb _ _ htc) hb.size (by omega))
       have HSD:=Lib.hid (fun W (hb:Below W11.heap.size W11 W)=>show Calls Tryz.prog 18 #[.agg #[d0,d1,d2,d3]] W fun e w'=>e=.returned (.int .i64 q1.1.all)∧Below W.heap.size W w' from by
        have:=tSize_any y d0 d1 d2 d3 W11.heap.size W (TrmR.kept hb _ _ htd) hb.size (by omega)
        rwa[hya] at this)
       have HSQ:=Lib.hid (fun W (hb:Below W11.heap.size W11 W)=>tSize_any q1.1 _ _ _ _ W11.heap.size W (TrmR.kept hb _ _ ht5) hb.size (by omega))
       have HD:=Lib.hid ((Below.refl W11.heap.size W11).drew)
       clear hx5 hx6 hr5 hr6 ht5 ht6 hqa HQ1 HPP HP11 HQ11 hvs hts htc htd e0 e1 e2 e3 e4 e5 e6 e7 hya hq2
       have y4:=HX6.out.cell 4 rfl
       have yl:=HX6.out.lt
       go_upto_region 13 with fail
       clear y4 yl
       refine wp_region_stW (List.range 34) [1,5,19] (fun _ _ W=>Below W11.heap.size W11 W) (fun _ i v _=>SkR W10.heap.size W6.heap.size tb tof ct6 [c0,c1,c2,c3] [d0,d1,d2,d3] [.int .i64 g5,.int .i64 n5,.slice ov5 lv5 cv5,.slice ot5 lt5 ct5] q1.1.all i v) (by kernel_rfl) (by kernel_rfl) (fun g hg _ v w h=>?gs) HD.out ?hops ?hend
       case gs=>
        simp only[List.mem_cons,List.not_mem_nil,or_false] at hg
        rcases hg with rfl | rfl | rfl<;>exact h
       case hops=>
        intro i o8 hi ho listed a w1 hli hld hph hun hdep hrest hsz
        have hb5:=HX5.out.keep hph
        have hb6:=HX6.out.keep hph
        match i,hi with
        | 0,_=>
         cases ho
         have h3:a.tmps.getD 3 undef=.bool true:=hrest.at 3 (by kernel_rfl)
         exact wp_valF (v:=.bool true) (w':=w1) (by go_simp) ⟨_,rfl,rfl,hph,fun j u _ _ h=>h⟩
        | 1,_=>
         cases ho
         have h70:a.tmps.getD 70 undef=.bool true:=hdep.at 0 70 (by kernel_rfl)
         exact wp_valF (v:=.bool true) (w':=w1) (by go_simp) ⟨_,rfl,rfl,hph,fun j u _ _ h=>h⟩
        | 2,_=>
         cases ho
         have h10:a.tmps.getD 10 undef=.int .i64 2:=hrest.at 10 (by kernel_rfl)
         exact wp_valF (v:=.int .i64 2) (w':=w1) (by go_simp) ⟨_,rfl,rfl,hph,fun j u _ _ h=>h⟩
        | 3,_=>
         cases ho
         have h72:a.tmps.getD 72 undef=.int .i64 2:=hdep.at 2 72 (by kernel_rfl)
         exact wp_valF (v:=.bool true) (w':=w1) (by go_simp) ⟨_,rfl,rfl,hph,fun j u _ _ h=>h⟩
        | 4,_=>
         cases ho
         have h71:a.tmps.getD 71 undef=.bool true:=hdep.at 1 71 (by kernel_rfl)
         have h73:a.tmps.getD 73 undef=.bool true:=hdep.at 3 73 (by kernel_rfl)
         exact wp_valF (v:=.bool true) (w':=w1) (by go_simp) ⟨_,rfl,rfl,hph,fun j u _ _ h=>h⟩
        | 5,_=>
         cases ho
         have h74:a.tmps.getD 74 undef=.bool true:=hdep.at 4 74 (by kernel_rfl)
         exact wp_valF (v:=.bool true) (w':=w1) (by go_simp) ⟨_,rfl,rfl,hph,fun j u _ _ h=>h⟩
        | 6,_=>
         cases ho
         have h8:a.tmps.getD 8 undef=.pointer (some ⟨W10.heap.size,0,none⟩):=hrest.at 8 (by kernel_rfl)
         exact wp_valF (v:=.pointer (some ⟨W10.heap.size,1,none⟩)) (w':=w1) (by go_simp) ⟨_,rfl,rfl,hph,fun j u _ _ h=>h⟩
        | 7,_=>
         cases ho
         have h76:a.tmps.getD 76 undef=.pointer (some ⟨W10.heap.size,1,none⟩):=hdep.at 6 76 (by kernel_rfl)
         exact wp_valF (v:=.pointer (some ⟨W10.heap.size,4,none⟩)) (w':=w1) (by go_simp) ⟨_,rfl,rfl,hph,fun j u _ _ h=>h⟩
        | 8,_=>
         cases ho
         have h77:a.tmps.getD 77 undef=.pointer (some ⟨W10.heap.size,4,none⟩):=hdep.at 7 77 (by kernel_rfl)
         have c4:=hb6.cell 4 rfl
         have cl:=hb6.lt
         exact wp_valF (v:=.slice (some ⟨tb,tof,none⟩) 2 ct6) (w':=w1) (by go_simp) ⟨_,rfl,rfl,hph,fun j u _ _ h=>h⟩
        | 9,_=>
         cases ho
         have h10:a.tmps.getD 10 undef=.int .i64 2:=hrest.at 10 (by kernel_rfl)
         exact wp_valF (v:=.int .i64 2) (w':=w1) (by go_simp) ⟨_,rfl,rfl,hph,fun j u _ _ h=>h⟩
        | 10,_=>
         cases ho
         have h79:a.tmps.getD 79 undef=.int .i64 2:=hdep.at 9 79 (by kernel_rfl)
         exact wp_valF (v:=.int .i64 0) (w':=w1) (by go_simp;rfl) ⟨_,rfl,rfl,hph,fun j u _ _ h=>h⟩
        | 11,_=>
         cases ho
         have h78:a.tmps.getD 78 undef=.slice (some ⟨tb,tof,none⟩) 2 ct6:=hdep.at 8 78 (by kernel_rfl)
         have h80:a.tmps.getD 80 undef=.int .i64 0:=hdep.at 10 80 (by kernel_rfl)
         exact wp_valF (v:=.pointer (some ⟨tb,tof,none⟩)) (w':=w1) (by go_simp) ⟨_,rfl,rfl,hph,fun j u _ _ h=>h⟩
        | 12,_=>
         cases ho
         have h81:a.tmps.getD 81 undef=.pointer (some ⟨tb,tof,none⟩):=hdep.at 11 81 (by kernel_rfl)
         obtain ⟨e0,e1,e2,e3,el⟩:=HCA6.out w1 hph
         exact wp_valF (v:=.agg #[c0,c1,c2,c3]) (w':=w1) (by go_simp) ⟨_,rfl,rfl,hph,fun j u _ _ h=>h⟩
        | 13,_=>
         cases ho
         have h82:a.tmps.getD 82 undef=.agg #[c0,c1,c2,c3]:=hdep.at 12 82 (by kernel_rfl)
         refine wp_callF (vals:=#[.agg #[c0,c1,c2,c3]]) rfl (by simp only[List.map_toArray,List.map_cons,List.map_nil];rw[←h82];rfl) (fun _ _=>rfl) (HSC.out w1 hph) ?_
         rintro e w' ⟨rfl,h2⟩
         exact ⟨_,rfl,_,rfl,rfl,hph.trans (h2.mono hph.size),fun j u _ _ h=>h⟩
        | 14,_=>
         cases ho
         have h4:a.tmps.getD 4 undef=.pointer (some ⟨W6.heap.size,0,none⟩):=hrest.at 4 (by kernel_rfl)
         exact wp_valF (v:=.pointer (some ⟨W6.heap.size,1,none⟩)) (w':=w1) (by go_simp) ⟨_,rfl,rfl,hph,fun j u _ _ h=>h⟩
        | 15,_=>
         cases ho
         have h84:a.tmps.getD 84 undef=.pointer (some ⟨W6.heap.size,1,none⟩):=hdep.at 14 84 (by kernel_rfl)
         have c1:=hb5.cell 1 rfl
         have c2:=hb5.cell 2 rfl
         have c3:=hb5.cell 3 rfl
         have c4:=hb5.cell 4 rfl
         have cl:=hb5.lt
         exact wp_valF (v:=.agg #[.int .i64 g5,.int .i64 n5,.slice ov5 lv5 cv5,.slice ot5 lt5 ct5]) (w':=w1) (by go_simp) ⟨_,rfl,rfl,hph,fun j u _ _ h=>h⟩
        | 16,_=>
         cases ho
         have h85:a.tmps.getD 85 undef=.agg #[.int .i64 g5,.int .i64 n5,.slice ov5 lv5 cv5,.slice ot5 lt5 ct5]:=hdep.at 15 85 (by kernel_rfl)
         refine wp_callF (vals:=#[.agg #[.int .i64 g5,.int .i64 n5,.slice ov5 lv5 cv5,.slice ot5 lt5 ct5]]) rfl (by simp only[List.map_toArray,List.map_cons,List.map_nil];rw[←h85];rfl) (fun _ _=>rfl) (HSQ.out w1 hph) ?_
         rintro e w' ⟨rfl,h2⟩
         exact ⟨_,rfl,_,rfl,rfl,hph.trans (h2.mono hph.size),fun j u _ _ h=>h⟩
        | 17,_=>
         cases ho
         have h83:a.tmps.getD 83 undef=.int .i64 q1.1.all:=hdep.at 13 83 (by kernel_rfl)
         have h86:a.tmps.getD 86 undef=.int .i64 q1.1.all:=hdep.at 16 86 (by kernel_rfl)
         exact wp_valF (v:=.bool true) (w':=w1) (by go_simp) ⟨_,rfl,rfl,hph,fun j u _ _ h=>h⟩
        | 18,_=>
         cases ho
         have h75:a.tmps.getD 75 undef=.bool true:=hdep.at 5 75 (by kernel_rfl)
         have h87:a.tmps.getD 87 undef=.bool true:=hdep.at 17 87 (by kernel_rfl)
         exact wp_valF (v:=.bool true) (w':=w1) (by go_simp) ⟨_,rfl,rfl,hph,fun j u _ _ h=>h⟩
        | 19,_=>
         cases ho
         have h88:a.tmps.getD 88 undef=.bool true:=hdep.at 18 88 (by kernel_rfl)
         exact wp_valF (v:=.bool true) (w':=w1) (by go_simp) ⟨_,rfl,rfl,hph,fun j u _ _ h=>h⟩
        | 20,_=>
         cases ho
         have h8:a.tmps.getD 8 undef=.pointer (some ⟨W10.heap.size,0,none⟩):=hrest.at 8 (by kernel_rfl)
         exact wp_valF (v:=.pointer (some ⟨W10.heap.size,1,none⟩)) (w':=w1) (by go_simp) ⟨_,rfl,rfl,hph,fun j u _ _ h=>h⟩
        | 21,_=>
         cases ho
         have h90:a.tmps.getD 90 undef=.pointer (some ⟨W10.heap.size,1,none⟩):=hdep.at 20 90 (by kernel_rfl)
         exact wp_valF (v:=.pointer (some ⟨W10.heap.size,4,none⟩)) (w':=w1) (by go_simp) ⟨_,rfl,rfl,hph,fun j u _ _ h=>h⟩
        | 22,_=>
         cases ho
         have h91:a.tmps.getD 91 undef=.pointer (some ⟨W10.heap.size,4,none⟩):=hdep.at 21 91 (by kernel_rfl)
         have c4:=hb6.cell 4 rfl
         have cl:=hb6.lt
         exact wp_valF (v:=.slice (some ⟨tb,tof,none⟩) 2 ct6) (w':=w1) (by go_simp) ⟨_,rfl,rfl,hph,fun j u _ _ h=>h⟩
        | 23,_=>
         cases ho
         have h10:a.tmps.getD 10 undef=.int .i64 2:=hrest.at 10 (by kernel_rfl)
         exact wp_valF (v:=.int .i64 2) (w':=w1) (by go_simp) ⟨_,rfl,rfl,hph,fun j u _ _ h=>h⟩
        | 24,_=>
         cases ho
         have h93:a.tmps.getD 93 undef=.int .i64 2:=hdep.at 23 93 (by kernel_rfl)
         exact wp_valF (v:=.int .i64 1) (w':=w1) (by go_simp;rfl) ⟨_,rfl,rfl,hph,fun j u _ _ h=>h⟩
        | 25,_=>
         cases ho
         have h92:a.tmps.getD 92 undef=.slice (some ⟨tb,tof,none⟩) 2 ct6:=hdep.at 22 92 (by kernel_rfl)
         have h94:a.tmps.getD 94 undef=.int .i64 1:=hdep.at 24 94 (by kernel_rfl)
         exact wp_valF (v:=.pointer (some ⟨tb,tof+4,none⟩)) (w':=w1) (by go_simp) ⟨_,rfl,rfl,hph,fun j u _ _ h=>h⟩
        | 26,_=>
         cases ho
         have h95:a.tmps.getD 95 undef=.pointer (some ⟨tb,tof+4,none⟩):=hdep.at 25 95 (by kernel_rfl)
         obtain ⟨e0,e1,e2,e3,el⟩:=HDA6.out w1 hph
         exact wp_valF (v:=.agg #[d0,d1,d2,d3]) (w':=w1) (by go_simp) ⟨_,rfl,rfl,hph,fun j u _ _ h=>h⟩
        | 27,_=>
         cases ho
         have h96:a.tmps.getD 96 undef=.agg #[d0,d1,d2,d3]:=hdep.at 26 96 (by kernel_rfl)
         refine wp_callF (vals:=#[.agg #[d0,d1,d2,d3]]) rfl (by simp only[List.map_toArray,List.map_cons,List.map_nil];rw[←h96];rfl) (fun _ _=>rfl) (HSD.out w1 hph) ?_
         rintro e w' ⟨rfl,h2⟩
         exact ⟨_,rfl,_,rfl,rfl,hph.trans (h2.mono hph.size),fun j u _ _ h=>h⟩
        | 28,_=>
         cases ho
         have h4:a.tmps.getD 4 undef=.pointer (some ⟨W6.heap.size,0,none⟩):=hrest.at 4 (by kernel_rfl)
         exact wp_valF (v:=.pointer (some ⟨W6.heap.size,1,none⟩)) (w':=w1) (by go_simp) ⟨_,rfl,rfl,hph,fun j u _ _ h=>h⟩
        | 29,_=>
         cases ho
         have h98:a.tmps.getD 98 undef=.pointer (some ⟨W6.heap.size,1,none⟩):=hdep.at 28 98 (by kernel_rfl)
         have c1:=hb5.cell 1 rfl
         have c2:=hb5.cell 2 rfl
         have c3:=hb5.cell 3 rfl
         have c4:=hb5.cell 4 rfl
         have cl:=hb5.lt
         exact wp_valF (v:=.agg #[.int .i64 g5,.int .i64 n5,.slice ov5 lv5 cv5,.slice ot5 lt5 ct5]) (w':=w1) (by go_simp) ⟨_,rfl,rfl,hph,fun j u _ _ h=>h⟩
        | 30,_=>
         cases ho
         have h99:a.tmps.getD 99 undef=.agg #[.int .i64 g5,.int .i64 n5,.slice ov5 lv5 cv5,.slice ot5 lt5 ct5]:=hdep.at 29 99 (by kernel_rfl)
         refine wp_callF (vals:=#[.agg #[.int .i64 g5,.int .i64 n5,.slice ov5 lv5 cv5,.slice ot5 lt5 ct5]]) rfl (by simp only[List.map_toArray,List.map_cons,List.map_nil];rw[←h99];rfl) (fun _ _=>rfl) (HSQ.out w1 hph) ?_
         rintro e w' ⟨rfl,h2⟩
         exact ⟨_,rfl,_,rfl,rfl,hph.trans (h2.mono hph.size),fun j u _ _ h=>h⟩
        | 31,_=>
         cases ho
         have h97:a.tmps.getD 97 undef=.int .i64 q1.1.all:=hdep.at 27 97 (by kernel_rfl)
         have h100:a.tmps.getD 100 undef=.int .i64 q1.1.all:=hdep.at 30 100 (by kernel_rfl)
         exact wp_valF (v:=.bool true) (w':=w1) (by go_simp) ⟨_,rfl,rfl,hph,fun j u _ _ h=>h⟩
        | 32,_=>
         cases ho
         have h89:a.tmps.getD 89 undef=.bool true:=hdep.at 19 89 (by kernel_rfl)
         have h101:a.tmps.getD 101 undef=.bool true:=hdep.at 31 101 (by kernel_rfl)
         exact wp_valF (v:=.bool true) (w':=w1) (by go_simp) ⟨_,rfl,rfl,hph,fun j u _ _ h=>h⟩
        | 33,_=>
         cases ho
         have h102:a.tmps.getD 102 undef=.bool true:=hdep.at 32 102 (by kernel_rfl)
         exact wp_valF (v:=.bool true) (w':=w1) (by go_simp) ⟨_,rfl,rfl,hph,fun j u _ _ h=>h⟩
        | i+34,hi=>exact absurd hi (by simp)
       case hend=>
        intro listed a w1 hdf hsz hls hph hval hrest
        have h2:a.tmps.getD 2 undef=.bool true:=hval 33 _ 2 rfl rfl
        obtain ⟨f9,ha,hf⟩:=act_spellF [false,false,true,false,false,false,false,false,false,false,false,false,false,false,false,false,false,false,false,false,false,false,false,false,false,false,false,false,false,false,false,false,false,false,false,false,false,false,false,false,false,false,false,false,false,false,false,false,false,false,false,false,false,false,false,false,false,false,false,false,false,false,false,false,false,false,false,false,false,false,true,true,true,true,true,true,true,true,true,true,true,true,true,true,true,true,true,true,true,true,true,true,true,true,true,true,true,true,true,true,true,true,true] (by kernel_rfl) hdf hsz hrest
        rw[←hf] at h2
        subst ha
        have HB1:=Lib.hid (HB11.out.trans (hph.mono HB11.out.size))
        clear hval hrest hf hdf hsz hls hph
        simp only[spellF,h2]
        go_wp2_with fail
        go_ret
        exact ⟨rfl,HB1.out⟩
end
end Go.Proofs.YtgbibibmpoekiaaGreatDoor
