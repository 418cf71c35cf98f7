/-
  What the proofs lean on: Sums.
-/
import Derived.Deep.Cut
import Derived.Test.YtgbibibmpoekiaaGreatDoorShfA11
set_option maxRecDepth 100000
set_option maxHeartbeats 16000000
namespace Go.Proofs.YtgbibibmpoekiaaGreatDoor
section
open Go.RowKit
theorem mk_bd (n d:Int):-2147483647≤(Num.mk n d).1∧(Num.mk n d).1≤2147483647∧-2147483647≤(Num.mk n d).2.1∧(Num.mk n d).2.1≤2147483647∧((Num.mk n d).2.2=0→Num.right (Num.mk n d).1 (Num.mk n d).2.1=true):=by
 rcases Num.mk_end n d with ⟨h,_⟩ | ⟨h,h1,h2⟩ | ⟨h,h1,h2⟩
 ·have:=(Num.mk_done (n:=n) (d:=d) (a:=(Num.mk n d).1) (b:=(Num.mk n d).2.1) (by rw[←h])).1
  have h3:=(Num.right_iff _ _).1 this
  exact ⟨by omega,by omega,by omega,by omega,fun _=>this⟩
 ·rw[h,h1,h2];exact ⟨by omega,by omega,by omega,by omega,fun h=>by omega⟩
 ·rw[h,h1,h2];exact ⟨by omega,by omega,by omega,by omega,fun h=>by omega⟩
theorem step_bd {n a b c d x y z:Int} (h:Prims.step n a b c d=(x,y,z)):-2147483647≤x∧x≤2147483647∧-2147483647≤y∧y≤2147483647∧(z=0→Num.right x y=true):=by
 have key:∀(q:Bool) (p:Int × Int × Int),(-2147483647≤p.1∧p.1≤2147483647∧-2147483647≤p.2.1∧p.2.1≤2147483647∧(p.2.2=0→Num.right p.1 p.2.1=true))→(if q=true then p else (0,0,3))=(x,y,z)→-2147483647≤x∧x≤2147483647∧-2147483647≤y∧y≤2147483647∧(z=0→Num.right x y=true):=by
  intro q p hp he
  cases q with
  | true=>rw[if_pos rfl] at he;rw[he] at hp;exact hp
  | false=>
   rw[if_neg (by simp)] at he
   simp only[Prod.mk.injEq] at he
   obtain ⟨rfl,rfl,rfl⟩:=he
   exact ⟨by omega,by omega,by omega,by omega,fun h=>by omega⟩
 unfold Prims.step at h
 split at h
 ·exact key _ _ (mk_bd _ _) h
 split at h
 ·exact key _ _ (mk_bd _ _) h
 split at h
 ·exact key _ _ (mk_bd _ _) h
 ·exact key _ _ (mk_bd _ _) h
theorem part_atS {w wr:World} {B:Nat} {l:List Dat} {o:Option Addr} {len cap j:Nat} {x:Dat} (h:RepS w B l (.slice o len cap)) (hb:Below B w wr) (hx:l[j]?=some x) :
  ∃b off k n d s l' o' len' cap',o=some ⟨b,off,none⟩∧x=.mk k n d s l'∧wr.cell? ⟨b,off+j*5,none⟩=some (.int .i64 k)∧wr.cell? ⟨b,off+j*5+1,none⟩=some (.int .i64 n)∧wr.cell? ⟨b,off+j*5+2,none⟩=some (.int .i64 d) ∧
   wr.cell? ⟨b,off+j*5+3,none⟩=some (.string s)∧wr.cell? ⟨b,off+j*5+4,none⟩=some (.slice o' len' cap')∧RepD wr B (.mk k n d s l') (.agg #[.int .i64 k,.int .i64 n,.int .i64 d,.string s,.slice o' len' cap']):=by
 obtain ⟨o2,len2,cap2,he,_,_,_,h2⟩:=h
 simp only[Value.slice.injEq] at he
 obtain ⟨rfl,rfl,rfl⟩:=he
 exact part_at2 h2 hb hx
def SumsI (n:Int) (R:Dat × Int) (M:List Dat) (first:Bool) (H H6:Nat) (w:World) (j:Nat) (wr:World):Prop:=
 (∃(a b:Int) (k:Int) (s:ByteArray) (o:Option Addr) (len cap:Nat),Box5 wr H6 45 (.int .i64 k) (.int .i64 a) (.int .i64 b) (.string s) (.slice o len cap)∧(-9223372036854775808≤a∧a≤9223372036854775807)∧(-9223372036854775808≤b∧b≤9223372036854775807) ∧
  ((first=true∧j=0)∨(k=0∧s=⟨#[]⟩∧o=none∧len=0∧cap=0))∧Prims.sumsL n (M.drop j) a b=R)∧Box5 wr H 45 (.int .i64 0) (.int .i64 0) (.int .i64 0) (.string ⟨#[]⟩) (.slice none 0 0)∧Below w.heap.size w wr
theorem sumsL_step {n:Int} {M:List Dat} {j:Nat} {x:Dat} {a b p q z:Int} (h:M[j]?=some x) (hs:Prims.step n a b x.n x.d=(p,q,z)):Prims.sumsL n (M.drop j) a b=if z=0 then Prims.sumsL n (M.drop (j+1)) p q else (Prims.zeroD,z):=by
 obtain ⟨hj,he⟩:=List.getElem?_eq_some_iff.1 h
 rw[←he] at hs
 rw[List.drop_eq_getElem_cons hj,Prims.sumsL,hs]
theorem sums_0 (l:List Dat) (sl:Value) (B:Nat) (w:World) (hv:RepS w B l sl) (hB:B≤w.heap.size) (B2:Nat) :
  Calls Tryz.prog 114 #[.int .i64 0,sl] w (EndPost B2 (Prims.sums 0 l) w):=by
 obtain ⟨o,len,cap,rfl,hl,hcap,hmax,hc⟩:=hv.wider hB
 obtain ⟨r,hr⟩:∃r,(l.any fun x=>decide (x.kind≠0))=r:=⟨_,rfl⟩
 obtain ⟨R,hR⟩:∃R,Prims.sums 0 l=R:=⟨_,rfl⟩
 rw[hR]
 unfold Prims.sums at hR
 rw[hr] at hR
 have HR:=Lib.hid hR
 have HC:=Lib.hid hc
 have HL:=Lib.hid hl
 have HCF:=Lib.hid (fun W (hb:Below w.heap.size w W)=>containsFunc_any 140 #[] (fun x=>decide (x.kind≠0)) r l o len cap w.heap.size W hl hcap hmax (by
   cases o with
   | none=>exact hc
   | some a=>exact ⟨fun h=>hc.1 h,if h:l=[] then by rw[h,RepC];trivial else hc.2.kept (hc.1 h).2 hb⟩) hb.size (fun args w=>Tryz.call140 args w) (fun x _ v w' hx _=>by
   obtain ⟨k',n',d',s',o',len',cap',rfl⟩:=agg_of hx
   obtain ⟨kx,nx,dx,sx,lx⟩:=x
   obtain ⟨_,he,_⟩:=hx.open
   simp only[Value.agg.injEq,Array.mk.injEq,List.cons.injEq,Value.int.injEq,true_and] at he
   obtain ⟨rfl,_⟩:=he
   have:=sums1_any k' n' d' s' o' len' cap' w'
   rw[show (k' != 0)=decide (k'≠0) from by rw[Bool.eq_iff_iff,bne_iff_ne,decide_eq_true_eq]] at this
   exact this) hr)
 clear hc hl hR hv
 have HK:=Lib.hid (fun X=>(Below.refl w.heap.size w).alloc (Nat.le_refl _) X)
 cases r with
 | true=>
  obtain rfl:(Prims.zeroD,1)=R:=by rw[←HR.out];simp
  go_enter Tryz.func114,Tryz.ntmps114
  go_wp2_with fail
  refine (HCF.out _ (HK.out _)).mono ?_
  rintro e1 w1 ⟨rfl,hb1⟩
  have hbox:Box5 w1 w.heap.size 45 (.int .i64 0) (.int .i64 0) (.int .i64 0) (.string ⟨#[]⟩) (.slice none 0 0):=(hb1.block _ (by simp)).trans (Box5.new w _ _ _ _ _ _)
  obtain ⟨q0,q1,q2,q3,q4⟩:=hbox.cells
  obtain ⟨z0,z1,z2,z3,z4⟩:=hbox.free
  have hlt:=hbox.lt
  obtain ⟨r0,r1,r2,r3,r4⟩:=(hbox.set (.int .i64 0) (.int .i64 0) (.int .i64 0) (.string ⟨#[]⟩) (.slice none 0 0)).cells
  have HB:=Lib.hid ((one_below hb1).trans (set5_below w1 w.heap.size w.heap.size (.int .i64 0) (.int .i64 0) (.int .i64 0) (.string ⟨#[]⟩) (.slice none 0 0) (Nat.le_refl _)))
  go_wp2_with fail
  exact bodyPost_ret (v:=.tuple #[leafV 0 0 0,.int .i64 1]) (by simp[results,Tryz.results114,go_sem,leafV,r0,r1,r2,r3,r4]) rfl (endPost_leaf (by omega) (by omega) (by omega) rfl HB.out)
 | false=>
  go_enter Tryz.func114,Tryz.ntmps114
  go_wp2_with fail
  refine (HCF.out _ (HK.out _)).mono ?_
  rintro e1 w1 ⟨rfl,hb1⟩
  have hbox:Box5 w1 w.heap.size 45 (.int .i64 0) (.int .i64 0) (.int .i64 0) (.string ⟨#[]⟩) (.slice none 0 0):=(hb1.block _ (by simp)).trans (Box5.new w _ _ _ _ _ _)
  have HB1:=Lib.hid (one_below hb1)
  clear hb1
  go_wp2_with fail
  refine (whole_any _ _).mono ?_
  rintro e1 w2 ⟨rfl,hb2⟩
  have hbox2:Box5 w2 w.heap.size 45 (.int .i64 0) (.int .i64 0) (.int .i64 0) (.string ⟨#[]⟩) (.slice none 0 0):=(hb2.block _ hbox.lt).trans hbox
  have HX0:=Lib.hid hbox2
  have HB2:=Lib.hid (Below.next HB1.out hb2)
  have hs2:=HB2.out.size
  have hlt0:=hbox2.lt
  clear hbox hb2 hbox2
  unfold leafV
  obtain ⟨H6,hH6⟩:∃H6,w2.heap.size=H6:=⟨_,rfl⟩
  have hI:SumsI 0 R l false w.heap.size w2.heap.size w 0 (w2.alloc (.cells #[.int .i64 0,.int .i64 0,.int .i64 1,.string ⟨#[]⟩,.slice none 0 0] 45)):=
   ⟨⟨0,1,0,⟨#[]⟩,none,0,0,Box5.new _ _ _ _ _ _ _,by omega,by omega,.inr ⟨rfl,rfl,rfl,rfl,rfl⟩,by rw[←HR.out];simp[Prims.sumsR]⟩,HX0.out.alloc _,HB2.out.alloc hs2 _⟩
  have HI0:=Lib.hid hI
  clear hI
  rw[hH6] at HI0
  have hH6b:w.heap.size<H6:=by omega
  go_wp2_with fail
  try rw[hH6]
  go_loopg [31] len (fun g q wr=>∃j:Nat,g=len-j∧j≤len∧q=.int .i64 j∧SumsI 0 R l false w.heap.size H6 w j wr)
  case atStart=>exact ⟨0,rfl,by omega,rfl,HI0.out⟩
  case round=>
   obtain ⟨j,rfl,hj,rfl,⟨a,b,ka,sa,oa,la,ca,hbox,hab,hbb,hlf,hR⟩,hbx0,hb⟩:=hrel
   have HR2:=Lib.hid hR
   have HX:=Lib.hid hbox
   have HX0:=Lib.hid hbx0
   have HB:=Lib.hid hb
   have HLF:=Lib.hid hlf
   obtain ⟨q0,q1,q2,q3,q4⟩:=hbox.cells
   obtain ⟨z0,z1,z2,z3,z4⟩:=hbox.free
   have hlt:=hbox.lt
   have hsz:=hb.size
   clear hbox hbx0 hb hlf hR
   by_cases hjl:j<len
   ·obtain ⟨x,hx⟩:∃x,l[j]?=some x:=⟨_,List.getElem?_eq_getElem (by rw[←HL.out];exact hjl)⟩
    obtain ⟨b1,off1,k1,n1,d1,s1,l1,o1,len1,cap1,ho1,hx1,e0,e1,e2,e3,e4,er⟩:=part_at2 HC.out HB.out hx
    subst ho1
    skip
    subst hx1
    obtain ⟨_,_,_,bn1,bd1,_,_⟩:=er.open
    have HXX:=Lib.hid hx
    clear hx er
    obtain ⟨p,q,z,hs⟩:∃p q z,Prims.step 0 a b n1 d1=(p,q,z):=⟨_,_,_,rfl⟩
    have HS:=Lib.hid hs
    have bds:=step_bd hs
    have HRS:=Lib.hid ((sumsL_step HXX.out hs).symm.trans HR2.out)
    clear hs
    go_wp2_with fail
    refine (step_0 _ _ _ _ _ _ _ _ _ _ _ _ _ _ p q z HS.out hab.1 hab.2 hbb.1 hbb.2 bn1.1 bn1.2 bd1.1 bd1.2 _).mono ?_
    rintro e1 w3 ⟨rfl,hb3⟩
    simp only[leafV]
    have hbox3:Box5 w3 H6 45 (.int .i64 ka) (.int .i64 a) (.int .i64 b) (.string sa) (.slice oa la ca):=(hb3.block _ (by simp;omega)).trans (HX.out.alloc _)
    have hbx3:Box5 w3 w.heap.size 45 (.int .i64 0) (.int .i64 0) (.int .i64 0) (.string ⟨#[]⟩) (.slice none 0 0):=(hb3.block _ (by simp;omega)).trans (HX0.out.alloc _)
    have HB3:=Lib.hid (Below.next (HB.out.alloc hsz _) hb3)
    have hs3:=HB3.out.size
    have hN:Box5 (set5 w3 H6 (.int .i64 0) (.int .i64 p) (.int .i64 q) (.string ⟨#[]⟩) (.slice none 0 0)) H6 45 (.int .i64 0) (.int .i64 p) (.int .i64 q) (.string ⟨#[]⟩) (.slice none 0 0):=hbox3.set (.int .i64 0) (.int .i64 p) (.int .i64 q) (.string ⟨#[]⟩) (.slice none 0 0)
    have hM:Box5 (set5 w3 H6 (.int .i64 0) (.int .i64 p) (.int .i64 q) (.string ⟨#[]⟩) (.slice none 0 0)) w.heap.size 45 (.int .i64 0) (.int .i64 0) (.int .i64 0) (.string ⟨#[]⟩) (.slice none 0 0):=(set5_heap _ _ _ _ _ _ _ (by omega)).trans hbx3
    have HN:=Lib.hid hN
    have HM:=Lib.hid hM
    have HB4:=Lib.hid (HB3.out.trans (set5_below w3 H6 w.heap.size (.int .i64 0) (.int .i64 p) (.int .i64 q) (.string ⟨#[]⟩) (.slice none 0 0) (by omega)))
    clear q0 q1 q2 q3 q4 z0 z1 z2 z3 z4 hb3 hN
    obtain ⟨q0,q1,q2,q3,q4⟩:=hbox3.cells
    obtain ⟨z0,z1,z2,z3,z4⟩:=hbox3.free
    have hlt3:=hbox3.lt
    obtain ⟨W4,hW4⟩:∃W4,set5 w3 H6 (.int .i64 0) (.int .i64 p) (.int .i64 q) (.string ⟨#[]⟩) (.slice none 0 0)=W4:=⟨_,rfl⟩
    rw[hW4] at HN HM HB4
    unfold set5 at hW4
    go_upto_region 11 with fail
    try rw[hW4]
    clear hW4 hbox3 hbx3 hM q0 q1 q2 q3 q4 z0 z1 z2 z3 z4
    by_cases hz:z=0
    ·subst hz
     go_wp2_with fail
     go_roundg (len-(j+1))
     case measure=>omega
     case rel=>exact ⟨j+1,rfl,by omega,by go_num,⟨p,q,0,⟨#[]⟩,none,0,0,HN.out,by omega,by omega,.inr ⟨rfl,rfl,rfl,rfl,rfl⟩,by rw[←HRS.out];simp⟩,HM.out,HB4.out⟩
    ·have hz2:(z != 0)=true:=by simpa using hz
     obtain rfl:(Prims.zeroD,z)=R:=by rw[←HRS.out,if_neg hz]
     obtain ⟨y0,y1,y2,y3,y4⟩:=HM.out.cells
     obtain ⟨v0,v1,v2,v3,v4⟩:=HM.out.free
     have hltM:=HM.out.lt
     obtain ⟨r0,r1,r2,r3,r4⟩:=(HM.out.set (.int .i64 0) (.int .i64 0) (.int .i64 0) (.string ⟨#[]⟩) (.slice none 0 0)).cells
     have HB5:=Lib.hid (HB4.out.trans (set5_below W4 w.heap.size w.heap.size (.int .i64 0) (.int .i64 0) (.int .i64 0) (.string ⟨#[]⟩) (.slice none 0 0) (Nat.le_refl _)))
     go_wp2_with fail
     exact bodyPost_ret (v:=.tuple #[leafV 0 0 0,.int .i64 z]) (by simp[results,Tryz.results114,go_sem,leafV,r0,r1,r2,r3,r4]) rfl (endPost_leaf (by omega) (by omega) (by omega) rfl HB5.out)
   ·obtain rfl:j=len:=by omega
    obtain ⟨y0,y1,y2,y3,y4⟩:=HX0.out.cells
    obtain ⟨v0,v1,v2,v3,v4⟩:=HX0.out.free
    have hlt0:=HX0.out.lt
    obtain ⟨rfl,rfl,rfl,rfl,rfl⟩:ka=0∧sa=⟨#[]⟩∧oa=none∧la=0∧ca=0:=by
     rcases HLF.out with ⟨h1,h2⟩ | h
     ·cases h1
     ·exact h
    obtain ⟨r0,r1,r2,r3,r4⟩:=(HX0.out.set (.int .i64 0) (.int .i64 a) (.int .i64 b) (.string ⟨#[]⟩) (.slice none 0 0)).cells
    have HB5:=Lib.hid (HB.out.trans (set5_below wr w.heap.size w.heap.size (.int .i64 0) (.int .i64 a) (.int .i64 b) (.string ⟨#[]⟩) (.slice none 0 0) (Nat.le_refl _)))
    have HRR:=Lib.hid (show (Prims.num a b,0)=R by rw[←HR2.out,List.drop_of_length_le (by rw[←HL.out];exact Nat.le_refl _)];rfl)
    go_wp2_with fail
    rw[←HRR.out]
    exact bodyPost_ret (v:=.tuple #[leafV 0 a b,.int .i64 0]) (by simp[results,Tryz.results114,go_sem,leafV,r0,r1,r2,r3,r4]) rfl (endPost_leaf (by omega) hab hbb rfl HB5.out)
theorem sums_1 (l:List Dat) (sl:Value) (B:Nat) (w:World) (hv:RepS w B l sl) (hB:B≤w.heap.size) (B2:Nat) :
  Calls Tryz.prog 114 #[.int .i64 1,sl] w (EndPost B2 (Prims.sums 1 l) w):=by
 obtain ⟨o,len,cap,rfl,hl,hcap,hmax,hc⟩:=hv.wider hB
 obtain ⟨r,hr⟩:∃r,(l.any fun x=>decide (x.kind≠0))=r:=⟨_,rfl⟩
 obtain ⟨R,hR⟩:∃R,Prims.sums 1 l=R:=⟨_,rfl⟩
 rw[hR]
 unfold Prims.sums at hR
 rw[hr] at hR
 have HR:=Lib.hid hR
 have HC:=Lib.hid hc
 have HL:=Lib.hid hl
 have HCF:=Lib.hid (fun W (hb:Below w.heap.size w W)=>containsFunc_any 140 #[] (fun x=>decide (x.kind≠0)) r l o len cap w.heap.size W hl hcap hmax (by
   cases o with
   | none=>exact hc
   | some a=>exact ⟨fun h=>hc.1 h,if h:l=[] then by rw[h,RepC];trivial else hc.2.kept (hc.1 h).2 hb⟩) hb.size (fun args w=>Tryz.call140 args w) (fun x _ v w' hx _=>by
   obtain ⟨k',n',d',s',o',len',cap',rfl⟩:=agg_of hx
   obtain ⟨kx,nx,dx,sx,lx⟩:=x
   obtain ⟨_,he,_⟩:=hx.open
   simp only[Value.agg.injEq,Array.mk.injEq,List.cons.injEq,Value.int.injEq,true_and] at he
   obtain ⟨rfl,_⟩:=he
   have:=sums1_any k' n' d' s' o' len' cap' w'
   rw[show (k' != 0)=decide (k'≠0) from by rw[Bool.eq_iff_iff,bne_iff_ne,decide_eq_true_eq]] at this
   exact this) hr)
 clear hc hl hR hv
 have HK:=Lib.hid (fun X=>(Below.refl w.heap.size w).alloc (Nat.le_refl _) X)
 cases r with
 | true=>
  obtain rfl:(Prims.zeroD,1)=R:=by rw[←HR.out];simp
  go_enter Tryz.func114,Tryz.ntmps114
  go_wp2_with fail
  refine (HCF.out _ (HK.out _)).mono ?_
  rintro e1 w1 ⟨rfl,hb1⟩
  have hbox:Box5 w1 w.heap.size 45 (.int .i64 0) (.int .i64 0) (.int .i64 0) (.string ⟨#[]⟩) (.slice none 0 0):=(hb1.block _ (by simp)).trans (Box5.new w _ _ _ _ _ _)
  obtain ⟨q0,q1,q2,q3,q4⟩:=hbox.cells
  obtain ⟨z0,z1,z2,z3,z4⟩:=hbox.free
  have hlt:=hbox.lt
  obtain ⟨r0,r1,r2,r3,r4⟩:=(hbox.set (.int .i64 0) (.int .i64 0) (.int .i64 0) (.string ⟨#[]⟩) (.slice none 0 0)).cells
  have HB:=Lib.hid ((one_below hb1).trans (set5_below w1 w.heap.size w.heap.size (.int .i64 0) (.int .i64 0) (.int .i64 0) (.string ⟨#[]⟩) (.slice none 0 0) (Nat.le_refl _)))
  go_wp2_with fail
  exact bodyPost_ret (v:=.tuple #[leafV 0 0 0,.int .i64 1]) (by simp[results,Tryz.results114,go_sem,leafV,r0,r1,r2,r3,r4]) rfl (endPost_leaf (by omega) (by omega) (by omega) rfl HB.out)
 | false=>
  go_enter Tryz.func114,Tryz.ntmps114
  go_wp2_with fail
  refine (HCF.out _ (HK.out _)).mono ?_
  rintro e1 w1 ⟨rfl,hb1⟩
  have hbox:Box5 w1 w.heap.size 45 (.int .i64 0) (.int .i64 0) (.int .i64 0) (.string ⟨#[]⟩) (.slice none 0 0):=(hb1.block _ (by simp)).trans (Box5.new w _ _ _ _ _ _)
  have HB1:=Lib.hid (one_below hb1)
  clear hb1
  go_wp2_with fail
  refine (whole_any _ _).mono ?_
  rintro e1 w2 ⟨rfl,hb2⟩
  have hbox2:Box5 w2 w.heap.size 45 (.int .i64 0) (.int .i64 0) (.int .i64 0) (.string ⟨#[]⟩) (.slice none 0 0):=(hb2.block _ hbox.lt).trans hbox
  have HX0:=Lib.hid hbox2
  have HB2:=Lib.hid (Below.next HB1.out hb2)
  have hs2:=HB2.out.size
  have hlt0:=hbox2.lt
  clear hbox hb2 hbox2
  unfold leafV
  obtain ⟨H6,hH6⟩:∃H6,w2.heap.size=H6:=⟨_,rfl⟩
  by_cases hl1:1<len
  ·have hl2:decide ((1:Int)<(len:Int))=true:=decide_eq_true (by omega)
   have hl3:decide (1<len)=true:=decide_eq_true hl1
   obtain ⟨x0,M,rfl⟩:∃x0 M,l=x0::M:=by
    cases l with
    | nil=>have:=HL.out;simp at this;omega
    | cons x0 M=>exact ⟨x0,M,rfl⟩
   obtain ⟨bb,off,k0,n0,d0,s0,l0,o0,len0,cap0,ho,hx0,e0,e1,e2,e3,e4,er⟩:=part_at2 HC.out HB2.out (j:=0) (x:=x0) rfl
   subst ho hx0
   simp only[Nat.zero_mul,Nat.add_zero] at e0 e1 e2 e3 e4
   obtain ⟨_,_,_,bn0,bd0,_,_⟩:=er.open
   obtain ⟨hcb,hcr⟩:=HC.out
   rw[RepC] at hcr
   have HSM:=Lib.hid (show RepS w w.heap.size M (.slice (some ⟨bb,off+5,none⟩) (len-1) (cap-1)) from ⟨some ⟨bb,off+5,none⟩,len-1,cap-1,rfl,by have:=HL.out;simp at this;omega,by omega,by omega,fun _=>⟨rfl,(hcb (by simp)).2⟩,hcr.2⟩)
   have HLM:=Lib.hid (show len-1=M.length by have:=HL.out;simp at this;omega)
   have HRM:=Lib.hid (show Prims.sumsL 1 M n0 d0=R by
    rw[←HR.out]
    have:1<(Dat.mk k0 n0 d0 s0 l0::M).length:=by rw[←HL.out];exact hl1
    simp only[Prims.sumsR,if_neg (Bool.false_ne_true)]
    rw[if_pos ⟨by decide,this⟩];rfl)
   have hl0:0<len:=by omega
   have HH6:=Lib.hid hH6
   have hH6b:w.heap.size<H6:=by omega
   have E0:=Lib.hid e0
   have E1:=Lib.hid e1
   have E2:=Lib.hid e2
   have E3:=Lib.hid e3
   have E4:=Lib.hid e4
   clear hcb hcr er hlt0 hH6 e0 e1 e2 e3 e4
   go_upto_region 5 with fail
   obtain ⟨W3,hW3⟩:∃W3,w2.alloc (.cells #[.int .i64 0,.int .i64 0,.int .i64 1,.string ⟨#[]⟩,.slice none 0 0] 45)=W3:=⟨_,rfl⟩
   have hk:∀o u,w2.cell? ⟨bb,o,none⟩=some u→W3.cell? ⟨bb,o,none⟩=some u:=fun o u h=>by rw[←hW3,World.cell?_alloc_past _ _ _ (cell_lt h)];exact h
   have f0:=hk _ _ E0.out
   have f1:=hk _ _ E1.out
   have f2:=hk _ _ E2.out
   have f3:=hk _ _ E3.out
   have f4:=hk _ _ E4.out
   have hb6:Box5 W3 H6 45 (.int .i64 0) (.int .i64 0) (.int .i64 1) (.string ⟨#[]⟩) (.slice none 0 0):=by rw[←hW3,←HH6.out];exact Box5.new _ _ _ _ _ _ _
   have HX3:=Lib.hid (show Box5 W3 w.heap.size 45 (.int .i64 0) (.int .i64 0) (.int .i64 0) (.string ⟨#[]⟩) (.slice none 0 0) by rw[←hW3];exact HX0.out.alloc _)
   have HB3:=Lib.hid (show Below w.heap.size w W3 by rw[←hW3];exact HB2.out.alloc hs2 _)
   rw[hW3,HH6.out]
   clear hW3 hk hs2
   obtain ⟨q0,q1,q2,q3,q4⟩:=hb6.cells
   obtain ⟨z0,z1,z2,z3,z4⟩:=hb6.free
   have hlt6:=hb6.lt
   go_region
   all_goals go_wp2_with fail
   obtain ⟨m,hm⟩:∃m,len-1=m:=⟨_,rfl⟩
   have hm1:1≤m:=by omega
   have hm2:m<9223372036854775807:=by omega
   rw[hm] at HLM
   simp only[hm]
   have HI0:=Lib.hid (show SumsI 1 R M true w.heap.size H6 w 0 (set5 W3 H6 (.int .i64 k0) (.int .i64 n0) (.int .i64 d0) (.string s0) (.slice o0 len0 cap0)).drew from
    ⟨⟨n0,d0,k0,s0,o0,len0,cap0,hb6.set _ _ _ _ _,bn0,bd0,.inl ⟨rfl,rfl⟩,by simpa using HRM.out⟩,(set5_heap _ _ _ _ _ _ _ (by omega)).trans HX3.out,(HB3.out.trans (set5_below W3 H6 w.heap.size _ _ _ _ _ (by omega))).drew⟩)
   clear hm hb6 q0 q1 q2 q3 q4 z0 z1 z2 z3 z4 f0 f1 f2 f3 f4
   go_loopg [31] m (fun g q wr=>∃j:Nat,g=m-j∧j≤m∧q=.int .i64 j∧SumsI 1 R M true w.heap.size H6 w j wr)
   case atStart=>exact ⟨0,rfl,by omega,rfl,HI0.out⟩
   case round=>
    obtain ⟨j,rfl,hj,rfl,⟨a,b,ka,sa,oa,la,ca,hbox,hab,hbb,hlf,hR⟩,hbx0,hb⟩:=hrel
    have HR2:=Lib.hid hR
    have HX:=Lib.hid hbox
    have HX0:=Lib.hid hbx0
    have HB:=Lib.hid hb
    have HLF:=Lib.hid hlf
    obtain ⟨q0,q1,q2,q3,q4⟩:=hbox.cells
    obtain ⟨z0,z1,z2,z3,z4⟩:=hbox.free
    have hlt:=hbox.lt
    have hsz:=hb.size
    clear hbox hbx0 hb hlf hR
    by_cases hjl:j<m
    ·obtain ⟨x,hx⟩:∃x,M[j]?=some x:=⟨_,List.getElem?_eq_getElem (by rw[←HLM.out];exact hjl)⟩
     obtain ⟨b1,off1,k1,n1,d1,s1,l1,o1,len1,cap1,ho1,hx1,e0,e1,e2,e3,e4,er⟩:=part_atS HSM.out HB.out hx
     simp only[Option.some.injEq,Addr.mk.injEq,and_true] at ho1
     obtain ⟨rfl,rfl⟩:=ho1
     subst hx1
     obtain ⟨_,_,_,bn1,bd1,_,_⟩:=er.open
     have HXX:=Lib.hid hx
     clear hx er
     obtain ⟨p,q,z,hs⟩:∃p q z,Prims.step 1 a b n1 d1=(p,q,z):=⟨_,_,_,rfl⟩
     have HS:=Lib.hid hs
     have bds:=step_bd hs
     have HRS:=Lib.hid ((sumsL_step HXX.out hs).symm.trans HR2.out)
     clear hs
     go_wp2_with fail
     refine (step_1 _ _ _ _ _ _ _ _ _ _ _ _ _ _ p q z HS.out hab.1 hab.2 hbb.1 hbb.2 bn1.1 bn1.2 bd1.1 bd1.2 _).mono ?_
     rintro e1 w3 ⟨rfl,hb3⟩
     simp only[leafV]
     have hbox3:Box5 w3 H6 45 (.int .i64 ka) (.int .i64 a) (.int .i64 b) (.string sa) (.slice oa la ca):=(hb3.block _ (by simp;omega)).trans (HX.out.alloc _)
     have hbx3:Box5 w3 w.heap.size 45 (.int .i64 0) (.int .i64 0) (.int .i64 0) (.string ⟨#[]⟩) (.slice none 0 0):=(hb3.block _ (by simp;omega)).trans (HX0.out.alloc _)
     have HB3:=Lib.hid (Below.next (HB.out.alloc hsz _) hb3)
     have hs3:=HB3.out.size
     have hN:Box5 (set5 w3 H6 (.int .i64 0) (.int .i64 p) (.int .i64 q) (.string ⟨#[]⟩) (.slice none 0 0)) H6 45 (.int .i64 0) (.int .i64 p) (.int .i64 q) (.string ⟨#[]⟩) (.slice none 0 0):=hbox3.set (.int .i64 0) (.int .i64 p) (.int .i64 q) (.string ⟨#[]⟩) (.slice none 0 0)
     have hM:Box5 (set5 w3 H6 (.int .i64 0) (.int .i64 p) (.int .i64 q) (.string ⟨#[]⟩) (.slice none 0 0)) w.heap.size 45 (.int .i64 0) (.int .i64 0) (.int .i64 0) (.string ⟨#[]⟩) (.slice none 0 0):=(set5_heap _ _ _ _ _ _ _ (by omega)).trans hbx3
     have HN:=Lib.hid hN
     have HM:=Lib.hid hM
     have HB4:=Lib.hid (HB3.out.trans (set5_below w3 H6 w.heap.size (.int .i64 0) (.int .i64 p) (.int .i64 q) (.string ⟨#[]⟩) (.slice none 0 0) (by omega)))
     clear q0 q1 q2 q3 q4 z0 z1 z2 z3 z4 hb3 hN
     obtain ⟨q0,q1,q2,q3,q4⟩:=hbox3.cells
     obtain ⟨z0,z1,z2,z3,z4⟩:=hbox3.free
     have hlt3:=hbox3.lt
     obtain ⟨W4,hW4⟩:∃W4,set5 w3 H6 (.int .i64 0) (.int .i64 p) (.int .i64 q) (.string ⟨#[]⟩) (.slice none 0 0)=W4:=⟨_,rfl⟩
     rw[hW4] at HN HM HB4
     unfold set5 at hW4
     go_upto_region 11 with fail
     try rw[hW4]
     clear hW4 hbox3 hbx3 hM q0 q1 q2 q3 q4 z0 z1 z2 z3 z4
     by_cases hz:z=0
     ·subst hz
      go_wp2_with fail
      go_roundg (m-(j+1))
      case measure=>omega
      case rel=>exact ⟨j+1,rfl,by omega,by go_num,⟨p,q,0,⟨#[]⟩,none,0,0,HN.out,by omega,by omega,.inr ⟨rfl,rfl,rfl,rfl,rfl⟩,by rw[←HRS.out];simp⟩,HM.out,HB4.out⟩
     ·have hz2:(z != 0)=true:=by simpa using hz
      obtain rfl:(Prims.zeroD,z)=R:=by rw[←HRS.out,if_neg hz]
      obtain ⟨y0,y1,y2,y3,y4⟩:=HM.out.cells
      obtain ⟨v0,v1,v2,v3,v4⟩:=HM.out.free
      have hltM:=HM.out.lt
      obtain ⟨r0,r1,r2,r3,r4⟩:=(HM.out.set (.int .i64 0) (.int .i64 0) (.int .i64 0) (.string ⟨#[]⟩) (.slice none 0 0)).cells
      have HB5:=Lib.hid (HB4.out.trans (set5_below W4 w.heap.size w.heap.size (.int .i64 0) (.int .i64 0) (.int .i64 0) (.string ⟨#[]⟩) (.slice none 0 0) (Nat.le_refl _)))
      go_wp2_with fail
      exact bodyPost_ret (v:=.tuple #[leafV 0 0 0,.int .i64 z]) (by simp[results,Tryz.results114,go_sem,leafV,r0,r1,r2,r3,r4]) rfl (endPost_leaf (by omega) (by omega) (by omega) rfl HB5.out)
    ·obtain rfl:j=m:=by omega
     obtain ⟨y0,y1,y2,y3,y4⟩:=HX0.out.cells
     obtain ⟨v0,v1,v2,v3,v4⟩:=HX0.out.free
     have hlt0:=HX0.out.lt
     obtain ⟨rfl,rfl,rfl,rfl,rfl⟩:ka=0∧sa=⟨#[]⟩∧oa=none∧la=0∧ca=0:=by
      rcases HLF.out with ⟨h1,h2⟩ | h
      ·omega
      ·exact h
     obtain ⟨r0,r1,r2,r3,r4⟩:=(HX0.out.set (.int .i64 0) (.int .i64 a) (.int .i64 b) (.string ⟨#[]⟩) (.slice none 0 0)).cells
     have HB5:=Lib.hid (HB.out.trans (set5_below wr w.heap.size w.heap.size (.int .i64 0) (.int .i64 a) (.int .i64 b) (.string ⟨#[]⟩) (.slice none 0 0) (Nat.le_refl _)))
     have HRR:=Lib.hid (show (Prims.num a b,0)=R by rw[←HR2.out,List.drop_of_length_le (by rw[←HLM.out];exact Nat.le_refl _)];rfl)
     go_wp2_with fail
     rw[←HRR.out]
     exact bodyPost_ret (v:=.tuple #[leafV 0 a b,.int .i64 0]) (by simp[results,Tryz.results114,go_sem,leafV,r0,r1,r2,r3,r4]) rfl (endPost_leaf (by omega) hab hbb rfl HB5.out)
  ·have hl2:decide ((1:Int)<(len:Int))=false:=decide_eq_false (by omega)
   have hl3:decide (1<len)=false:=decide_eq_false hl1
   have hI:SumsI 1 R l false w.heap.size w2.heap.size w 0 (w2.alloc (.cells #[.int .i64 0,.int .i64 0,.int .i64 1,.string ⟨#[]⟩,.slice none 0 0] 45)):=
    ⟨⟨0,1,0,⟨#[]⟩,none,0,0,Box5.new _ _ _ _ _ _ _,by omega,by omega,.inr ⟨rfl,rfl,rfl,rfl,rfl⟩,by
     rw[←HR.out]
     simp only[Prims.sumsR,if_neg (Bool.false_ne_true)]
     rw[if_neg (by rw[←HL.out];omega)];rfl⟩,HX0.out.alloc _,HB2.out.alloc hs2 _⟩
   have HI0:=Lib.hid hI
   clear hI
   rw[hH6] at HI0
   have hH6b:w.heap.size<H6:=by omega
   go_wp2_with fail
   try rw[hH6]
   go_loopg [31] len (fun g q wr=>∃j:Nat,g=len-j∧j≤len∧q=.int .i64 j∧SumsI 1 R l false w.heap.size H6 w j wr)
   case atStart=>exact ⟨0,rfl,by omega,rfl,HI0.out⟩
   case round=>
    obtain ⟨j,rfl,hj,rfl,⟨a,b,ka,sa,oa,la,ca,hbox,hab,hbb,hlf,hR⟩,hbx0,hb⟩:=hrel
    have HR2:=Lib.hid hR
    have HX:=Lib.hid hbox
    have HX0:=Lib.hid hbx0
    have HB:=Lib.hid hb
    have HLF:=Lib.hid hlf
    obtain ⟨q0,q1,q2,q3,q4⟩:=hbox.cells
    obtain ⟨z0,z1,z2,z3,z4⟩:=hbox.free
    have hlt:=hbox.lt
    have hsz:=hb.size
    clear hbox hbx0 hb hlf hR
    by_cases hjl:j<len
    ·obtain ⟨x,hx⟩:∃x,l[j]?=some x:=⟨_,List.getElem?_eq_getElem (by rw[←HL.out];exact hjl)⟩
     obtain ⟨b1,off1,k1,n1,d1,s1,l1,o1,len1,cap1,ho1,hx1,e0,e1,e2,e3,e4,er⟩:=part_at2 HC.out HB.out hx
     subst ho1
     skip
     subst hx1
     obtain ⟨_,_,_,bn1,bd1,_,_⟩:=er.open
     have HXX:=Lib.hid hx
     clear hx er
     obtain ⟨p,q,z,hs⟩:∃p q z,Prims.step 1 a b n1 d1=(p,q,z):=⟨_,_,_,rfl⟩
     have HS:=Lib.hid hs
     have bds:=step_bd hs
     have HRS:=Lib.hid ((sumsL_step HXX.out hs).symm.trans HR2.out)
     clear hs
     go_wp2_with fail
     refine (step_1 _ _ _ _ _ _ _ _ _ _ _ _ _ _ p q z HS.out hab.1 hab.2 hbb.1 hbb.2 bn1.1 bn1.2 bd1.1 bd1.2 _).mono ?_
     rintro e1 w3 ⟨rfl,hb3⟩
     simp only[leafV]
     have hbox3:Box5 w3 H6 45 (.int .i64 ka) (.int .i64 a) (.int .i64 b) (.string sa) (.slice oa la ca):=(hb3.block _ (by simp;omega)).trans (HX.out.alloc _)
     have hbx3:Box5 w3 w.heap.size 45 (.int .i64 0) (.int .i64 0) (.int .i64 0) (.string ⟨#[]⟩) (.slice none 0 0):=(hb3.block _ (by simp;omega)).trans (HX0.out.alloc _)
     have HB3:=Lib.hid (Below.next (HB.out.alloc hsz _) hb3)
     have hs3:=HB3.out.size
     have hN:Box5 (set5 w3 H6 (.int .i64 0) (.int .i64 p) (.int .i64 q) (.string ⟨#[]⟩) (.slice none 0 0)) H6 45 (.int .i64 0) (.int .i64 p) (.int .i64 q) (.string ⟨#[]⟩) (.slice none 0 0):=hbox3.set (.int .i64 0) (.int .i64 p) (.int .i64 q) (.string ⟨#[]⟩) (.slice none 0 0)
     have hM:Box5 (set5 w3 H6 (.int .i64 0) (.int .i64 p) (.int .i64 q) (.string ⟨#[]⟩) (.slice none 0 0)) w.heap.size 45 (.int .i64 0) (.int .i64 0) (.int .i64 0) (.string ⟨#[]⟩) (.slice none 0 0):=(set5_heap _ _ _ _ _ _ _ (by omega)).trans hbx3
     have HN:=Lib.hid hN
     have HM:=Lib.hid hM
     have HB4:=Lib.hid (HB3.out.trans (set5_below w3 H6 w.heap.size (.int .i64 0) (.int .i64 p) (.int .i64 q) (.string ⟨#[]⟩) (.slice none 0 0) (by omega)))
     clear q0 q1 q2 q3 q4 z0 z1 z2 z3 z4 hb3 hN
     obtain ⟨q0,q1,q2,q3,q4⟩:=hbox3.cells
     obtain ⟨z0,z1,z2,z3,z4⟩:=hbox3.free
     have hlt3:=hbox3.lt
     obtain ⟨W4,hW4⟩:∃W4,set5 w3 H6 (.int .i64 0) (.int .i64 p) (.int .i64 q) (.string ⟨#[]⟩) (.slice none 0 0)=W4:=⟨_,rfl⟩
     rw[hW4] at HN HM HB4
     unfold set5 at hW4
     go_upto_region 11 with fail
     try rw[hW4]
     clear hW4 hbox3 hbx3 hM q0 q1 q2 q3 q4 z0 z1 z2 z3 z4
     by_cases hz:z=0
     ·subst hz
      go_wp2_with fail
      go_roundg (len-(j+1))
      case measure=>omega
      case rel=>exact ⟨j+1,rfl,by omega,by go_num,⟨p,q,0,⟨#[]⟩,none,0,0,HN.out,by omega,by omega,.inr ⟨rfl,rfl,rfl,rfl,rfl⟩,by rw[←HRS.out];simp⟩,HM.out,HB4.out⟩
     ·have hz2:(z != 0)=true:=by simpa using hz
      obtain rfl:(Prims.zeroD,z)=R:=by rw[←HRS.out,if_neg hz]
      obtain ⟨y0,y1,y2,y3,y4⟩:=HM.out.cells
      obtain ⟨v0,v1,v2,v3,v4⟩:=HM.out.free
      have hltM:=HM.out.lt
      obtain ⟨r0,r1,r2,r3,r4⟩:=(HM.out.set (.int .i64 0) (.int .i64 0) (.int .i64 0) (.string ⟨#[]⟩) (.slice none 0 0)).cells
      have HB5:=Lib.hid (HB4.out.trans (set5_below W4 w.heap.size w.heap.size (.int .i64 0) (.int .i64 0) (.int .i64 0) (.string ⟨#[]⟩) (.slice none 0 0) (Nat.le_refl _)))
      go_wp2_with fail
      exact bodyPost_ret (v:=.tuple #[leafV 0 0 0,.int .i64 z]) (by simp[results,Tryz.results114,go_sem,leafV,r0,r1,r2,r3,r4]) rfl (endPost_leaf (by omega) (by omega) (by omega) rfl HB5.out)
    ·obtain rfl:j=len:=by omega
     obtain ⟨y0,y1,y2,y3,y4⟩:=HX0.out.cells
     obtain ⟨v0,v1,v2,v3,v4⟩:=HX0.out.free
     have hlt0:=HX0.out.lt
     obtain ⟨rfl,rfl,rfl,rfl,rfl⟩:ka=0∧sa=⟨#[]⟩∧oa=none∧la=0∧ca=0:=by
      rcases HLF.out with ⟨h1,h2⟩ | h
      ·cases h1
      ·exact h
     obtain ⟨r0,r1,r2,r3,r4⟩:=(HX0.out.set (.int .i64 0) (.int .i64 a) (.int .i64 b) (.string ⟨#[]⟩) (.slice none 0 0)).cells
     have HB5:=Lib.hid (HB.out.trans (set5_below wr w.heap.size w.heap.size (.int .i64 0) (.int .i64 a) (.int .i64 b) (.string ⟨#[]⟩) (.slice none 0 0) (Nat.le_refl _)))
     have HRR:=Lib.hid (show (Prims.num a b,0)=R by rw[←HR2.out,List.drop_of_length_le (by rw[←HL.out];exact Nat.le_refl _)];rfl)
     go_wp2_with fail
     rw[←HRR.out]
     exact bodyPost_ret (v:=.tuple #[leafV 0 a b,.int .i64 0]) (by simp[results,Tryz.results114,go_sem,leafV,r0,r1,r2,r3,r4]) rfl (endPost_leaf (by omega) hab hbb rfl HB5.out)
theorem sums_2 (l:List Dat) (sl:Value) (B:Nat) (w:World) (hv:RepS w B l sl) (hB:B≤w.heap.size) (B2:Nat) :
  Calls Tryz.prog 114 #[.int .i64 2,sl] w (EndPost B2 (Prims.sums 2 l) w):=by
 obtain ⟨o,len,cap,rfl,hl,hcap,hmax,hc⟩:=hv.wider hB
 obtain ⟨r,hr⟩:∃r,(l.any fun x=>decide (x.kind≠0))=r:=⟨_,rfl⟩
 obtain ⟨R,hR⟩:∃R,Prims.sums 2 l=R:=⟨_,rfl⟩
 rw[hR]
 unfold Prims.sums at hR
 rw[hr] at hR
 have HR:=Lib.hid hR
 have HC:=Lib.hid hc
 have HL:=Lib.hid hl
 have HCF:=Lib.hid (fun W (hb:Below w.heap.size w W)=>containsFunc_any 140 #[] (fun x=>decide (x.kind≠0)) r l o len cap w.heap.size W hl hcap hmax (by
   cases o with
   | none=>exact hc
   | some a=>exact ⟨fun h=>hc.1 h,if h:l=[] then by rw[h,RepC];trivial else hc.2.kept (hc.1 h).2 hb⟩) hb.size (fun args w=>Tryz.call140 args w) (fun x _ v w' hx _=>by
   obtain ⟨k',n',d',s',o',len',cap',rfl⟩:=agg_of hx
   obtain ⟨kx,nx,dx,sx,lx⟩:=x
   obtain ⟨_,he,_⟩:=hx.open
   simp only[Value.agg.injEq,Array.mk.injEq,List.cons.injEq,Value.int.injEq,true_and] at he
   obtain ⟨rfl,_⟩:=he
   have:=sums1_any k' n' d' s' o' len' cap' w'
   rw[show (k' != 0)=decide (k'≠0) from by rw[Bool.eq_iff_iff,bne_iff_ne,decide_eq_true_eq]] at this
   exact this) hr)
 clear hc hl hR hv
 have HK:=Lib.hid (fun X=>(Below.refl w.heap.size w).alloc (Nat.le_refl _) X)
 cases r with
 | true=>
  obtain rfl:(Prims.zeroD,1)=R:=by rw[←HR.out];simp
  go_enter Tryz.func114,Tryz.ntmps114
  go_wp2_with fail
  refine (HCF.out _ (HK.out _)).mono ?_
  rintro e1 w1 ⟨rfl,hb1⟩
  have hbox:Box5 w1 w.heap.size 45 (.int .i64 0) (.int .i64 0) (.int .i64 0) (.string ⟨#[]⟩) (.slice none 0 0):=(hb1.block _ (by simp)).trans (Box5.new w _ _ _ _ _ _)
  obtain ⟨q0,q1,q2,q3,q4⟩:=hbox.cells
  obtain ⟨z0,z1,z2,z3,z4⟩:=hbox.free
  have hlt:=hbox.lt
  obtain ⟨r0,r1,r2,r3,r4⟩:=(hbox.set (.int .i64 0) (.int .i64 0) (.int .i64 0) (.string ⟨#[]⟩) (.slice none 0 0)).cells
  have HB:=Lib.hid ((one_below hb1).trans (set5_below w1 w.heap.size w.heap.size (.int .i64 0) (.int .i64 0) (.int .i64 0) (.string ⟨#[]⟩) (.slice none 0 0) (Nat.le_refl _)))
  go_wp2_with fail
  exact bodyPost_ret (v:=.tuple #[leafV 0 0 0,.int .i64 1]) (by simp[results,Tryz.results114,go_sem,leafV,r0,r1,r2,r3,r4]) rfl (endPost_leaf (by omega) (by omega) (by omega) rfl HB.out)
 | false=>
  go_enter Tryz.func114,Tryz.ntmps114
  go_wp2_with fail
  refine (HCF.out _ (HK.out _)).mono ?_
  rintro e1 w1 ⟨rfl,hb1⟩
  have hbox:Box5 w1 w.heap.size 45 (.int .i64 0) (.int .i64 0) (.int .i64 0) (.string ⟨#[]⟩) (.slice none 0 0):=(hb1.block _ (by simp)).trans (Box5.new w _ _ _ _ _ _)
  have HB1:=Lib.hid (one_below hb1)
  clear hb1
  go_wp2_with fail
  refine (whole_any _ _).mono ?_
  rintro e1 w2 ⟨rfl,hb2⟩
  have hbox2:Box5 w2 w.heap.size 45 (.int .i64 0) (.int .i64 0) (.int .i64 0) (.string ⟨#[]⟩) (.slice none 0 0):=(hb2.block _ hbox.lt).trans hbox
  have HX0:=Lib.hid hbox2
  have HB2:=Lib.hid (Below.next HB1.out hb2)
  have hs2:=HB2.out.size
  have hlt0:=hbox2.lt
  clear hbox hb2 hbox2
  unfold leafV
  obtain ⟨H6,hH6⟩:∃H6,w2.heap.size=H6:=⟨_,rfl⟩
  have hI:SumsI 2 R l false w.heap.size w2.heap.size w 0 (w2.alloc (.cells #[.int .i64 0,.int .i64 1,.int .i64 1,.string ⟨#[]⟩,.slice none 0 0] 45)):=
   ⟨⟨1,1,0,⟨#[]⟩,none,0,0,Box5.new _ _ _ _ _ _ _,by omega,by omega,.inr ⟨rfl,rfl,rfl,rfl,rfl⟩,by rw[←HR.out];simp[Prims.sumsR]⟩,HX0.out.alloc _,HB2.out.alloc hs2 _⟩
  have HI0:=Lib.hid hI
  clear hI
  rw[hH6] at HI0
  have hH6b:w.heap.size<H6:=by omega
  go_wp2_with fail
  try rw[hH6]
  go_loopg [31] len (fun g q wr=>∃j:Nat,g=len-j∧j≤len∧q=.int .i64 j∧SumsI 2 R l false w.heap.size H6 w j wr)
  case atStart=>exact ⟨0,rfl,by omega,rfl,HI0.out⟩
  case round=>
   obtain ⟨j,rfl,hj,rfl,⟨a,b,ka,sa,oa,la,ca,hbox,hab,hbb,hlf,hR⟩,hbx0,hb⟩:=hrel
   have HR2:=Lib.hid hR
   have HX:=Lib.hid hbox
   have HX0:=Lib.hid hbx0
   have HB:=Lib.hid hb
   have HLF:=Lib.hid hlf
   obtain ⟨q0,q1,q2,q3,q4⟩:=hbox.cells
   obtain ⟨z0,z1,z2,z3,z4⟩:=hbox.free
   have hlt:=hbox.lt
   have hsz:=hb.size
   clear hbox hbx0 hb hlf hR
   by_cases hjl:j<len
   ·obtain ⟨x,hx⟩:∃x,l[j]?=some x:=⟨_,List.getElem?_eq_getElem (by rw[←HL.out];exact hjl)⟩
    obtain ⟨b1,off1,k1,n1,d1,s1,l1,o1,len1,cap1,ho1,hx1,e0,e1,e2,e3,e4,er⟩:=part_at2 HC.out HB.out hx
    subst ho1
    skip
    subst hx1
    obtain ⟨_,_,_,bn1,bd1,_,_⟩:=er.open
    have HXX:=Lib.hid hx
    clear hx er
    obtain ⟨p,q,z,hs⟩:∃p q z,Prims.step 2 a b n1 d1=(p,q,z):=⟨_,_,_,rfl⟩
    have HS:=Lib.hid hs
    have bds:=step_bd hs
    have HRS:=Lib.hid ((sumsL_step HXX.out hs).symm.trans HR2.out)
    clear hs
    go_wp2_with fail
    refine (step_2 _ _ _ _ _ _ _ _ _ _ _ _ _ _ p q z HS.out hab.1 hab.2 hbb.1 hbb.2 bn1.1 bn1.2 bd1.1 bd1.2 _).mono ?_
    rintro e1 w3 ⟨rfl,hb3⟩
    simp only[leafV]
    have hbox3:Box5 w3 H6 45 (.int .i64 ka) (.int .i64 a) (.int .i64 b) (.string sa) (.slice oa la ca):=(hb3.block _ (by simp;omega)).trans (HX.out.alloc _)
    have hbx3:Box5 w3 w.heap.size 45 (.int .i64 0) (.int .i64 0) (.int .i64 0) (.string ⟨#[]⟩) (.slice none 0 0):=(hb3.block _ (by simp;omega)).trans (HX0.out.alloc _)
    have HB3:=Lib.hid (Below.next (HB.out.alloc hsz _) hb3)
    have hs3:=HB3.out.size
    have hN:Box5 (set5 w3 H6 (.int .i64 0) (.int .i64 p) (.int .i64 q) (.string ⟨#[]⟩) (.slice none 0 0)) H6 45 (.int .i64 0) (.int .i64 p) (.int .i64 q) (.string ⟨#[]⟩) (.slice none 0 0):=hbox3.set (.int .i64 0) (.int .i64 p) (.int .i64 q) (.string ⟨#[]⟩) (.slice none 0 0)
    have hM:Box5 (set5 w3 H6 (.int .i64 0) (.int .i64 p) (.int .i64 q) (.string ⟨#[]⟩) (.slice none 0 0)) w.heap.size 45 (.int .i64 0) (.int .i64 0) (.int .i64 0) (.string ⟨#[]⟩) (.slice none 0 0):=(set5_heap _ _ _ _ _ _ _ (by omega)).trans hbx3
    have HN:=Lib.hid hN
    have HM:=Lib.hid hM
    have HB4:=Lib.hid (HB3.out.trans (set5_below w3 H6 w.heap.size (.int .i64 0) (.int .i64 p) (.int .i64 q) (.string ⟨#[]⟩) (.slice none 0 0) (by omega)))
    clear q0 q1 q2 q3 q4 z0 z1 z2 z3 z4 hb3 hN
    obtain ⟨q0,q1,q2,q3,q4⟩:=hbox3.cells
    obtain ⟨z0,z1,z2,z3,z4⟩:=hbox3.free
    have hlt3:=hbox3.lt
    obtain ⟨W4,hW4⟩:∃W4,set5 w3 H6 (.int .i64 0) (.int .i64 p) (.int .i64 q) (.string ⟨#[]⟩) (.slice none 0 0)=W4:=⟨_,rfl⟩
    rw[hW4] at HN HM HB4
    unfold set5 at hW4
    go_upto_region 11 with fail
    try rw[hW4]
    clear hW4 hbox3 hbx3 hM q0 q1 q2 q3 q4 z0 z1 z2 z3 z4
    by_cases hz:z=0
    ·subst hz
     go_wp2_with fail
     go_roundg (len-(j+1))
     case measure=>omega
     case rel=>exact ⟨j+1,rfl,by omega,by go_num,⟨p,q,0,⟨#[]⟩,none,0,0,HN.out,by omega,by omega,.inr ⟨rfl,rfl,rfl,rfl,rfl⟩,by rw[←HRS.out];simp⟩,HM.out,HB4.out⟩
    ·have hz2:(z != 0)=true:=by simpa using hz
     obtain rfl:(Prims.zeroD,z)=R:=by rw[←HRS.out,if_neg hz]
     obtain ⟨y0,y1,y2,y3,y4⟩:=HM.out.cells
     obtain ⟨v0,v1,v2,v3,v4⟩:=HM.out.free
     have hltM:=HM.out.lt
     obtain ⟨r0,r1,r2,r3,r4⟩:=(HM.out.set (.int .i64 0) (.int .i64 0) (.int .i64 0) (.string ⟨#[]⟩) (.slice none 0 0)).cells
     have HB5:=Lib.hid (HB4.out.trans (set5_below W4 w.heap.size w.heap.size (.int .i64 0) (.int .i64 0) (.int .i64 0) (.string ⟨#[]⟩) (.slice none 0 0) (Nat.le_refl _)))
     go_wp2_with fail
     exact bodyPost_ret (v:=.tuple #[leafV 0 0 0,.int .i64 z]) (by simp[results,Tryz.results114,go_sem,leafV,r0,r1,r2,r3,r4]) rfl (endPost_leaf (by omega) (by omega) (by omega) rfl HB5.out)
   ·obtain rfl:j=len:=by omega
    obtain ⟨y0,y1,y2,y3,y4⟩:=HX0.out.cells
    obtain ⟨v0,v1,v2,v3,v4⟩:=HX0.out.free
    have hlt0:=HX0.out.lt
    obtain ⟨rfl,rfl,rfl,rfl,rfl⟩:ka=0∧sa=⟨#[]⟩∧oa=none∧la=0∧ca=0:=by
     rcases HLF.out with ⟨h1,h2⟩ | h
     ·cases h1
     ·exact h
    obtain ⟨r0,r1,r2,r3,r4⟩:=(HX0.out.set (.int .i64 0) (.int .i64 a) (.int .i64 b) (.string ⟨#[]⟩) (.slice none 0 0)).cells
    have HB5:=Lib.hid (HB.out.trans (set5_below wr w.heap.size w.heap.size (.int .i64 0) (.int .i64 a) (.int .i64 b) (.string ⟨#[]⟩) (.slice none 0 0) (Nat.le_refl _)))
    have HRR:=Lib.hid (show (Prims.num a b,0)=R by rw[←HR2.out,List.drop_of_length_le (by rw[←HL.out];exact Nat.le_refl _)];rfl)
    go_wp2_with fail
    rw[←HRR.out]
    exact bodyPost_ret (v:=.tuple #[leafV 0 a b,.int .i64 0]) (by simp[results,Tryz.results114,go_sem,leafV,r0,r1,r2,r3,r4]) rfl (endPost_leaf (by omega) hab hbb rfl HB5.out)
theorem sums_3 (l:List Dat) (sl:Value) (B:Nat) (w:World) (hv:RepS w B l sl) (hB:B≤w.heap.size) (B2:Nat) :
  Calls Tryz.prog 114 #[.int .i64 3,sl] w (EndPost B2 (Prims.sums 3 l) w):=by
 obtain ⟨o,len,cap,rfl,hl,hcap,hmax,hc⟩:=hv.wider hB
 obtain ⟨r,hr⟩:∃r,(l.any fun x=>decide (x.kind≠0))=r:=⟨_,rfl⟩
 obtain ⟨R,hR⟩:∃R,Prims.sums 3 l=R:=⟨_,rfl⟩
 rw[hR]
 unfold Prims.sums at hR
 rw[hr] at hR
 have HR:=Lib.hid hR
 have HC:=Lib.hid hc
 have HL:=Lib.hid hl
 have HCF:=Lib.hid (fun W (hb:Below w.heap.size w W)=>containsFunc_any 140 #[] (fun x=>decide (x.kind≠0)) r l o len cap w.heap.size W hl hcap hmax (by
   cases o with
   | none=>exact hc
   | some a=>exact ⟨fun h=>hc.1 h,if h:l=[] then by rw[h,RepC];trivial else hc.2.kept (hc.1 h).2 hb⟩) hb.size (fun args w=>Tryz.call140 args w) (fun x _ v w' hx _=>by
   obtain ⟨k',n',d',s',o',len',cap',rfl⟩:=agg_of hx
   obtain ⟨kx,nx,dx,sx,lx⟩:=x
   obtain ⟨_,he,_⟩:=hx.open
   simp only[Value.agg.injEq,Array.mk.injEq,List.cons.injEq,Value.int.injEq,true_and] at he
   obtain ⟨rfl,_⟩:=he
   have:=sums1_any k' n' d' s' o' len' cap' w'
   rw[show (k' != 0)=decide (k'≠0) from by rw[Bool.eq_iff_iff,bne_iff_ne,decide_eq_true_eq]] at this
   exact this) hr)
 clear hc hl hR hv
 have HK:=Lib.hid (fun X=>(Below.refl w.heap.size w).alloc (Nat.le_refl _) X)
 cases r with
 | true=>
  obtain rfl:(Prims.zeroD,1)=R:=by rw[←HR.out];simp
  go_enter Tryz.func114,Tryz.ntmps114
  go_wp2_with fail
  refine (HCF.out _ (HK.out _)).mono ?_
  rintro e1 w1 ⟨rfl,hb1⟩
  have hbox:Box5 w1 w.heap.size 45 (.int .i64 0) (.int .i64 0) (.int .i64 0) (.string ⟨#[]⟩) (.slice none 0 0):=(hb1.block _ (by simp)).trans (Box5.new w _ _ _ _ _ _)
  obtain ⟨q0,q1,q2,q3,q4⟩:=hbox.cells
  obtain ⟨z0,z1,z2,z3,z4⟩:=hbox.free
  have hlt:=hbox.lt
  obtain ⟨r0,r1,r2,r3,r4⟩:=(hbox.set (.int .i64 0) (.int .i64 0) (.int .i64 0) (.string ⟨#[]⟩) (.slice none 0 0)).cells
  have HB:=Lib.hid ((one_below hb1).trans (set5_below w1 w.heap.size w.heap.size (.int .i64 0) (.int .i64 0) (.int .i64 0) (.string ⟨#[]⟩) (.slice none 0 0) (Nat.le_refl _)))
  go_wp2_with fail
  exact bodyPost_ret (v:=.tuple #[leafV 0 0 0,.int .i64 1]) (by simp[results,Tryz.results114,go_sem,leafV,r0,r1,r2,r3,r4]) rfl (endPost_leaf (by omega) (by omega) (by omega) rfl HB.out)
 | false=>
  go_enter Tryz.func114,Tryz.ntmps114
  go_wp2_with fail
  refine (HCF.out _ (HK.out _)).mono ?_
  rintro e1 w1 ⟨rfl,hb1⟩
  have hbox:Box5 w1 w.heap.size 45 (.int .i64 0) (.int .i64 0) (.int .i64 0) (.string ⟨#[]⟩) (.slice none 0 0):=(hb1.block _ (by simp)).trans (Box5.new w _ _ _ _ _ _)
  have HB1:=Lib.hid (one_below hb1)
  clear hb1
  go_wp2_with fail
  refine (whole_any _ _).mono ?_
  rintro e1 w2 ⟨rfl,hb2⟩
  have hbox2:Box5 w2 w.heap.size 45 (.int .i64 0) (.int .i64 0) (.int .i64 0) (.string ⟨#[]⟩) (.slice none 0 0):=(hb2.block _ hbox.lt).trans hbox
  have HX0:=Lib.hid hbox2
  have HB2:=Lib.hid (Below.next HB1.out hb2)
  have hs2:=HB2.out.size
  have hlt0:=hbox2.lt
  clear hbox hb2 hbox2
  unfold leafV
  obtain ⟨H6,hH6⟩:∃H6,w2.heap.size=H6:=⟨_,rfl⟩
  by_cases hl1:1<len
  ·have hl2:decide ((1:Int)<(len:Int))=true:=decide_eq_true (by omega)
   have hl3:decide (1<len)=true:=decide_eq_true hl1
   obtain ⟨x0,M,rfl⟩:∃x0 M,l=x0::M:=by
    cases l with
    | nil=>have:=HL.out;simp at this;omega
    | cons x0 M=>exact ⟨x0,M,rfl⟩
   obtain ⟨bb,off,k0,n0,d0,s0,l0,o0,len0,cap0,ho,hx0,e0,e1,e2,e3,e4,er⟩:=part_at2 HC.out HB2.out (j:=0) (x:=x0) rfl
   subst ho hx0
   simp only[Nat.zero_mul,Nat.add_zero] at e0 e1 e2 e3 e4
   obtain ⟨_,_,_,bn0,bd0,_,_⟩:=er.open
   obtain ⟨hcb,hcr⟩:=HC.out
   rw[RepC] at hcr
   have HSM:=Lib.hid (show RepS w w.heap.size M (.slice (some ⟨bb,off+5,none⟩) (len-1) (cap-1)) from ⟨some ⟨bb,off+5,none⟩,len-1,cap-1,rfl,by have:=HL.out;simp at this;omega,by omega,by omega,fun _=>⟨rfl,(hcb (by simp)).2⟩,hcr.2⟩)
   have HLM:=Lib.hid (show len-1=M.length by have:=HL.out;simp at this;omega)
   have HRM:=Lib.hid (show Prims.sumsL 3 M n0 d0=R by
    rw[←HR.out]
    have:1<(Dat.mk k0 n0 d0 s0 l0::M).length:=by rw[←HL.out];exact hl1
    simp only[Prims.sumsR,if_neg (Bool.false_ne_true)]
    rw[if_pos ⟨by decide,this⟩];rfl)
   have hl0:0<len:=by omega
   have HH6:=Lib.hid hH6
   have hH6b:w.heap.size<H6:=by omega
   have E0:=Lib.hid e0
   have E1:=Lib.hid e1
   have E2:=Lib.hid e2
   have E3:=Lib.hid e3
   have E4:=Lib.hid e4
   clear hcb hcr er hlt0 hH6 e0 e1 e2 e3 e4
   go_upto_region 5 with fail
   obtain ⟨W3,hW3⟩:∃W3,w2.alloc (.cells #[.int .i64 0,.int .i64 1,.int .i64 1,.string ⟨#[]⟩,.slice none 0 0] 45)=W3:=⟨_,rfl⟩
   have hk:∀o u,w2.cell? ⟨bb,o,none⟩=some u→W3.cell? ⟨bb,o,none⟩=some u:=fun o u h=>by rw[←hW3,World.cell?_alloc_past _ _ _ (cell_lt h)];exact h
   have f0:=hk _ _ E0.out
   have f1:=hk _ _ E1.out
   have f2:=hk _ _ E2.out
   have f3:=hk _ _ E3.out
   have f4:=hk _ _ E4.out
   have hb6:Box5 W3 H6 45 (.int .i64 0) (.int .i64 1) (.int .i64 1) (.string ⟨#[]⟩) (.slice none 0 0):=by rw[←hW3,←HH6.out];exact Box5.new _ _ _ _ _ _ _
   have HX3:=Lib.hid (show Box5 W3 w.heap.size 45 (.int .i64 0) (.int .i64 0) (.int .i64 0) (.string ⟨#[]⟩) (.slice none 0 0) by rw[←hW3];exact HX0.out.alloc _)
   have HB3:=Lib.hid (show Below w.heap.size w W3 by rw[←hW3];exact HB2.out.alloc hs2 _)
   rw[hW3,HH6.out]
   clear hW3 hk hs2
   obtain ⟨q0,q1,q2,q3,q4⟩:=hb6.cells
   obtain ⟨z0,z1,z2,z3,z4⟩:=hb6.free
   have hlt6:=hb6.lt
   go_region
   all_goals go_wp2_with fail
   obtain ⟨m,hm⟩:∃m,len-1=m:=⟨_,rfl⟩
   have hm1:1≤m:=by omega
   have hm2:m<9223372036854775807:=by omega
   rw[hm] at HLM
   simp only[hm]
   have HI0:=Lib.hid (show SumsI 3 R M true w.heap.size H6 w 0 (set5 W3 H6 (.int .i64 k0) (.int .i64 n0) (.int .i64 d0) (.string s0) (.slice o0 len0 cap0)).drew from
    ⟨⟨n0,d0,k0,s0,o0,len0,cap0,hb6.set _ _ _ _ _,bn0,bd0,.inl ⟨rfl,rfl⟩,by simpa using HRM.out⟩,(set5_heap _ _ _ _ _ _ _ (by omega)).trans HX3.out,(HB3.out.trans (set5_below W3 H6 w.heap.size _ _ _ _ _ (by omega))).drew⟩)
   clear hm hb6 q0 q1 q2 q3 q4 z0 z1 z2 z3 z4 f0 f1 f2 f3 f4
   go_loopg [31] m (fun g q wr=>∃j:Nat,g=m-j∧j≤m∧q=.int .i64 j∧SumsI 3 R M true w.heap.size H6 w j wr)
   case atStart=>exact ⟨0,rfl,by omega,rfl,HI0.out⟩
   case round=>
    obtain ⟨j,rfl,hj,rfl,⟨a,b,ka,sa,oa,la,ca,hbox,hab,hbb,hlf,hR⟩,hbx0,hb⟩:=hrel
    have HR2:=Lib.hid hR
    have HX:=Lib.hid hbox
    have HX0:=Lib.hid hbx0
    have HB:=Lib.hid hb
    have HLF:=Lib.hid hlf
    obtain ⟨q0,q1,q2,q3,q4⟩:=hbox.cells
    obtain ⟨z0,z1,z2,z3,z4⟩:=hbox.free
    have hlt:=hbox.lt
    have hsz:=hb.size
    clear hbox hbx0 hb hlf hR
    by_cases hjl:j<m
    ·obtain ⟨x,hx⟩:∃x,M[j]?=some x:=⟨_,List.getElem?_eq_getElem (by rw[←HLM.out];exact hjl)⟩
     obtain ⟨b1,off1,k1,n1,d1,s1,l1,o1,len1,cap1,ho1,hx1,e0,e1,e2,e3,e4,er⟩:=part_atS HSM.out HB.out hx
     simp only[Option.some.injEq,Addr.mk.injEq,and_true] at ho1
     obtain ⟨rfl,rfl⟩:=ho1
     subst hx1
     obtain ⟨_,_,_,bn1,bd1,_,_⟩:=er.open
     have HXX:=Lib.hid hx
     clear hx er
     obtain ⟨p,q,z,hs⟩:∃p q z,Prims.step 3 a b n1 d1=(p,q,z):=⟨_,_,_,rfl⟩
     have HS:=Lib.hid hs
     have bds:=step_bd hs
     have HRS:=Lib.hid ((sumsL_step HXX.out hs).symm.trans HR2.out)
     clear hs
     go_wp2_with fail
     refine (step_3 _ _ _ _ _ _ _ _ _ _ _ _ _ _ p q z HS.out hab.1 hab.2 hbb.1 hbb.2 bn1.1 bn1.2 bd1.1 bd1.2 _).mono ?_
     rintro e1 w3 ⟨rfl,hb3⟩
     simp only[leafV]
     have hbox3:Box5 w3 H6 45 (.int .i64 ka) (.int .i64 a) (.int .i64 b) (.string sa) (.slice oa la ca):=(hb3.block _ (by simp;omega)).trans (HX.out.alloc _)
     have hbx3:Box5 w3 w.heap.size 45 (.int .i64 0) (.int .i64 0) (.int .i64 0) (.string ⟨#[]⟩) (.slice none 0 0):=(hb3.block _ (by simp;omega)).trans (HX0.out.alloc _)
     have HB3:=Lib.hid (Below.next (HB.out.alloc hsz _) hb3)
     have hs3:=HB3.out.size
     have hN:Box5 (set5 w3 H6 (.int .i64 0) (.int .i64 p) (.int .i64 q) (.string ⟨#[]⟩) (.slice none 0 0)) H6 45 (.int .i64 0) (.int .i64 p) (.int .i64 q) (.string ⟨#[]⟩) (.slice none 0 0):=hbox3.set (.int .i64 0) (.int .i64 p) (.int .i64 q) (.string ⟨#[]⟩) (.slice none 0 0)
     have hM:Box5 (set5 w3 H6 (.int .i64 0) (.int .i64 p) (.int .i64 q) (.string ⟨#[]⟩) (.slice none 0 0)) w.heap.size 45 (.int .i64 0) (.int .i64 0) (.int .i64 0) (.string ⟨#[]⟩) (.slice none 0 0):=(set5_heap _ _ _ _ _ _ _ (by omega)).trans hbx3
     have HN:=Lib.hid hN
     have HM:=Lib.hid hM
     have HB4:=Lib.hid (HB3.out.trans (set5_below w3 H6 w.heap.size (.int .i64 0) (.int .i64 p) (.int .i64 q) (.string ⟨#[]⟩) (.slice none 0 0) (by omega)))
     clear q0 q1 q2 q3 q4 z0 z1 z2 z3 z4 hb3 hN
     obtain ⟨q0,q1,q2,q3,q4⟩:=hbox3.cells
     obtain ⟨z0,z1,z2,z3,z4⟩:=hbox3.free
     have hlt3:=hbox3.lt
     obtain ⟨W4,hW4⟩:∃W4,set5 w3 H6 (.int .i64 0) (.int .i64 p) (.int .i64 q) (.string ⟨#[]⟩) (.slice none 0 0)=W4:=⟨_,rfl⟩
     rw[hW4] at HN HM HB4
     unfold set5 at hW4
     go_upto_region 11 with fail
     try rw[hW4]
     clear hW4 hbox3 hbx3 hM q0 q1 q2 q3 q4 z0 z1 z2 z3 z4
     by_cases hz:z=0
     ·subst hz
      go_wp2_with fail
      go_roundg (m-(j+1))
      case measure=>omega
      case rel=>exact ⟨j+1,rfl,by omega,by go_num,⟨p,q,0,⟨#[]⟩,none,0,0,HN.out,by omega,by omega,.inr ⟨rfl,rfl,rfl,rfl,rfl⟩,by rw[←HRS.out];simp⟩,HM.out,HB4.out⟩
     ·have hz2:(z != 0)=true:=by simpa using hz
      obtain rfl:(Prims.zeroD,z)=R:=by rw[←HRS.out,if_neg hz]
      obtain ⟨y0,y1,y2,y3,y4⟩:=HM.out.cells
      obtain ⟨v0,v1,v2,v3,v4⟩:=HM.out.free
      have hltM:=HM.out.lt
      obtain ⟨r0,r1,r2,r3,r4⟩:=(HM.out.set (.int .i64 0) (.int .i64 0) (.int .i64 0) (.string ⟨#[]⟩) (.slice none 0 0)).cells
      have HB5:=Lib.hid (HB4.out.trans (set5_below W4 w.heap.size w.heap.size (.int .i64 0) (.int .i64 0) (.int .i64 0) (.string ⟨#[]⟩) (.slice none 0 0) (Nat.le_refl _)))
      go_wp2_with fail
      exact bodyPost_ret (v:=.tuple #[leafV 0 0 0,.int .i64 z]) (by simp[results,Tryz.results114,go_sem,leafV,r0,r1,r2,r3,r4]) rfl (endPost_leaf (by omega) (by omega) (by omega) rfl HB5.out)
    ·obtain rfl:j=m:=by omega
     obtain ⟨y0,y1,y2,y3,y4⟩:=HX0.out.cells
     obtain ⟨v0,v1,v2,v3,v4⟩:=HX0.out.free
     have hlt0:=HX0.out.lt
     obtain ⟨rfl,rfl,rfl,rfl,rfl⟩:ka=0∧sa=⟨#[]⟩∧oa=none∧la=0∧ca=0:=by
      rcases HLF.out with ⟨h1,h2⟩ | h
      ·omega
      ·exact h
     obtain ⟨r0,r1,r2,r3,r4⟩:=(HX0.out.set (.int .i64 0) (.int .i64 a) (.int .i64 b) (.string ⟨#[]⟩) (.slice none 0 0)).cells
     have HB5:=Lib.hid (HB.out.trans (set5_below wr w.heap.size w.heap.size (.int .i64 0) (.int .i64 a) (.int .i64 b) (.string ⟨#[]⟩) (.slice none 0 0) (Nat.le_refl _)))
     have HRR:=Lib.hid (show (Prims.num a b,0)=R by rw[←HR2.out,List.drop_of_length_le (by rw[←HLM.out];exact Nat.le_refl _)];rfl)
     go_wp2_with fail
     rw[←HRR.out]
     exact bodyPost_ret (v:=.tuple #[leafV 0 a b,.int .i64 0]) (by simp[results,Tryz.results114,go_sem,leafV,r0,r1,r2,r3,r4]) rfl (endPost_leaf (by omega) hab hbb rfl HB5.out)
  ·have hl2:decide ((1:Int)<(len:Int))=false:=decide_eq_false (by omega)
   have hl3:decide (1<len)=false:=decide_eq_false hl1
   have hI:SumsI 3 R l false w.heap.size w2.heap.size w 0 (w2.alloc (.cells #[.int .i64 0,.int .i64 1,.int .i64 1,.string ⟨#[]⟩,.slice none 0 0] 45)):=
    ⟨⟨1,1,0,⟨#[]⟩,none,0,0,Box5.new _ _ _ _ _ _ _,by omega,by omega,.inr ⟨rfl,rfl,rfl,rfl,rfl⟩,by
     rw[←HR.out]
     simp only[Prims.sumsR,if_neg (Bool.false_ne_true)]
     rw[if_neg (by rw[←HL.out];omega)];rfl⟩,HX0.out.alloc _,HB2.out.alloc hs2 _⟩
   have HI0:=Lib.hid hI
   clear hI
   rw[hH6] at HI0
   have hH6b:w.heap.size<H6:=by omega
   go_wp2_with fail
   try rw[hH6]
   go_loopg [31] len (fun g q wr=>∃j:Nat,g=len-j∧j≤len∧q=.int .i64 j∧SumsI 3 R l false w.heap.size H6 w j wr)
   case atStart=>exact ⟨0,rfl,by omega,rfl,HI0.out⟩
   case round=>
    obtain ⟨j,rfl,hj,rfl,⟨a,b,ka,sa,oa,la,ca,hbox,hab,hbb,hlf,hR⟩,hbx0,hb⟩:=hrel
    have HR2:=Lib.hid hR
    have HX:=Lib.hid hbox
    have HX0:=Lib.hid hbx0
    have HB:=Lib.hid hb
    have HLF:=Lib.hid hlf
    obtain ⟨q0,q1,q2,q3,q4⟩:=hbox.cells
    obtain ⟨z0,z1,z2,z3,z4⟩:=hbox.free
    have hlt:=hbox.lt
    have hsz:=hb.size
    clear hbox hbx0 hb hlf hR
    by_cases hjl:j<len
    ·obtain ⟨x,hx⟩:∃x,l[j]?=some x:=⟨_,List.getElem?_eq_getElem (by rw[←HL.out];exact hjl)⟩
     obtain ⟨b1,off1,k1,n1,d1,s1,l1,o1,len1,cap1,ho1,hx1,e0,e1,e2,e3,e4,er⟩:=part_at2 HC.out HB.out hx
     subst ho1
     skip
     subst hx1
     obtain ⟨_,_,_,bn1,bd1,_,_⟩:=er.open
     have HXX:=Lib.hid hx
     clear hx er
     obtain ⟨p,q,z,hs⟩:∃p q z,Prims.step 3 a b n1 d1=(p,q,z):=⟨_,_,_,rfl⟩
     have HS:=Lib.hid hs
     have bds:=step_bd hs
     have HRS:=Lib.hid ((sumsL_step HXX.out hs).symm.trans HR2.out)
     clear hs
     go_wp2_with fail
     refine (step_3 _ _ _ _ _ _ _ _ _ _ _ _ _ _ p q z HS.out hab.1 hab.2 hbb.1 hbb.2 bn1.1 bn1.2 bd1.1 bd1.2 _).mono ?_
     rintro e1 w3 ⟨rfl,hb3⟩
     simp only[leafV]
     have hbox3:Box5 w3 H6 45 (.int .i64 ka) (.int .i64 a) (.int .i64 b) (.string sa) (.slice oa la ca):=(hb3.block _ (by simp;omega)).trans (HX.out.alloc _)
     have hbx3:Box5 w3 w.heap.size 45 (.int .i64 0) (.int .i64 0) (.int .i64 0) (.string ⟨#[]⟩) (.slice none 0 0):=(hb3.block _ (by simp;omega)).trans (HX0.out.alloc _)
     have HB3:=Lib.hid (Below.next (HB.out.alloc hsz _) hb3)
     have hs3:=HB3.out.size
     have hN:Box5 (set5 w3 H6 (.int .i64 0) (.int .i64 p) (.int .i64 q) (.string ⟨#[]⟩) (.slice none 0 0)) H6 45 (.int .i64 0) (.int .i64 p) (.int .i64 q) (.string ⟨#[]⟩) (.slice none 0 0):=hbox3.set (.int .i64 0) (.int .i64 p) (.int .i64 q) (.string ⟨#[]⟩) (.slice none 0 0)
     have hM:Box5 (set5 w3 H6 (.int .i64 0) (.int .i64 p) (.int .i64 q) (.string ⟨#[]⟩) (.slice none 0 0)) w.heap.size 45 (.int .i64 0) (.int .i64 0) (.int .i64 0) (.string ⟨#[]⟩) (.slice none 0 0):=(set5_heap _ _ _ _ _ _ _ (by omega)).trans hbx3
     have HN:=Lib.hid hN
     have HM:=Lib.hid hM
     have HB4:=Lib.hid (HB3.out.trans (set5_below w3 H6 w.heap.size (.int .i64 0) (.int .i64 p) (.int .i64 q) (.string ⟨#[]⟩) (.slice none 0 0) (by omega)))
     clear q0 q1 q2 q3 q4 z0 z1 z2 z3 z4 hb3 hN
     obtain ⟨q0,q1,q2,q3,q4⟩:=hbox3.cells
     obtain ⟨z0,z1,z2,z3,z4⟩:=hbox3.free
     have hlt3:=hbox3.lt
     obtain ⟨W4,hW4⟩:∃W4,set5 w3 H6 (.int .i64 0) (.int .i64 p) (.int .i64 q) (.string ⟨#[]⟩) (.slice none 0 0)=W4:=⟨_,rfl⟩
     rw[hW4] at HN HM HB4
     unfold set5 at hW4
     go_upto_region 11 with fail
     try rw[hW4]
     clear hW4 hbox3 hbx3 hM q0 q1 q2 q3 q4 z0 z1 z2 z3 z4
     by_cases hz:z=0
     ·subst hz
      go_wp2_with fail
      go_roundg (len-(j+1))
      case measure=>omega
      case rel=>exact ⟨j+1,rfl,by omega,by go_num,⟨p,q,0,⟨#[]⟩,none,0,0,HN.out,by omega,by omega,.inr ⟨rfl,rfl,rfl,rfl,rfl⟩,by rw[←HRS.out];simp⟩,HM.out,HB4.out⟩
     ·have hz2:(z != 0)=true:=by simpa using hz
      obtain rfl:(Prims.zeroD,z)=R:=by rw[←HRS.out,if_neg hz]
      obtain ⟨y0,y1,y2,y3,y4⟩:=HM.out.cells
      obtain ⟨v0,v1,v2,v3,v4⟩:=HM.out.free
      have hltM:=HM.out.lt
      obtain ⟨r0,r1,r2,r3,r4⟩:=(HM.out.set (.int .i64 0) (.int .i64 0) (.int .i64 0) (.string ⟨#[]⟩) (.slice none 0 0)).cells
      have HB5:=Lib.hid (HB4.out.trans (set5_below W4 w.heap.size w.heap.size (.int .i64 0) (.int .i64 0) (.int .i64 0) (.string ⟨#[]⟩) (.slice none 0 0) (Nat.le_refl _)))
      go_wp2_with fail
      exact bodyPost_ret (v:=.tuple #[leafV 0 0 0,.int .i64 z]) (by simp[results,Tryz.results114,go_sem,leafV,r0,r1,r2,r3,r4]) rfl (endPost_leaf (by omega) (by omega) (by omega) rfl HB5.out)
    ·obtain rfl:j=len:=by omega
     obtain ⟨y0,y1,y2,y3,y4⟩:=HX0.out.cells
     obtain ⟨v0,v1,v2,v3,v4⟩:=HX0.out.free
     have hlt0:=HX0.out.lt
     obtain ⟨rfl,rfl,rfl,rfl,rfl⟩:ka=0∧sa=⟨#[]⟩∧oa=none∧la=0∧ca=0:=by
      rcases HLF.out with ⟨h1,h2⟩ | h
      ·cases h1
      ·exact h
     obtain ⟨r0,r1,r2,r3,r4⟩:=(HX0.out.set (.int .i64 0) (.int .i64 a) (.int .i64 b) (.string ⟨#[]⟩) (.slice none 0 0)).cells
     have HB5:=Lib.hid (HB.out.trans (set5_below wr w.heap.size w.heap.size (.int .i64 0) (.int .i64 a) (.int .i64 b) (.string ⟨#[]⟩) (.slice none 0 0) (Nat.le_refl _)))
     have HRR:=Lib.hid (show (Prims.num a b,0)=R by rw[←HR2.out,List.drop_of_length_le (by rw[←HL.out];exact Nat.le_refl _)];rfl)
     go_wp2_with fail
     rw[←HRR.out]
     exact bodyPost_ret (v:=.tuple #[leafV 0 a b,.int .i64 0]) (by simp[results,Tryz.results114,go_sem,leafV,r0,r1,r2,r3,r4]) rfl (endPost_leaf (by omega) hab hbb rfl HB5.out)
end
end Go.Proofs.YtgbibibmpoekiaaGreatDoor
