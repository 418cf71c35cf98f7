/- .. -/
import Derived.Deep.LoopGhost
import Derived.Test.YtnbjhmafnigefaaGreatDoorSckA10
open Go.Proofs.Tryz
set_option maxRecDepth 100000
set_option maxHeartbeats 16000000
namespace Go.Proofs.YtnbjhmafnigefaaGreatDoor
section
open Go Go.RowKit
theorem zkE {P:Program} {o:Oper} {a:Act} {w:World} {K:Act->World->Prop} {Q:Exit->Act->World->Prop} {v:Value} {w':World} (h:(execOp a.eval o).run P w=.ok (.value v) w') (hK:K (a.put o.dst v) w'):o.wp P a w K Q:=by
 unfold Oper.wp
 rw[h]
 exact hK
theorem zlt {ops:Array Oper} {n q:Nat} {o:Oper} {R:Nat->Value->World->Prop} {a:Act} {w1:World} (h:∀j oj d,j<n->j≠q->ops[j]?=some oj->(∃e∈o.after,Region.binds .any e=true∧e.on=j)->oj.dst=some d->R j (a.tmps.getD d undef) w1) (j d:Nat) (hB:depB ops n o j d=true) (hj:j≠q):R j (a.tmps.getD d undef) w1:=by
 simp only[depB,Bool.and_eq_true,decide_eq_true_eq] at hB
 obtain ⟨h1,h2,h3⟩:=hB
 cases hj':ops[j]? with
 | none=>rw[hj'] at h2;cases h2
 | some oj=>
  rw[hj'] at h2
  rw[Array.any_eq_true'] at h3
  obtain ⟨e,he,hb⟩:=h3
  simp only[Bool.and_eq_true,beq_iff_eq] at hb
  exact h j oj d h1 hj hj' ⟨e,he,hb.1,hb.2⟩ (by simpa using h2)
def LpR (S:Nat->Prop) (fv gv:Value) (f g:Dat) (i:Nat) (v:Value) (W:World):Prop:=match i with
 | 0=>v=fv
 | 1=>v=gv
 | 2=>RepS (hide W S) W.heap.size [f,g] v
 | 3=>RepD (hide W S) W.heap.size (Dat.list [f,g]) v
 | 4=>RepS (hide W S) W.heap.size [Dat.list [f,g]] v
 | 5=>RepD (hide W S) W.heap.size (Dat.list [Dat.list [f,g]]) v
 | 6=>v=fv
 | 7=>RepS (hide W S) W.heap.size [Dat.list [Dat.list [f,g]],f] v
 | 8=>RepD (hide W S) W.heap.size (Sy.form Sy.letrecB [Dat.list [Dat.list [f,g]],f]) v
 | _=>True
theorem zgx {S S':Nat->Prop} {fv gv:Value} {f g:Dat}:∀i v (A B:World),LpR S fv gv f g i v A->Shown A S B S'->A.heap.size<=B.heap.size->LpR S' fv gv f g i v B:=by
 intro i v A B h hs hz
 match i,h with
 | 0,h | 1,h | 6,h=>exact h
 | 2,h | 4,h | 7,h=>exact RepS.shown h hs hz
 | 3,h | 5,h | 8,h=>exact RepD.shown h hs hz
 | _+9,_=>exact trivial
theorem zdO {E:Dat->Sy.M Dat} (hE:EOk E) (S:Nat->Prop) (b n:Nat) (f g:Dat) (fv gv:Value) (lv:List Dat) (vv:Value) (w:World) (r:Option (Dat × Nat)) (hr:Sy.loopF E f g lv n=some r) (hS:∀c,S c->c<w.heap.size) (hb:S b) (hx:XP w b n) (hV:Env w) (hfv:RepD (hide w S) w.heap.size f fv) (hgv:RepD (hide w S) w.heap.size g gv) (hv:RepS (hide w S) w.heap.size lv vv) (hl:lv.length<=100000) :
  Calls prog 145 #[.pointer (some ⟨b,0,none⟩),fv,gv,vv] w (XRes S b r w):=by
 obtain ⟨k1,m1,d1,s1,o1,len1,cap1,rfl⟩:=zae hfv.unhide
 obtain ⟨k2,m2,d2,s2,o2,len2,cap2,rfl⟩:=zae hgv.unhide
 obtain ⟨V1,hV1⟩:∃V1,w.alloc (.cells #[.int .i64 k1,.int .i64 m1,.int .i64 d1,.string s1,.slice o1 len1 cap1] 26)=V1:=⟨_,rfl⟩
 obtain ⟨V2,hV2⟩:∃V2,V1.alloc (.cells #[.int .i64 k2,.int .i64 m2,.int .i64 d2,.string s2,.slice o2 len2 cap2] 26)=V2:=⟨_,rfl⟩
 obtain ⟨W0,hW0⟩:∃W0,V2.alloc (.cells #[.int .i64 0,.int .i64 0,.int .i64 0,.string ⟨#[]⟩,.slice none 0 0] 26)=W0:=⟨_,rfl⟩
 have z1:V1.heap.size=w.heap.size+1:=by rw[<-hV1];simp
 have z2:V2.heap.size=w.heap.size+2:=by rw[<-hV2];simp[z1]
 have c1:Below w.heap.size w V1:=by rw[<-hV1];exact Below.one _ _
 have c2:Below V1.heap.size V1 V2:=by rw[<-hV2];exact Below.one _ _
 have c4:Below V2.heap.size V2 W0:=by rw[<-hW0];exact Below.one _ _
 have hfx1:Box5 W0 w.heap.size 26 (.int .i64 k1) (.int .i64 m1) (.int .i64 d1) (.string s1) (.slice o1 len1 cap1):=(c4.block _ (by omega)).trans ((c2.block _ (by omega)).trans (by rw[<-hV1];exact Box5.new w _ _ _ _ _ _))
 have hfx2:Box5 W0 (w.heap.size+1) 26 (.int .i64 k2) (.int .i64 m2) (.int .i64 d2) (.string s2) (.slice o2 len2 cap2):=(c4.block _ (by omega)).trans (by rw[<-hV2,<-z1];exact Box5.new V1 _ _ _ _ _ _)
 have hbx:Box5 W0 (w.heap.size+2) 26 (.int .i64 0) (.int .i64 0) (.int .i64 0) (.string ⟨#[]⟩) (.slice none 0 0):=by rw[<-hW0,<-z2];exact Box5.new V2 _ _ _ _ _ _
 have hbl:Below w.heap.size w W0:=c1.trans ((c2.mono (by omega)).trans (c4.mono (by omega)))
 have hW:((w.alloc (.cells #[.int .i64 k1,.int .i64 m1,.int .i64 d1,.string s1,.slice o1 len1 cap1] 26)).alloc (.cells #[.int .i64 k2,.int .i64 m2,.int .i64 d2,.string s2,.slice o2 len2 cap2] 26)).alloc (.cells #[.int .i64 0,.int .i64 0,.int .i64 0,.string ⟨#[]⟩,.slice none 0 0] 26)=W0:=by rw[hV1,hV2,hW0]
 clear hV1 hV2 hW0 c1 c2 c4 z1 z2
 clear V1 V2
 have hbw:b<w.heap.size:=hS b hb
 have hS1:∀c,(S1 S (w.heap.size+2)) c->c<W0.heap.size:=fun c hc=>hc.elim (fun h=>qzM (hS c h) hbl.size) fun h=>by subst h;exact hbx.lt
 have hshow:Shown w S W0 (S1 S (w.heap.size+2)):=fun c o' u hc hu=>by
  have hcl:=zai hu
  exact ⟨fun h=>h.elim hc fun h=>by omega,(hbl.cell (p:=⟨c,o',none⟩) hcl).trans hu⟩
 have HST0:=zh (show XS S b (w.heap.size+2) n w W0 from ⟨hS,hb,by omega,Turned.of_below hbl,hx.keep hbl,hV.below hbl,hbx⟩)
 have HBX:=zh hbx
 have HF1:=zh hfx1
 have HF2:=zh hfx2
 have HBL:=zh hbl
 have HW0:=zh hW
 have HLT:=zh hbw
 have HB:=zh hb
 have HS1:=zh hS1
 have HFV:=zh (hfv.shown hshow hbl.size)
 have HGV:=zh (hgv.shown hshow hbl.size)
 have HV1:=zh (hv.shown hshow hbl.size)
 have HX:=zh (show XP W0 b n from hx.keep hbl)
 have HX0:=zh hx
 have HV:=zh hV
 have HE:=zh hE
 have HR4:=zh (show Sy.bnd (Sy.all E lv) (fun r=>Sy.ret (Dat.list (Sy.form Sy.letrecB [Dat.list [Dat.list [f,g]],f]::r))) n=some r from hr)
 have HLL:=zh hl
 clear hbx hfx1 hfx2 hbl hW hbw hb hS1 hfv hgv hv hx hV hE hr hS hshow hl
 go_enter func145,ntmps145
 go_upto_region 1 with fail
 rw[HW0.out]
 have hd2:Below W0.heap.size W0 W0.drew:=(Below.refl W0.heap.size W0).drew
 have HTB:=zh (show ∀w3,Below W0.drew.heap.size W0.drew w3->Below W0.heap.size W0 w3 from fun w3 h=>hd2.trans h)
 refine zfn 10 9 _ 9 (S1 S (w.heap.size+2)) (fun S8=>LpR S8 (.agg #[.int .i64 k1,.int .i64 m1,.int .i64 d1,.string s1,.slice o1 len1 cap1]) (.agg #[.int .i64 k2,.int .i64 m2,.int .i64 d2,.string s2,.slice o2 len2 cap2]) f g) (.cells #[.int .i64 0,.int .i64 0,.int .i64 0,.string ⟨#[]⟩,.slice none 0 0] 26) (by kernel_rfl) (by show monoB _ 10 26=true;kernel_rfl) ⟨rfl,rfl,by omega⟩ HS1.out (fun S8 i v A B h hb=>zgx i v A B h (Shown.below hb) hb.size) (fun i v A h _=>zgx i v A _ h (za5 rfl (Below.one _ _)) (Below.one A _).size) ?hops ?hbox ?hend
 case hbox=>
  intro a8 w3
  exact wpList_plain rfl fun K hK=>zkE (v:=.pointer (some ⟨w3.heap.size,0,none⟩)) (by go_simp) (hK _ _ ⟨rfl,rfl,rfl⟩)
 case hops=>
  intro S8 i o8 hi hiq ho a8 w3 hdf hsz hex hs8 jd hin8 jb ja
  have ht3:=HTB.out w3 hex
  have hz3:=ht3.size
  have hdp:∀j d,depB _ 10 o8 j d=true->j≠9->LpR S8 (.agg #[.int .i64 k1,.int .i64 m1,.int .i64 d1,.string s1,.slice o1 len1 cap1]) (.agg #[.int .i64 k2,.int .i64 m2,.int .i64 d2,.string s2,.slice o2 len2 cap2]) f g j (a8.tmps.getD d undef) w3:=fun j d h1 h2=>zlt jb j d h1 h2
  have hsh:Shown W0 (S1 S (w.heap.size+2)) w3 S8:=fun c o' u hc hu=>by
   have hcl:=zai hu
   refine ⟨fun h=>?_,(ht3.cell (p:=⟨c,o',none⟩) hcl).trans hu⟩
   rcases hin8 c h with h | h
   ·exact hc h
   ·have h':W0.heap.size<=c:=h
    omega
  match i,hi with
  | 0,_=>
   cases ho
   have h5:a8.tmps.getD 5 undef=.pointer (some ⟨w.heap.size,0,none⟩):=ja.at 5 (by kernel_rfl)
   have hfb:Box5 w3 (w.heap.size) 26 (.int .i64 k1) (.int .i64 m1) (.int .i64 d1) (.string s1) (.slice o1 len1 cap1):=(ht3.block _ HF1.out.lt).trans HF1.out
   obtain ⟨q0,q1,q2,q3,q4⟩:=hfb.cells
   have ql:=hfb.lt
   exact zaA (v:=.agg #[.int .i64 k1,.int .i64 m1,.int .i64 d1,.string s1,.slice o1 len1 cap1]) rfl (by go_simp) rfl qzB
  | 1,_=>
   cases ho
   have h6:a8.tmps.getD 6 undef=.pointer (some ⟨w.heap.size+1,0,none⟩):=ja.at 6 (by kernel_rfl)
   have hfb:Box5 w3 (w.heap.size+1) 26 (.int .i64 k2) (.int .i64 m2) (.int .i64 d2) (.string s2) (.slice o2 len2 cap2):=(ht3.block _ HF2.out.lt).trans HF2.out
   obtain ⟨q0,q1,q2,q3,q4⟩:=hfb.cells
   have ql:=hfb.lt
   exact zaA (v:=.agg #[.int .i64 k2,.int .i64 m2,.int .i64 d2,.string s2,.slice o2 len2 cap2]) rfl (by go_simp) rfl qzB
  | 2,_=>
   cases ho
   have h10:a8.tmps.getD 10 undef=.agg #[.int .i64 k1,.int .i64 m1,.int .i64 d1,.string s1,.slice o1 len1 cap1]:=hdp 0 10 (by kernel_rfl) (by decide)
   have h11:a8.tmps.getD 11 undef=.agg #[.int .i64 k2,.int .i64 m2,.int .i64 d2,.string s2,.slice o2 len2 cap2]:=hdp 1 11 (by kernel_rfl) (by decide)
   exact zaA rfl (zcE rfl h10 h11) (zbs (W:=w3) (n:=2) (cs:=[.int .i64 k1,.int .i64 m1,.int .i64 d1,.string s1,.slice o1 len1 cap1,.int .i64 k2,.int .i64 m2,.int .i64 d2,.string s2,.slice o2 len2 cap2]) rfl (by omega) jd ⟨_,_,_,_,_,_,rfl,HFV.out.shown hsh hz3,_,_,_,_,_,_,rfl,HGV.out.shown hsh hz3,rfl⟩) (Below.one _ _)
  | 3,_=>
   cases ho
   have h12:RepS (hide w3 S8) w3.heap.size [f,g] (a8.tmps.getD 12 undef):=hdp 2 12 (by kernel_rfl) (by decide)
   refine zbZ (K:=fun a' w'=>∃v,a'=Act.put a8 (some 13) v∧LpR S8 (.agg #[.int .i64 k1,.int .i64 m1,.int .i64 d1,.string s1,.slice o1 len1 cap1]) (.agg #[.int .i64 k2,.int .i64 m2,.int .i64 d2,.string s2,.slice o2 len2 cap2]) f g 3 v w'∧Below w3.heap.size w3 w') (f:=87) (s:=12) (x:=a8.tmps.getD 12 undef) rfl rfl rfl (fun _ _=>rfl) (zaW S8 [f,g] _ _ _ jd h12 qzL) ?_
   rintro e w' ⟨v,rfl,h1,h2⟩
   exact ⟨v,rfl,v,rfl,h1,h2⟩
  | 4,_=>
   cases ho
   have h13:RepD (hide w3 S8) w3.heap.size (Dat.list [f,g]) (a8.tmps.getD 13 undef):=hdp 3 13 (by kernel_rfl) (by decide)
   obtain ⟨k8,m8,d8,s8,u8,len8,cap8,h8⟩:=zae h13.unhide
   rw[h8] at h13
   exact zaA rfl (zd8 rfl h8) (zax jd h13) (Below.one _ _)
  | 5,_=>
   cases ho
   have h14:RepS (hide w3 S8) w3.heap.size [Dat.list [f,g]] (a8.tmps.getD 14 undef):=hdp 4 14 (by kernel_rfl) (by decide)
   refine zbZ (K:=fun a' w'=>∃v,a'=Act.put a8 (some 15) v∧LpR S8 (.agg #[.int .i64 k1,.int .i64 m1,.int .i64 d1,.string s1,.slice o1 len1 cap1]) (.agg #[.int .i64 k2,.int .i64 m2,.int .i64 d2,.string s2,.slice o2 len2 cap2]) f g 5 v w'∧Below w3.heap.size w3 w') (f:=87) (s:=14) (x:=a8.tmps.getD 14 undef) rfl rfl rfl (fun _ _=>rfl) (zaW S8 [Dat.list [f,g]] _ _ _ jd h14 qzL) ?_
   rintro e w' ⟨v,rfl,h1,h2⟩
   exact ⟨v,rfl,v,rfl,h1,h2⟩
  | 6,_=>
   cases ho
   have h5:a8.tmps.getD 5 undef=.pointer (some ⟨w.heap.size,0,none⟩):=ja.at 5 (by kernel_rfl)
   have hfb:Box5 w3 (w.heap.size) 26 (.int .i64 k1) (.int .i64 m1) (.int .i64 d1) (.string s1) (.slice o1 len1 cap1):=(ht3.block _ HF1.out.lt).trans HF1.out
   obtain ⟨q0,q1,q2,q3,q4⟩:=hfb.cells
   have ql:=hfb.lt
   exact zaA (v:=.agg #[.int .i64 k1,.int .i64 m1,.int .i64 d1,.string s1,.slice o1 len1 cap1]) rfl (by go_simp) rfl qzB
  | 7,_=>
   cases ho
   have h16:a8.tmps.getD 16 undef=.agg #[.int .i64 k1,.int .i64 m1,.int .i64 d1,.string s1,.slice o1 len1 cap1]:=hdp 6 16 (by kernel_rfl) (by decide)
   have h15:RepD (hide w3 S8) w3.heap.size (Dat.list [Dat.list [f,g]]) (a8.tmps.getD 15 undef):=hdp 5 15 (by kernel_rfl) (by decide)
   obtain ⟨k8,m8,d8,s8,u8,len8,cap8,h8⟩:=zae h15.unhide
   rw[h8] at h15
   exact zaA rfl (zcE rfl h8 h16) (zbs (W:=w3) (n:=2) (cs:=[.int .i64 k8,.int .i64 m8,.int .i64 d8,.string s8,.slice u8 len8 cap8,.int .i64 k1,.int .i64 m1,.int .i64 d1,.string s1,.slice o1 len1 cap1]) rfl (by omega) jd ⟨_,_,_,_,_,_,rfl,h15,_,_,_,_,_,_,rfl,HFV.out.shown hsh hz3,rfl⟩) (Below.one _ _)
  | 8,_=>
   cases ho
   have h17:RepS (hide w3 S8) w3.heap.size [Dat.list [Dat.list [f,g]],f] (a8.tmps.getD 17 undef):=hdp 7 17 (by kernel_rfl) (by decide)
   refine wpList_plain rfl fun K hK=>?_
   refine zbe (vals:=#[.string Sy.letrecB,a8.tmps.getD 17 undef]) rfl (by simp only[List.map_toArray,List.map_cons,List.map_nil];rfl) (fun _ _=>rfl) (zbD S8 Sy.letrecB (by decide) [Dat.list [Dat.list [f,g]],f] _ _ w3 jd h17 qzL (by simp)) ?_
   rintro e w' ⟨v,rfl,h1,h2⟩
   exact .inl ⟨v,rfl,hK _ _ ⟨rfl,v,rfl,h1,h2⟩⟩
  | 9,_=>exact absurd rfl hiq
 case hend=>
  intro a8 w3 G hdf hsz hex h9 hG hbG hval ja
  have ht3:=HTB.out w3 hex
  have h18:RepD (hide w3 (S1 (S1 S (w.heap.size+2)) G)) w3.heap.size (Sy.form Sy.letrecB [Dat.list [Dat.list [f,g]],f]) (a8.tmps.getD 18 undef):=hval 8 _ 18 (by omega) (by omega) rfl rfl
  obtain ⟨f8,ha,hf8⟩:=zaq [false,false,false,false,false,false,false,false,false,true,true,true,true,true,true,true,true,true,true,false,false,false,false,false,false,false] (by kernel_rfl) hdf hsz ja
  rw[<-hf8] at h18 h9
  subst ha
  obtain ⟨k9,m9,d9,s9,o9,len9,cap9,h8⟩:=zae h18.unhide
  rw[h8] at h18
  have hGB:Box5 w3 G 26 (.int .i64 0) (.int .i64 0) (.int .i64 0) (.string ⟨#[]⟩) (.slice none 0 0):=hbG
  obtain ⟨p0,p1,p2,p3,p4⟩:=hGB.cells
  obtain ⟨z0,z1,z2,z3,z4⟩:=hGB.free
  have pl:=hGB.lt
  have hG0:W0.heap.size<=G:=hG
  have h5:=zag w3 G W0.heap.size (.int .i64 k9) (.int .i64 m9) (.int .i64 d9) (.string s9) (.slice o9 len9 cap9) hG0
  have hg6:=h18.shown (B':=(set5 w3 G (.int .i64 k9) (.int .i64 m9) (.int .i64 d9) (.string s9) (.slice o9 len9 cap9)).heap.size) ((Shown.five w3 (S:=S1 (S1 S (w.heap.size+2)) G) (.inr rfl) (.int .i64 k9) (.int .i64 m9) (.int .i64 d9) (.string s9) (.slice o9 len9 cap9)).trans (Shown.less _ (S':=(S1 S (w.heap.size+2))) fun _ _ h=>.inl h)) (by rw[zan];exact qzL)
  have hbn:=hGB.set (.int .i64 k9) (.int .i64 m9) (.int .i64 d9) (.string s9) (.slice o9 len9 cap9)
  have hb6:=ht3.trans h5
  obtain ⟨W6,hW6⟩:∃W6,set5 w3 G (.int .i64 k9) (.int .i64 m9) (.int .i64 d9) (.string s9) (.slice o9 len9 cap9)=W6:=⟨_,rfl⟩
  rw[hW6] at hg6 hb6
  have hbn':Box5 W6 G 26 (.int .i64 k9) (.int .i64 m9) (.int .i64 d9) (.string s9) (.slice o9 len9 cap9):=by rw[<-hW6];exact hbn
  have hst6:XS S b (w.heap.size+2) n w W6:=HST0.out.below hb6
  have hG6:¬(S1 S (w.heap.size+2)) G:=fun h=>by have:=HST0.out.lt G h;omega
  obtain ⟨hh,hhd⟩:∃hh,Sy.form Sy.letrecB [Dat.list [Dat.list [f,g]],f]=hh:=⟨_,rfl⟩
  rw[hhd] at hg6
  have HR4:=zh (show Sy.bnd (Sy.all E lv) (fun r=>Sy.ret (Dat.list (hh::r))) n=some r from by rw[<-hhd];exact HR4.out)
  have HEL:=zh (show (Sp.elm (some hh)).holds (S1 S (w.heap.size+2)) (.pointer (some ⟨G,0,none⟩)) W6 from Sp.box hbn' hg6 hG6)
  have HV6:=zh (show (Sp.row (some lv)).holds (S1 S (w.heap.size+2)) vv W6 from Sp.below (Sp.ofS HV1.out) hb6)
  have HST6:=zh hst6
  have HW6:=zh hW6
  clear hval ja hf8 hex hdf hsz h18 hbG hGB h5 hb6 ht3 hG0 hG hg6 hbn hbn' hst6 hG6 hW6 hhd
  simp only[spellH,List.drop_succ_cons,List.drop_zero,h8,h9]
  go_upto_region 2 with fail
  show Code.wp _ _ _ _ (set5 w3 G (.int .i64 k9) (.int .i64 m9) (.int .i64 d9) (.string s9) (.slice o9 len9 cap9))
  rw[HW6.out]
  clear p0 p1 p2 p3 p4 z0 z1 z2 z3 z4 pl HW6
  obtain ⟨p1,hp1,hn1,hrf⟩:=Sy.bnd_split HR4.out
  have HP1:=zh hp1
  have jh:=zh hn1
  have HRF:=zh hrf
  have HYL:=zh (show ∀l,p1.map (·.1)=some l->l.length<=999999 from fun l hl=>by
   match p1,hl,hp1 with
   | some (y,n'),hl,hp1=>
    obtain rfl:y=l:=Option.some.inj hl
    rw[Sy.all_len hp1]
    have:=HLL.out
    omega)
  clear hp1 hn1 hrf
  refine zad (dr:=true) (S:=S) (b:=b) (H:=(w.heap.size+2)) 7 [4] (fun j=>[n,cnt p1].getD j 0) [.dat (some (hh)),.one (some (hh)),.val (.pointer (some ⟨b,0,none⟩)),.row (some (lv)),.row (p1.map (·.1)),.row ((some (hh)).bind fun u_24=>(p1.map (·.1)).bind fun l_24=>some (u_24::l_24)),.dat (((some (hh)).bind fun u_24=>(p1.map (·.1)).bind fun l_24=>some (u_24::l_24)).map Dat.list)] HST6.out (by show zB _ _ 7 26=true;kernel_rfl) (by decide) (by decide) (by kernel_rfl) ?hops ?hcall ?hend
  case hops=>
   intro i o8 hi hip ho a8 w8 hdf jd ht8 jb ja
   match i,hi,hip with
   | 0,_,_=>
    cases ho
    exact zal rfl (Sp.at ja 9 (by kernel_rfl) (HEL.out) (.inl HST6.out.own) ht8)
   | 1,_,_=>
    cases ho
    exact zlJ rfl (Sp.dep jb 0 19 (by kernel_rfl)) jd
   | 2,_,_=>
    cases ho
    exact zac rfl (Sp.at ja 0 (by kernel_rfl) (rfl) (.inl HST6.out.own) ht8)
   | 3,_,_=>
    cases ho
    exact zac rfl (Sp.at ja 3 (by kernel_rfl) (HV6.out) (.inl HST6.out.own) ht8)
   | 4,_,h=>exact absurd (by decide) h
   | 5,_,_=>
    cases ho
    exact zjX rfl (Sp.dep jb 1 20 (by kernel_rfl)) (Sp.dep jb 4 23 (by kernel_rfl)) (fun l hl=>HYL.out l hl) jd
   | 6,_,_=>
    cases ho
    exact zcc rfl (Sp.dep jb 5 24 (by kernel_rfl)) jd
   | i+7,hi,_=>exact absurd hi (by omega)
  case hcall=>
   intro j i o8 hj ho a8 w8 hdf jc ht8 jb jg ja
   match j,hj with
   | 0,hj=>
    obtain rfl:4=i:=Option.some.inj hj
    cases ho
    have hv0:a8.tmps.getD 21 undef=.pointer (some ⟨b,0,none⟩):=(Sp.dep jb 2 21 (by kernel_rfl))
    refine zhP (p:=p1) (vals:=#[.pointer (some ⟨b,0,none⟩),a8.tmps.getD 22 undef]) rfl (by simp only[List.map_toArray,List.map_cons,List.map_nil];rw[<-hv0];rfl) (fun _ _=>rfl) (zbr HE.out (S1 S (w.heap.size+2)) b _ lv _ w8 p1 HP1.out jc.lt (.inl jc.own) jc.hx jc.hE (Sp.data (Sp.dep jb 3 22 (by kernel_rfl))) HLL.out) fun hp w9 ht9=>?_
    have hrn:=jh.out hp
    subst hrn
    exact ⟨hdf,jc.bad' ht9⟩
   | _+1,hj=>simp at hj
  case hend=>
   intro a8 w8 hdf hsz jc ht8 hval ja
   obtain ⟨x8,hx8,hr8⟩:∃x8,((some (hh)).bind fun u_24=>(p1.map (·.1)).bind fun l_24=>some (u_24::l_24)).map Dat.list=some x8∧RepD (hide w8 (S1 S (w.heap.size+2))) w8.heap.size x8 (a8.tmps.getD 25 undef):=hval 6 _ 25 (by omega) rfl rfl
   rcases p1 with _ | ⟨y1,n1⟩
   ·simp at hx8
   have hx9:some (Dat.list (hh::y1))=some x8:=hx8
   obtain rfl:=Option.some.inj hx9
   have hrr:r=some (Dat.list (hh::y1),n1):=Sy.ret_split (HRF.out _ _ rfl)
   subst hrr
   obtain ⟨f8,ha,hf8⟩:=zaq [false,false,false,false,false,false,false,false,false,false,false,false,false,false,false,false,false,false,false,true,true,true,true,true,true,true] (by kernel_rfl) hdf hsz ja
   rw[<-hf8] at hr8
   subst ha
   obtain ⟨k8,m8,d8,s8,o8,len8,cap8,h8⟩:=zae hr8.unhide
   rw[h8] at hr8
   obtain ⟨p0,p1,p2,p3,p4⟩:=jc.box.cells
   obtain ⟨z0,z1,z2,z3,z4⟩:=jc.box.free
   have pl:=jc.box.lt
   have HX8:=zh (show XS S b (w.heap.size+2) n1 w w8 from jc)
   have H8:=zh hr8
   clear hval ja hf8 hdf hsz hr8 jc ht8 hx8 hx9
   simp only[spellH,List.drop_succ_cons,List.drop_zero,h8]
   go_wp2_with fail
   have HR5:=zh (HX8.out.box.set (.int .i64 k8) (.int .i64 m8) (.int .i64 d8) (.string s8) (.slice o8 len8 cap8))
   obtain ⟨r0,r1,r2,r3,r4⟩:=HR5.out.cells
   refine bodyPost_ret (v:=.agg #[.int .i64 k8,.int .i64 m8,.int .i64 d8,.string s8,.slice o8 len8 cap8]) (by simp[results,results145,go_sem,r0,r1,r2,r3,r4]) rfl ?_
   exact HX8.out.fin H8.out
end
section
open Go Go.RowKit
theorem Sp.got {S:Nat->Prop} {p:Option (Dat × Nat)} {v:Value} {W:World} (h:(Sp.dat (p.map (·.1))).holds S v W):∃y m,p=some (y,m)∧RepD (hide W S) W.heap.size y v:=by
 obtain ⟨x,hx,hr⟩:=h
 match p,hx with
 | some (y,m),hx=>exact ⟨y,m,rfl,by rw[Option.some.inj (show some y=some x from hx)];exact hr⟩
theorem Sp.cells {S:Nat->Prop} {x:Dat} {W:World} {G off:Nat} (h:(Sp.elm (some x)).holds S (.pointer (some ⟨G,off,none⟩)) W):∃(k n d:Int) (s:ByteArray) (p:Option Addr) (len cap:Nat),RepD (hide W S) W.heap.size x (.agg #[.int .i64 k,.int .i64 n,.int .i64 d,.string s,.slice p len cap])∧W.cell? ⟨G,off,none⟩=some (.int .i64 k)∧W.cell? ⟨G,off+1,none⟩=some (.int .i64 n)∧W.cell? ⟨G,off+2,none⟩=some (.int .i64 d)∧W.cell? ⟨G,off+3,none⟩=some (.string s)∧W.cell? ⟨G,off+4,none⟩=some (.slice p len cap)∧G<W.heap.size:=by
 obtain ⟨y,c,o,k,n,d,s,p,len,cap,hx,hv,e0,e1,e2,e3,e4,hr⟩:=h
 obtain rfl:=Option.some.inj hx
 simp only[Value.pointer.injEq,Option.some.injEq,Addr.mk.injEq,and_true] at hv
 obtain ⟨rfl,rfl⟩:=hv
 have f0:=(zaa e0).2
 exact ⟨k,n,d,s,p,len,cap,hr,f0,(zaa e1).2,(zaa e2).2,(zaa e3).2,(zaa e4).2,zai f0⟩
theorem Sp.slice {S:Nat->Prop} {l:List Dat} {v:Value} {W:World} (h:(Sp.row (some l)).holds S v W):∃(o:Option Addr) (len cap:Nat),v=.slice o len cap∧len=l.length∧len<=cap:=by
 obtain ⟨o,len,cap,h1,h2,h3,_⟩:=Sp.data h
 exact ⟨o,len,cap,h1,h2,h3⟩
def BindP (S:Nat->Prop) (r:Option (List Dat × List Dat)) (w:World) (e:Ending) (w':World):Prop:=
 ∃(ln lv:List Dat) (vn vv:Value) (ok:Bool),e=.returned (.tuple #[vn,vv,.bool ok])∧(Sp.row (some ln)).holds S vn w'∧(Sp.row (some lv)).holds S vv w'∧Below w.heap.size w w'∧(ok=true->r=some (ln,lv))∧(ok=false->r=none)
section
variable {S : Nat -> Prop} {b H n : Nat} {w W : World}
theorem XS.bindings (hst:XS S b H n w W) (x:Dat) (v:Value) (hx:RepD (hide W (S1 S H)) W.heap.size x v) (hsh:Dat.shaped x=true) (hal:Dat.all x<=100000):Calls prog 76 #[v] W (BindP (S1 S H) (Sy.binds x) W):=by
 refine (zbv (S1 S H) x v W.heap.size W hst.lt hx qzL hsh hal).mono ?_
 rintro e w' ⟨ln,lv,vn,vv,ok,rfl,hg1,hg2,hb1,hok1,hok2, -⟩
 exact ⟨ln,lv,vn,vv,ok,rfl,Sp.ofS (hg1.less (S:=S1 S H) (fun c h=>.inl h) qzL).rep,Sp.ofS (hg2.less (S:=S1 S H) (fun c h=>.inl h) qzL).rep,hb1,hok1,hok2⟩
theorem XS.items (hst:XS S b H n w W) (x:Dat) (v:Value) (r:Bool) (hr:((Sy.split x).2.kind==4)=r) (hx:RepD (hide W (S1 S H)) W.heap.size x v) (hsh:Dat.shaped x=true) (hal:Dat.all x<=100000):Calls prog 73 #[v] W fun e w'=>∃(o':Option Addr) (len' cap':Nat),e=.returned (.tuple #[.slice o' len' cap',.bool r])∧(Sp.row (some (Sy.split x).1)).holds (S1 S H) (.slice o' len' cap') w'∧len'=(Sy.split x).1.length∧Below W.heap.size W w':=by
 refine (zbn (S1 S H) x v W.heap.size W r hr hst.lt hx qzL hsh hal).mono ?_
 rintro e w' ⟨o',len',cap',rfl,h1,h2⟩
 exact ⟨o',len',cap',rfl,Sp.ofS h1,(zbd h1).1,h2⟩
theorem XS.distinct (_hst:XS S b H n w W) (l:List Dat) (sl:Value) (hv:(Sp.row (some l)).holds (S1 S H) sl W) (hl:l.length<=1000000):Calls prog 49 #[sl] W fun e w'=>e=.returned (.bool (Sy.distinct l))∧Below W.heap.size W w':=
 zaM l sl W.heap.size W (Sp.data hv).unhide qzL hl
end
namespace Sy
theorem small_iff {x:Dat}:small x=true↔Dat.shaped x=true∧Dat.all x<=100000:=by
 unfold small
 rw[Bool.and_eq_true,decide_eq_true_eq]
end Sy
end
section
open Go Go.RowKit
theorem zhZ {E:Dat->Sy.M Dat} {L:Dat->List Dat->Sy.M Dat} (hE:EOk E) (hL:LOk L) (S:Nat->Prop) (b n:Nat) (f x:Dat) (fv xv:Value) (l:List Dat) (sl:Value) (w:World) (r:Option (Dat × Nat)) (hr:Sy.namedF E L f x l n=some r) (hS:∀c,S c->c<w.heap.size) (hb:S b) (hx:XP w b n) (hV:Env w) (hfv:RepD (hide w S) w.heap.size f fv) (hxv:RepD (hide w S) w.heap.size x xv) (hsm:Sy.small x=true) (hv:RepS (hide w S) w.heap.size l sl) :
  Calls prog 109 #[.pointer (some ⟨b,0,none⟩),fv,xv,sl] w (XRes S b r w):=by
 obtain ⟨k1,m1,d1,s1,o1,len1,cap1,rfl⟩:=zae hfv.unhide
 obtain ⟨k2,m2,d2,s2,o2,len2,cap2,rfl⟩:=zae hxv.unhide
 obtain ⟨W0,hW0,hst,he1,he2⟩:=zkg hS hb hx hV hfv hxv
 have HST:=zh hst
 have HW0:=zh hW0
 have HE1:=zh he1
 have HE2:=zh he2
 obtain ⟨hsh,hal⟩:=Sy.small_iff.1 hsm
 have HL:=zh hL
 have HE:=zh hE
 have HR:=zh hr
 have HAL:=zh hal
 have HLV:=zh (hst.first (Sp.ofS hv))
 obtain ⟨k,m,d,st,o,len,cap,hxr,q0,q1,q2,q3,q4,ql⟩:=Sp.cells he2
 have HC:=zh (hst.bindings x _ hxr hsh hal)
 clear hst he1 he2 hW0 hL hE hr hal hsh hsm hv hfv hxv hS hb hx hV hxr
 go_enter func109,ntmps109
 go_upto_region 1 with fail
 rw[HW0.out]
 go_upto_region 2 with (first | (go_at_call 76;refine HC.out.mono ?_;rintro e' w1 ⟨ln,lv,vn,vv,ok,rfl,hg1,hg2,hb1,hok1,hok2⟩) | fail)
 have HST1:=zh (HST.out.below hb1)
 cases ok
 ·have hbn:=hok2 rfl
  have hrn:r=none:=by
   have h:=HR.out
   unfold Sy.namedF at h
   rw[hbn] at h
   exact Sy.bad_split (n:=n) h
  subst hrn
  go_wp2_with (first | (go_at_call 30;refine (zaf _).mono ?_;rintro e' wN ⟨rfl,rfl⟩) | fail)
  exact ⟨rfl,HST1.out.bad⟩
 ·have hbn:=hok1 rfl
  have HBL:=zh (Sy.binds_len hbn)
  have HR2:=zh (show Sy.need (Sy.distinct ln) (Sy.bnd (L (Dat.list ln) l) fun g=>Sy.loopF E f g lv) n=some r from by have h:=HR.out;unfold Sy.namedF at h;rw[hbn] at h;exact h)
  have HDI:=zh (HST1.out.distinct ln vn hg1 (by have:=HBL.out.1;have:=HAL.out;omega))
  have HG1:=zh hg1
  have HG2:=zh hg2
  have HB1:=zh hb1
  obtain ⟨di,hdi⟩:∃di,Sy.distinct ln=di:=⟨_,rfl⟩
  rw[hdi] at HDI
  have HRS:=zh (Sy.need_split HR2.out)
  rw[hdi] at HRS
  clear hg1 hg2 hb1 hok1 hok2 hbn q0 q1 q2 q3 q4 ql HR2 hdi
  cases di
  ·have hrn:=HRS.out.1 rfl
   subst hrn
   go_wp2_with (first | (go_at_call 49;refine HDI.out.mono ?_;rintro e' w2 ⟨rfl,hb2⟩) | (go_at_call 30;refine (zaf _).mono ?_;rintro e' wN ⟨rfl,rfl⟩) | fail)
   exact ⟨rfl,HST1.out.bad' (Turned.of_below hb2)⟩
  ·go_upto_region 3 with (first | (go_at_call 49;refine HDI.out.mono ?_;rintro e' w2 ⟨rfl,hb2⟩) | (go_at_call 30;refine (zah _).mono ?_;rintro e' wN ⟨⟨vN,rfl⟩,rfl⟩) | fail)
   have HST3:=zh (HST1.out.below hb2)
   have HG3:=zh (Sp.below HG1.out hb2)
   have HV3:=zh (Sp.below HG2.out hb2)
   have HL3:=zh (Sp.below (Sp.below HLV.out HB1.out) hb2)
   have HF3:=zh (Sp.below (Sp.below HE1.out HB1.out) hb2)
   obtain ⟨p1,hp1,hn1,hk⟩:=Sy.bnd_split (HRS.out.2 (by trivial))
   obtain ⟨p2,hp2⟩:∃p2,r=p2:=⟨_,rfl⟩
   have HP1:=zh hp1
   have jh:=zh hn1
   have HP2:=zh (show ∀y n',p1=some (y,n')->Sy.loopF E f y lv n'=some p2 from by rw[<-hp2];exact hk)
   have HNp2:=zh (show p2=none->r=none from fun h=>by rw[hp2];exact h)
   have HRF:=zh hp2
   clear hb2 hp1 hn1 hk hp2
   refine zad (dr:=true) (S:=S) (b:=b) (H:=(w.heap.size+2)) 9 [6,8] (fun j=>[n,cnt p1,cnt p2].getD j 0) [.val (.pointer (some ⟨b,0,none⟩)),.dat (some (f)),.val (.pointer (some ⟨b,0,none⟩)),.row (some (ln)),.dat ((some (ln)).map Dat.list),.row (some (l)),.dat (p1.map (·.1)),.row (some (lv)),.dat (p2.map (·.1))] HST3.out (by show zB _ _ 9 33=true;kernel_rfl) (by decide) (by decide) (by kernel_rfl) ?hops ?hcall ?hend
   case hops=>
    intro i o8 hi hip ho a8 w8 hdf jd ht8 jb ja
    match i,hi,hip with
    | 0,_,_=>cases ho;exact zac rfl (Sp.at ja 0 (by kernel_rfl) (rfl) (.inl HST3.out.own) ht8)
    | 1,_,_=>cases ho;exact zal rfl (Sp.at ja 5 (by kernel_rfl) (HF3.out) (.inl HST3.out.own) ht8)
    | 2,_,_=>cases ho;exact zac rfl (Sp.at ja 0 (by kernel_rfl) (rfl) (.inl HST3.out.own) ht8)
    | 3,_,_=>cases ho;exact zac rfl (Sp.at ja 9 (by kernel_rfl) (HG3.out) (.inl HST3.out.own) ht8)
    | 4,_,_=>cases ho;exact zcc rfl (Sp.dep jb 3 27 (by kernel_rfl)) jd
    | 5,_,_=>cases ho;exact zac rfl (Sp.at ja 3 (by kernel_rfl) (HL3.out) (.inl HST3.out.own) ht8)
    | 6,_,h=>exact absurd (by decide) h
    | 7,_,_=>cases ho;exact zac rfl (Sp.at ja 10 (by kernel_rfl) (HV3.out) (.inl HST3.out.own) ht8)
    | 8,_,h=>exact absurd (by decide) h
    | i+9,hi,_=>exact absurd hi (by omega)
   case hcall=>
    intro j i o8 hj ho a8 w8 hdf jc ht8 jb jg ja
    match j,hj with
    | 0,hj=>
     cases hj;cases ho
     have hv0:a8.tmps.getD 26 undef=.pointer (some ⟨b,0,none⟩):=(Sp.dep jb 2 26 (by kernel_rfl))
     refine zaI (p:=p1) (vals:=#[.pointer (some ⟨b,0,none⟩),a8.tmps.getD 28 undef,a8.tmps.getD 29 undef]) rfl (by simp only[List.map_toArray,List.map_cons,List.map_nil];rw[<-hv0];rfl) (fun _ _=>rfl) (HL.out (S1 S (w.heap.size+2)) b _ (Dat.list ln) _ l _ w8 p1 HP1.out jc.lt (.inl jc.own) jc.hx jc.hE (Sp.datum (Sp.dep jb 4 28 (by kernel_rfl))) (Sp.data (Sp.dep jb 5 29 (by kernel_rfl)))) fun hp w9 ht9=>?_
     have hrn:=jh.out hp
     subst hrn
     exact ⟨hdf,jc.bad' ht9⟩
    | 1,hj=>
     cases hj;cases ho
     obtain ⟨y1,m1,hq1,hy1⟩:=Sp.got (Sp.dep jb 6 30 (by kernel_rfl))
     have hv0:a8.tmps.getD 24 undef=.pointer (some ⟨b,0,none⟩):=(Sp.dep jb 0 24 (by kernel_rfl))
     refine zaI (p:=p2) (vals:=#[.pointer (some ⟨b,0,none⟩),a8.tmps.getD 25 undef,a8.tmps.getD 30 undef,a8.tmps.getD 31 undef]) rfl (by simp only[List.map_toArray,List.map_cons,List.map_nil];rw[<-hv0];rfl) (fun _ _=>rfl) (zdO HE.out (S1 S (w.heap.size+2)) b (cnt p1) f y1 _ _ lv _ w8 p2 (by rw[hq1];exact HP2.out y1 m1 hq1) jc.lt (.inl jc.own) jc.hx jc.hE (Sp.datum (Sp.dep jb 1 25 (by kernel_rfl))) hy1 (Sp.data (Sp.dep jb 7 31 (by kernel_rfl))) (by have:=HBL.out.2;have:=HAL.out;omega)) fun hp w9 ht9=>?_
     have hrn:=HNp2.out hp
     subst hrn
     exact ⟨hdf,jc.bad' ht9⟩
    | _+2,hj=>simp at hj
   case hend=>
    intro a8 w8 hdf hsz jc ht8 hval ja
    refine fin_s (r:=r) jc (hval 8 _ 32 (by omega) rfl rfl) (fun x8 hx8=>?_) ((ja.at 8 (by kernel_rfl)).trans rfl) hdf rfl results109 fun w9 h9=>?_
    ·clear hval ja hdf hsz jc ht8
     rcases p2 with _ | ⟨y2,n2⟩
     ·simp at hx8
     rcases p1 with _ | ⟨y1,n1⟩
     ·exact absurd (HRF.out.symm.trans (jh.out rfl)) (by simp)
     cases hx8
     exact HRF.out
    ·go_wp2_with fail
end
section
open Go Go.RowKit
namespace Sy
def wt:List Dat->Nat
 | []=>0
 | x::l=>1+Dat.all x+wt l
theorem zdN (x:Dat) (hs:Dat.shaped x=true):Dat.all x=wt (split x).1+Dat.all (split x).2:=by
 induction x using Dat.ind with
 | h k n d s l ih=>
  by_cases hk:k=6
  ·obtain ⟨a,b,rfl,ha,hb⟩:=shaped_pair hs hk
   rw[split_pair hk]
   have:=ih b (by simp) hb
   simp only[Dat.all,Dat.allL,wt]
   omega
  ·rw[split_other hk]
   simp[wt]
theorem zaK:∀l:List Dat,Dat.all (Dat.list l)=wt l+1
 | []=>rfl
 | x::l=>by
  rw[show Dat.list (x::l)=Dat.pair x (Dat.list l) from rfl,Dat.pair]
  simp only[Dat.all,Dat.allL,wt]
  have:=zaK l
  omega
theorem zcD:∀{l:List Dat},(∀y∈l,Dat.shaped y=true)->Dat.shaped (Dat.list l)=true
 | [],_=>rfl
 | x::l,h=>by
  rw[show Dat.list (x::l)=Dat.pair x (Dat.list l) from rfl,Dat.pair]
  have hl:Dat.shaped (Dat.list l)=true:=zcD (l:=l) fun y hy=>h y (List.mem_cons_of_mem _ hy)
  simp only[Dat.shaped,Dat.shapedL,h x List.mem_cons_self,hl]
  rfl
theorem zdq:∀{l ns vs:List Dat},bindsL l=some (ns,vs)->(∀y∈l,Dat.shaped y=true)->wt (pairsL ns vs)<=wt l∧(∀y∈pairsL ns vs,Dat.shaped y=true)∧(∀y∈ns,Dat.shaped y=true∧Dat.all y<=wt l)∧(∀y∈vs,Dat.shaped y=true∧Dat.all y<=wt l)
 | [],ns,vs,h,_=>by
  simp only[bindsL,Option.some.injEq,Prod.mk.injEq] at h
  obtain ⟨rfl,rfl⟩:=h
  exact ⟨qzL,fun y hy=>by simp[pairsL] at hy,fun y hy=>by simp at hy,fun y hy=>by simp at hy⟩
 | x::l,ns,vs,h,hs=>by
  have hx:=hs x (by simp)
  have hsum:=zdN x hx
  have hpt:=(split_parts x hx).1
  simp only[bindsL] at h
  split at h
  ·rename_i a c hac
   split at h
   ·obtain ⟨p,hp,he⟩:=Option.map_eq_some_iff.1 h
    simp only[Prod.mk.injEq] at he
    obtain ⟨rfl,rfl⟩:=he
    obtain ⟨i1,i2,i3,i4⟩:=zdq (ns:=p.1) (vs:=p.2) hp fun y hy=>hs y (by simp[hy])
    rw[hac] at hsum hpt
    have ha:=(hpt a (by simp)).1
    have hc:=(hpt c (by simp)).1
    have hpos:=all_pos (split x).2
    have hz:Dat.all (Dat.list [a,c])=1+Dat.all a+(1+Dat.all c)+1:=by rw[zaK];simp only[wt];omega
    simp only[wt] at hsum
    rw[show pairsL (a::p.1) (c::p.2)=Dat.list [a,c]::pairsL p.1 p.2 from rfl]
    refine ⟨?_,?_,?_,?_⟩
    ·simp only[wt];omega
    ·intro y hy
     rcases List.mem_cons.1 hy with rfl | hy
     ·exact zcD fun z hz=>by
       rcases List.mem_cons.1 hz with rfl | hz
       ·exact ha
       ·rcases List.mem_cons.1 hz with rfl | hz
        ·exact hc
        ·simp at hz
     ·exact i2 y hy
    ·intro y hy
     simp only[wt]
     rcases List.mem_cons.1 hy with rfl | hy
     ·exact ⟨ha,by omega⟩
     ·have:=i3 y hy;exact ⟨this.1,by omega⟩
    ·intro y hy
     simp only[wt]
     rcases List.mem_cons.1 hy with rfl | hy
     ·exact ⟨hc,by omega⟩
     ·have:=i4 y hy;exact ⟨this.1,by omega⟩
   ·cases h
  ·cases h
theorem zgV {x:Dat} {ns vs:List Dat} (h:binds x=some (ns,vs)) (hs:small x=true):small (pairs ns vs)=true∧(∀y∈ns,small y=true)∧(∀y∈vs,small y=true):=by
 obtain ⟨h1,h2⟩:=small_iff.1 hs
 unfold binds at h
 split at h
 ·have hsum:=zdN x h1
  obtain ⟨i1,i2,i3,i4⟩:=zdq h fun y hy=>((split_parts x h1).1 y hy).1
  have hpos:=all_pos (split x).2
  have hz:Dat.all (pairs ns vs)=wt (pairsL ns vs)+1:=zaK _
  exact ⟨small_iff.2 ⟨zcD i2,by omega⟩,fun y hy=>small_iff.2 ⟨(i3 y hy).1,by have:=(i3 y hy).2;omega⟩,fun y hy=>small_iff.2 ⟨(i4 y hy).1,by have:=(i4 y hy).2;omega⟩⟩
 ·cases h
theorem pairs_tail {x a c:Dat} {ns vs:List Dat} (h:binds x=some (a::ns,c::vs)) (hs:small x=true):small (pairs ns vs)=true∧binds (pairs ns vs)=some (ns,vs):=by
 have h1:=(zgV h hs).1
 obtain ⟨h2,h3⟩:=small_iff.1 h1
 have jk:ns.length=vs.length:=by
  unfold binds at h
  split at h
  ·have:=bindsL_len h;simp only[qzN] at this;omega
  ·cases h
 refine ⟨?_,zhu jk⟩
 rw[show pairs (a::ns) (c::vs)=Dat.pair (Dat.list [a,c]) (pairs ns vs) from rfl,Dat.pair] at h2 h3
 simp only[Dat.shaped,Dat.shapedL,Bool.and_eq_true] at h2
 simp only[Dat.all,Dat.allL] at h3
 exact small_iff.2 ⟨h2.2.2.1,by omega⟩
theorem split_small {x:Dat} (hs:small x=true):∀y∈(split x).1,small y=true:=fun y hy=>by
 obtain ⟨h1,h2⟩:=small_iff.1 hs
 have:=(split_parts x h1).1 y hy
 exact small_iff.2 ⟨this.1,by omega⟩
theorem fresh_split {β:Type} {k:Dat->M β} {n:Nat} {r:Option (β × Nat)} (h:bnd fresh k n=some r):n<=1000000∧k (freshD (n+1)) (n+1)=some r:=by
 unfold bnd fresh at h
 by_cases hn:n<=1000000
 ·rw[if_pos hn] at h;exact ⟨hn,h⟩
 ·rw[if_neg hn] at h;cases h
end Sy
theorem zaP {W w:World} {B:Nat} (x:Dat) (v:Value) (h:RepD W B x v):Calls prog 72 #[v] w fun e w'=>e=.returned (.bool (Sy.isVar x))∧Below w.heap.size w w':=by
 obtain ⟨k,n,d,s,l⟩:=x
 obtain ⟨sl,rfl,_,_,_,_,o,len,cap,rfl,_⟩:=h.open
 exact zbI k n d s o len cap w _ rfl
theorem zdr {W w:World} {B:Nat} (x:Dat) (v:Value) (s:ByteArray) (h:RepD W B x v):Calls prog 74 #[v,.string s] w fun e w'=>e=.returned (.bool (Sy.isNm x s))∧Below w.heap.size w w':=by
 obtain ⟨k,n,d,st,l⟩:=x
 obtain ⟨sl,rfl,_,_,_,_,o,len,cap,rfl,_⟩:=h.open
 exact zjb k n d st s o len cap w _ rfl
theorem XS.bindings_some {S:Nat->Prop} {b H n:Nat} {w W:World} (hst:XS S b H n w W) (x:Dat) (v:Value) (ns vs:List Dat) (hb:Sy.binds x=some (ns,vs)) (hx:RepD (hide W (S1 S H)) W.heap.size x v) (hsm:Sy.small x=true):Calls prog 76 #[v] W fun e w'=>∃(o1:Option Addr) (len1 cap1:Nat) (o2:Option Addr) (len2 cap2:Nat),e=.returned (.tuple #[.slice o1 len1 cap1,.slice o2 len2 cap2,.bool true])∧(Sp.row (some ns)).holds (S1 S H) (.slice o1 len1 cap1) w'∧(Sp.row (some vs)).holds (S1 S H) (.slice o2 len2 cap2) w'∧len1=ns.length∧len2=vs.length∧Below W.heap.size W w':=by
 obtain ⟨h1,h2⟩:=Sy.small_iff.1 hsm
 refine (hst.bindings x v hx h1 h2).mono ?_
 rintro e w' ⟨ln,lv,vn,vv,ok,rfl,hg1,hg2,hb1,hok1,hok2⟩
 cases ok with
 | false=>rw[hok2 rfl] at hb;cases hb
 | true=>
  rw[hok1 rfl] at hb
  obtain ⟨rfl,rfl⟩:=Prod.mk.inj (Option.some.inj hb)
  obtain ⟨o1,len1,cap1,rfl,h3,_⟩:=Sp.slice hg1
  obtain ⟨o2,len2,cap2,rfl,h4,_⟩:=Sp.slice hg2
  exact ⟨o1,len1,cap1,o2,len2,cap2,rfl,hg1,hg2,h3,h4,hb1⟩
theorem XS.bindings_none {S:Nat->Prop} {b H n:Nat} {w W:World} (hst:XS S b H n w W) (x:Dat) (v:Value) (hb:Sy.binds x=none) (hx:RepD (hide W (S1 S H)) W.heap.size x v) (hsm:Sy.small x=true):Calls prog 76 #[v] W fun e w'=>∃vn vv,e=.returned (.tuple #[vn,vv,.bool false])∧Below W.heap.size W w':=by
 obtain ⟨h1,h2⟩:=Sy.small_iff.1 hsm
 refine (hst.bindings x v hx h1 h2).mono ?_
 rintro e w' ⟨ln,lv,vn,vv,ok,rfl,hg1,hg2,hb1,hok1,hok2⟩
 cases ok with
 | false=>exact ⟨vn,vv,rfl,hb1⟩
 | true=>rw[hok1 rfl] at hb;cases hb
theorem XS.stored {S:Nat->Prop} {b H n m:Nat} {w W W5 W6:World} {x:Dat} {k n1 d:Int} {s:ByteArray} {o:Option Addr} {len cap:Nat} (hst:XS S b H n w W) (ht:Turned (fun c=>c=b) W W5) (hx:XP W5 b m) (hr:RepD (hide W5 (S1 S H)) W5.heap.size x (.agg #[.int .i64 k,.int .i64 n1,.int .i64 d,.string s,.slice o len cap])) (hW:W5.alloc (.cells #[.int .i64 k,.int .i64 n1,.int .i64 d,.string s,.slice o len cap] 26)=W6):XS S b H m w W6∧(Sp.elm (some x)).holds (S1 S H) (.pointer (some ⟨W5.heap.size,0,none⟩)) W6∧Turned (fun c=>c=b) W W6:=by
 have je:Below W5.heap.size W5 W6:=by rw[<-hW];exact Below.one _ _
 have hst5:=hst.next ht hx
 have hbn:Box5 W6 W5.heap.size 26 (.int .i64 k) (.int .i64 n1) (.int .i64 d) (.string s) (.slice o len cap):=by rw[<-hW];exact Box5.new _ _ _ _ _ _ _
 exact ⟨hst5.below je,Sp.box hbn (hr.shown (Shown.below je) je.size) (fun h=>by have:=hst5.lt _ h;omega),ht.next (Turned.of_below je)⟩
theorem Sp.nth {S:Nat->Prop} {l:List Dat} {x:Dat} {o:Option Addr} {len cap j:Nat} {W:World} (h:(Sp.row (some l)).holds S (.slice o len cap) W) (hx:l[j]?=some x):∃c off,o=some ⟨c,off,none⟩∧(Sp.elm (some x)).holds S (.pointer (some ⟨c,off+j*5,none⟩)) W:=by
 obtain ⟨p,len',cap',hs,jk,hcap,hmax,hc⟩:=Sp.data h
 simp only[Value.slice.injEq] at hs
 obtain ⟨rfl,rfl,rfl⟩:=hs
 obtain ⟨c,off,k1,n1,d1,s1,l1,o1,len1,cap1,ho1,hx1,e0,e1,e2,e3,e4,er⟩:=zat hc qzB hx
 exact ⟨c,off,ho1,x,c,off+j*5,k1,n1,d1,s1,o1,len1,cap1,rfl,rfl,e0,e1,e2,e3,e4,by rw[hx1];exact er⟩
end
section
open Go Go.RowKit
namespace Sy
open Dat
theorem zcw:∀(l:List Dat) (met:List (List UInt8)) (x:Dat),distinctF met (l++[x])=(distinctF met l&&(isVar x&&(!met.contains x.s.data.toList&&l.all fun y=>!(y.s.data.toList==x.s.data.toList))))
 | [],met,x=>by simp[distinctF]
 | y::l,met,x=>by
  rw[List.cons_append,distinctF,distinctF,zcw l,List.contains_cons,List.all_cons]
  rw[show (x.s.data.toList==y.s.data.toList)=(y.s.data.toList==x.s.data.toList) from BEq.comm]
  generalize (y.s.data.toList==x.s.data.toList)=p
  generalize isVar y=q
  generalize met.contains y.s.data.toList=r
  generalize met.contains x.s.data.toList=t
  generalize distinctF (y.s.data.toList::met) l=u
  generalize (l.all fun y=>!(y.s.data.toList==x.s.data.toList))=a
  generalize isVar x=c
  revert p q r t u a c
  decide
theorem zbY:∀(l m:List Dat) (met:List (List UInt8)),distinctF met (l++m)=true->distinctF met l=true
 | [],_,_,_=>rfl
 | y::l,m,met,h=>by
  rw[List.cons_append,distinctF,Bool.and_eq_true,Bool.and_eq_true] at h
  rw[distinctF,h.1,h.2.1,zbY l m _ h.2.2]
  rfl
theorem distinct_take {l:List Dat} {i:Nat} {x:Dat} (hx:l[i]?=some x):distinct (l.take (i+1))=(distinct (l.take i)&&(isVar x&&(l.take i).all fun y=>!(y.s.data.toList==x.s.data.toList))):=by
 rw[List.take_add_one,hx]
 unfold distinct
 rw[Option.toList_some,zcw]
 simp
theorem distinct_false {l:List Dat} {i:Nat} (h:distinct (l.take i)=false):distinct l=false:=by
 cases hd:distinct l with
 | false=>rfl
 | true=>
  rw[<-List.take_append_drop i l] at hd
  have:=zbY _ _ _ hd
  unfold distinct at h
  rw[this] at h;cases h
end Sy
theorem zfP (s:ByteArray) (w:World):Calls prog 21 #[.string s] w fun e w'=>e=.returned (.bool (Sy.keyword s))∧w'=w:=by
 obtain ⟨T,hT⟩:∃T,s.data.toList=T:=⟨_,rfl⟩
 have hs:s=⟨T.toArray⟩:=by rw[<-hT]
 have HK:=zh (show Sy.keyword s=Sy.kws.contains T from by unfold Sy.keyword;rw[hT])
 clear hT
 subst hs
 go_enter func21,ntmps21
 go_wp2_with fail
 all_goals first
  | (exfalso;simp_all;done)
  | (go_ret;refine ⟨congrArg (fun b=>Ending.returned (.bool b)) ?_,rfl⟩;rw[HK.out];simp only[Sy.kws,List.contains_cons,List.contains_nil, *,Bool.or_true,Bool.true_or,Bool.or_false];done)
  | fail
theorem zao (s:ByteArray) (r:Bool) (hr:Sy.keyword s=r) (w:World):Calls prog 21 #[.string s] w fun e w'=>e=.returned (.bool r)∧w'=w:=by
 rw[<-hr];exact zfP s w
theorem zfo (k n d:Int) (st:ByteArray) (o:Option Addr) (len cap:Nat) (w:World) (r:Bool) (hr:(k==2 && !Sy.keyword st)=r):Calls prog 78 #[.agg #[.int .i64 k,.int .i64 n,.int .i64 d,.string st,.slice o len cap]] w fun e w'=>e=.returned (.bool r)∧Below w.heap.size w w':=by
 obtain ⟨W0,hW0⟩:∃W0,w.alloc (.cells #[.int .i64 k,.int .i64 n,.int .i64 d,.string st,.slice o len cap] 26)=W0:=⟨_,rfl⟩
 have hb:Box5 W0 w.heap.size 26 (.int .i64 k) (.int .i64 n) (.int .i64 d) (.string st) (.slice o len cap):=by rw[<-hW0];exact Box5.new w _ _ _ _ _ _
 have HB:=zh (show Below w.heap.size w W0 from by rw[<-hW0];exact Below.one _ _)
 obtain ⟨p0,p1,p2,p3,p4⟩:=hb.cells
 have pl:=hb.lt
 have HR:=zh hr
 clear hb hr
 cases h1:(k==2)
 ·rw[h1] at HR
  go_enter func78,ntmps78
  go_wp2_with fail
  go_ret
  exact ⟨by rw[<-HR.out];rfl,HB.out⟩
 ·rw[h1] at HR
  cases h2:Sy.keyword st
  all_goals
   have HK:=zh (fun W=>zao st _ h2 W)
   rw[h2] at HR
   clear h2
   go_enter func78,ntmps78
   go_wp2_with (first | (go_at_call 21;refine (HK.out _).mono ?_;rintro e' w2 ⟨rfl,rfl⟩))
   go_ret
   exact ⟨by rw[<-HR.out];rfl,HB.out⟩
theorem zbw {W w:World} {B:Nat} (x:Dat) (v:Value) (h:RepD W B x v):Calls prog 78 #[v] w fun e w'=>e=.returned (.bool (Sy.isVar x))∧Below w.heap.size w w':=by
 obtain ⟨k,n,d,s,l⟩:=x
 obtain ⟨sl,rfl,_,_,_,_,o,len,cap,rfl,_⟩:=h.open
 exact zfo k n d s o len cap w _ rfl
theorem zbb (l:List Dat) (sl:Value) (B:Nat) (w:World) (hv:RepS w B l sl) (hB:B<=w.heap.size) (hl:l.length<=1000000) :
  Calls prog 61 #[sl] w fun e w'=>e=.returned (.bool (Sy.distinct l))∧Below w.heap.size w w':=by
 obtain ⟨o,len,cap,rfl,hln,hcp,hmx,hrc⟩:=hv
 have HLN:=zh hln
 have HRC:=zh hrc
 have hlb:len<=1000000:=by omega
 clear hln hrc hl
 go_enter func61,ntmps61
 go_wp2_with fail
 go_loopg [3] len (fun g iv wr=>∃(i:Nat),iv=.int .i64 i∧g=len-i∧i<=len∧Hid (Sy.distinct (l.take i)=true)∧Hid (Below w.heap.size w wr))
 case atStart=>exact ⟨0,rfl,rfl,by omega,zh rfl,zh qzB⟩
 case round=>
  obtain ⟨i,rfl,rfl,hi,HD,HB⟩:=hrel
  by_cases hlt:i<len
  ·have hd:decide ((i:Int)<(len:Int))=true:=by simp;omega
   obtain ⟨x,hx⟩:∃x,l[i]?=some x:=⟨_,List.getElem?_eq_getElem (by rw[<-HLN.out];exact hlt)⟩
   obtain ⟨b1,off1,k1,n1,d1,s1,l1,o1,len1,cap1,ho1,hx1,e0,e1,e2,e3,e4,er⟩:=zat HRC.out (HB.out.mono hB) hx
   subst ho1
   rw[<-hx1] at er
   have hsx:x.s=s1:=by rw[hx1];rfl
   have HT:=zh (Sy.distinct_take hx)
   cases hva:Sy.isVar x with
   | false=>
    have HVA:=zh (zbw (w:=wr) x _ er)
    rw[hva] at HVA HT
    clear hx hx1 er hsx
    go_wp2_with (first | (go_at_call 78;refine HVA.out.mono ?_;rintro e' w2 ⟨rfl,hb2⟩) | fail)
    go_ret
    refine ⟨?_,Below.next HB.out hb2⟩
    rw[Sy.distinct_false (i:=i+1) (by rw[HT.out];simp)]
    rfl
   | true=>
    have HVA:=zh (zbw (w:=wr) x _ er)
    rw[hva] at HVA HT
    have HX:=zh hx
    have HSX:=zh hsx
    clear hx hx1 er hsx
    go_upto_region 6 with (first | (go_at_call 78;refine HVA.out.mono ?_;rintro e' w2 ⟨rfl,hb2⟩) | fail)
    have HB2:=zh (Below.next HB.out hb2)
    clear hb2 e0 e1 e2 e3 e4 hd
    go_wp2_with fail
    go_loopg [4] i (fun g kv wr2=>∃(k:Nat),kv=.int .i64 k∧g=i-k∧k<=i∧Hid ((l.take k).all (fun y=>!(y.s.data.toList==s1.data.toList))=true)∧Hid (Below w.heap.size w wr2))
    case atStart=>exact ⟨0,rfl,rfl,by omega,zh rfl,HB2⟩
    case round=>
     obtain ⟨k,rfl,rfl,hk,HK,HB3⟩:=hrel
     by_cases hlk:k<i
     ·have hdk:decide ((k:Int)<(i:Int))=true:=by simp;omega
      obtain ⟨y,hy⟩:∃y,l[k]?=some y:=⟨_,List.getElem?_eq_getElem (by rw[<-HLN.out];omega)⟩
      obtain ⟨b2,off2,k2,n2,d2,s2,l2,o2,len2,cap2,ho2,hy2,f0,f1,f2,f3,f4, -⟩:=zat (o:=some ⟨b1,off1,none⟩) (cap:=cap) ⟨fun h=>⟨rfl,(HRC.out.1 h).2⟩,HRC.out.2⟩ (HB3.out.mono hB) hy
      obtain ⟨b3,off3,k3,n3,d3,s3,l3,o3,len3,cap3,ho3,hx3,g0,g1,g2,g3,g4, -⟩:=zat (o:=some ⟨b1,off1,none⟩) (cap:=cap) ⟨fun h=>⟨rfl,(HRC.out.1 h).2⟩,HRC.out.2⟩ (HB3.out.mono hB) HX.out
      cases ho2
      cases ho3
      obtain rfl:s3=s1:=by rw[<-HSX.out,hx3];rfl
      have hsy:y.s=s2:=by rw[hy2];rfl
      have HA:=zh (show (l.take (k+1)).all (fun y=>!(y.s.data.toList==s3.data.toList)) = !(s2.data.toList==s3.data.toList) from by
       rw[List.take_add_one,hy,Option.toList_some,List.all_append,HK.out]
       simp[hsy])
      have HMEM:=zh (show y∈l.take i from by
       rw[List.mem_take_iff_getElem]
       exact ⟨k,by rw[<-HLN.out];omega,by simpa using (List.getElem?_eq_some_iff.1 hy).2⟩)
      have HSY:=zh hsy
      clear hy hy2 hx3 hsy f0 f1 f2 f4 g0 g1 g2 g4
      cases hq:(s2.data.toList==s3.data.toList) with
      | true=>
       rw[hq] at HA
       have HF:=zh (show Sy.distinct l=false from Sy.distinct_false (i:=i+1) (by
        rw[HT.out]
        have:((l.take i).all fun y=>!(y.s.data.toList==x.s.data.toList))=false:=by
         rw[List.all_eq_false]
         exact ⟨y,HMEM.out,by rw[HSY.out,HSX.out,hq];simp⟩
        rw[this]
        simp))
       have hq2:(s2.toList==s3.toList)=true:=by rw[ByteArray.toList_eq,ByteArray.toList_eq];exact hq
       go_wp2_with fail
       go_region
       all_goals go_wp2_with fail
       all_goals
        go_ret
        exact ⟨by rw[HF.out];rfl,HB3.out.trans ((Below.selfN wr 1).mono HB3.out.size)⟩
      | false=>
       rw[hq] at HA
       have hq2:(s2.toList==s3.toList)=false:=by rw[ByteArray.toList_eq,ByteArray.toList_eq];exact hq
       clear HMEM HSY hq
       go_wp2_with fail
       go_region
       all_goals go_wp2_with fail
       all_goals
        go_roundg (i-(k+1))
        case measure=>omega
        case rel=>exact ⟨k+1,by go_num,rfl,by omega,HA,zh (HB3.out.trans ((Below.selfN wr 1).mono HB3.out.size))⟩
     ·have hdk:decide ((k:Int)<(i:Int))=false:=by simp;omega
      have hki:k=i:=by omega
      have HD2:=zh (show Sy.distinct (l.take (i+1))=true from by
       rw[HT.out,HD.out,HSX.out,<-hki,HK.out]
       rfl)
      clear hki
      go_wp2_with fail
      go_roundg (len-(i+1))
      case measure=>omega
      case rel=>exact ⟨i+1,by go_num,rfl,by omega,HD2,HB3⟩
  ·have hd:decide ((i:Int)<(len:Int))=false:=by simp;omega
   have HF:=zh (show Sy.distinct l=true from by
    have:=HD.out
    rwa[List.take_of_length_le (by rw[<-HLN.out];omega)] at this)
   go_wp2_with fail
   go_ret
   exact ⟨by rw[HF.out];rfl,HB.out⟩
end
section
open Go Go.RowKit
theorem zgP (S:Nat->Prop) (b n:Nat) (x:Dat) (xv:Value) (l:List Dat) (sl:Value) (w:World) (hbi:Sy.binds x=none) (hS:∀c,S c->c<w.heap.size) (hb:S b) (hx:XP w b n) (hV:Env w) (hxv:RepD (hide w S) w.heap.size x xv) (hsm:Sy.small x=true) (hv:RepS (hide w S) w.heap.size l sl) :
  Calls prog 107 #[.pointer (some ⟨b,0,none⟩),xv,sl] w (XRes S b none w):=by
 obtain ⟨k1,m1,d1,s1,o1,len1,cap1,rfl⟩:=zae hxv.unhide
 obtain ⟨W0,hW0,hst,he1⟩:=zbu hS hb hx hV hxv
 have HST:=zh hst
 have HW0:=zh hW0
 have HE1:=zh he1
 have HLV:=zh (hst.first (Sp.ofS hv))
 have HHXV:=zh (hst.first (Sp.ofD hxv))
 obtain ⟨k,m,d,st,o,len,cap,hxr,q0,q1,q2,q3,q4,ql⟩:=Sp.cells he1
 have HC:=zh (hst.bindings_none x _ hbi hxr hsm)
 have HBI:=zh hbi
 have HSM:=zh hsm
 clear hst he1 hW0  hv hxv hS hb hx hV hxr hsm hbi
 go_enter func107,ntmps107
 go_upto_region 1 with fail
 rw[HW0.out]
 go_wp2_with (first | (go_at_call 76;refine HC.out.mono ?_;rintro e' w1 ⟨vn,vv,rfl,hb1⟩) | (go_at_call 30;refine (zaf _).mono ?_;rintro e' wN ⟨rfl,rfl⟩) | fail)
 exact ⟨rfl,HST.out.bad' (Turned.of_below hb1)⟩
theorem ziG {E:Dat->Sy.M Dat} {L:Dat->List Dat->Sy.M Dat} (hE:EOk E) (hL:LOk L) (S:Nat->Prop) (b n:Nat) (x:Dat) (xv:Value) (l:List Dat) (sl:Value) (w:World) (r:Option (Dat × Nat)) (hr:Sy.letF E L [] [] l n=some r) (hbi:Sy.binds x=some ([],[])) (hS:∀c,S c->c<w.heap.size) (hb:S b) (hx:XP w b n) (hV:Env w) (hxv:RepD (hide w S) w.heap.size x xv) (hsm:Sy.small x=true) (hv:RepS (hide w S) w.heap.size l sl) :
  Calls prog 107 #[.pointer (some ⟨b,0,none⟩),xv,sl] w (XRes S b r w):=by
 obtain ⟨k1,m1,d1,s1,o1,len1,cap1,rfl⟩:=zae hxv.unhide
 obtain ⟨W0,hW0,hst,he1⟩:=zbu hS hb hx hV hxv
 have HST:=zh hst
 have HW0:=zh hW0
 have HE1:=zh he1
 have HL:=zh hL
 have HE:=zh hE
 have HLV:=zh (hst.first (Sp.ofS hv))
 have HHXV:=zh (hst.first (Sp.ofD hxv))
 obtain ⟨k,m,d,st,o,len,cap,hxr,q0,q1,q2,q3,q4,ql⟩:=Sp.cells he1
 have HC:=zh (hst.bindings_some x _ _ _ hbi hxr hsm)
 have HBI:=zh hbi
 have HSM:=zh hsm
 clear hst he1 hW0 hL hE hv hxv hS hb hx hV hxr hsm hbi
 go_enter func107,ntmps107
 go_upto_region 1 with fail
 rw[HW0.out]
 have HR:=zh hr
 clear hr
 go_upto_region 4 with (first | (go_at_call 76;refine HC.out.mono ?_;rintro e' w1 ⟨on,lenn,capn,ov,lenv,capv,rfl,hg1,hg2,rfl,rfl,hb1⟩) | (go_at_call 30;refine (zah _).mono ?_;rintro e' wN ⟨⟨vN,rfl⟩,rfl⟩) | fail)
 have HST3:=zh (HST.out.below hb1)
 have HX3:=zh (Sp.below HE1.out hb1)
 have HL3:=zh (Sp.below HLV.out hb1)
 have HP1:=zh (show ∃p1,r=p1∧Sy.letF E L [] [] l n=some p1 from ⟨r,rfl,HR.out⟩)
 clear hg1 hg2 hb1 q0 q1 q2 q3 q4 ql
 obtain ⟨p1,hp1,hp2⟩:=HP1.out
 clear HP1
 have HP1:=zh hp2
 have HRF:=zh hp1
 have jh:=zh (show p1=none->r=none from fun h=>by rw[hp1];exact h)
 clear hp1 hp2
 refine zad (dr:=false) (S:=S) (b:=b) (H:=(w.heap.size+1)) 4 [3] (fun j=>[n,cnt p1].getD j 0) [.val (.pointer (some ⟨b,0,none⟩)),.dat (some (x)),.row (some (l)),.dat (p1.map (·.1))] HST3.out (by show zB _ _ 4 46=true;kernel_rfl) (by decide) (by decide) (by kernel_rfl) ?hops ?hcall ?hend
 case hops=>
  intro i o8 hi hip ho a8 w8 hdf jd ht8 jb ja
  match i,hi,hip with
  | 0,_,_=>cases ho;exact zac rfl (Sp.at ja 0 (by kernel_rfl) (rfl) (.inl HST3.out.own) ht8)
  | 1,_,_=>cases ho;exact zal rfl (Sp.at ja 4 (by kernel_rfl) (HX3.out) (.inl HST3.out.own) ht8)
  | 2,_,_=>cases ho;exact zac rfl (Sp.at ja 2 (by kernel_rfl) (HL3.out) (.inl HST3.out.own) ht8)
  | 3,_,h=>exact absurd (by decide) h
  | i+4,hi,_=>exact absurd hi (by omega)
 case hcall=>
  intro j i o8 hj ho a8 w8 hdf jc ht8 jb jg ja
  match j,hj with
  | 0,hj=>
   cases hj;cases ho
   have hv0:a8.tmps.getD 21 undef=.pointer (some ⟨b,0,none⟩):=(Sp.dep jb 0 21 (by kernel_rfl))
   refine zaI (p:=p1) (vals:=#[.pointer (some ⟨b,0,none⟩),a8.tmps.getD 22 undef,a8.tmps.getD 23 undef]) rfl (by simp only[List.map_toArray,List.map_cons,List.map_nil];rw[<-hv0];rfl) (fun _ _=>rfl) (zhz HE.out HL.out (S1 S (w.heap.size+1)) b _ x _ l _ w8 p1 (by rw[HBI.out];exact HP1.out) jc.lt (.inl jc.own) jc.hx jc.hE (Sp.datum (Sp.dep jb 1 22 (by kernel_rfl))) (Sy.small_iff.1 HSM.out).1 (Sy.small_iff.1 HSM.out).2 (Sp.data (Sp.dep jb 2 23 (by kernel_rfl)))) fun hp w9 ht9=>?_
   have hrn:=jh.out hp
   subst hrn
   exact ⟨hdf,jc.bad' ht9⟩
  | _+1,hj=>simp at hj
 case hend=>
  intro a8 w8 hdf hsz jc ht8 hval ja
  refine fin_s (r:=r) jc (hval 3 _ 24 (by omega) rfl rfl) (fun x8 hx8=>?_) ((ja.at 6 (by kernel_rfl)).trans rfl) hdf rfl results107 fun w9 h9=>?_
  ·clear hval ja hdf hsz jc ht8
   rcases p1 with _ | ⟨y1,n1⟩
   ·simp at hx8
   cases hx8
   exact HRF.out
  ·go_wp2_with fail
theorem zhi {E:Dat->Sy.M Dat} {L:Dat->List Dat->Sy.M Dat} (hE:EOk E) (ns vs:List Dat)
  (ih:∀(S:Nat->Prop) (b n:Nat) (x:Dat) (xv:Value) (l:List Dat) (sl:Value) (w:World) (r:Option (Dat × Nat)),Sy.chainF E L ns vs l n=some r->Sy.binds x=some (ns,vs)->(∀c,S c->c<w.heap.size)->S b->XP w b n->Env w->RepD (hide w S) w.heap.size x xv->Sy.small x=true->RepS (hide w S) w.heap.size l sl->Calls prog 107 #[.pointer (some ⟨b,0,none⟩),xv,sl] w (XRes S b r w))
  (S:Nat->Prop) (b n:Nat) (a c x:Dat) (xv:Value) (l:List Dat) (sl:Value) (w:World) (r:Option (Dat × Nat)) (hr:Sy.chainF E L (a::ns) (c::vs) l n=some r) (hbi:Sy.binds x=some (a::ns,c::vs)) (hS:∀c,S c->c<w.heap.size) (hb:S b) (hx:XP w b n) (hV:Env w) (hxv:RepD (hide w S) w.heap.size x xv) (hsm:Sy.small x=true) (hv:RepS (hide w S) w.heap.size l sl) :
  Calls prog 107 #[.pointer (some ⟨b,0,none⟩),xv,sl] w (XRes S b r w):=by
 obtain ⟨k1,m1,d1,s1,o1,len1,cap1,rfl⟩:=zae hxv.unhide
 obtain ⟨W0,hW0,hst,he1⟩:=zbu hS hb hx hV hxv
 have HST:=zh hst
 have HW0:=zh hW0
 have HE1:=zh he1
 have HE:=zh hE
 have HLV:=zh (hst.first (Sp.ofS hv))
 have HHXV:=zh (hst.first (Sp.ofD hxv))
 obtain ⟨k,m,d,st,o,len,cap,hxr,q0,q1,q2,q3,q4,ql⟩:=Sp.cells he1
 have HC:=zh (hst.bindings_some x _ _ _ hbi hxr hsm)
 have HBI:=zh hbi
 have HSM:=zh hsm
 clear hst he1 hW0 hE hv hxv hS hb hx hV hxr hsm hbi
 go_enter func107,ntmps107
 go_upto_region 1 with fail
 rw[HW0.out]
 have HR:=zh (Sy.need_split (show Sy.need (Sy.isVar a) (Sy.bnd (Sy.chainF E L ns vs l) fun q=>Sy.over E a q c) n=some r from hr))
 have HIH:=zh ih
 clear hr ih
 go_upto_region 3 with (first | (go_at_call 76;refine HC.out.mono ?_;rintro e' w1 ⟨on,lenn,capn,ov,lenv,capv,rfl,hg1,hg2,hl1,hl2,hb1⟩;have HL1:=zh hl1;clear hl1 hl2) | (go_at_call 30;refine (zah _).mono ?_;rintro e' wN ⟨⟨vN,rfl⟩,rfl⟩) | fail)
 have HST3:=zh (HST.out.below hb1)
 have HX3:=zh (Sp.below HE1.out hb1)
 have HL3:=zh (Sp.below HLV.out hb1)
 have HG1:=zh hg1
 have HG2:=zh hg2
 have ht1:(lenn==0)=false:=by rw[HL1.out];rfl
 have ht2:¬lenn=0:=by rw[HL1.out];simp
 have ht3:((lenn:Int)==0)=false:=by simp[ht2]
 have ht4:0<lenn:=by omega
 have HLE:=zh (show ns.length=vs.length∧ns.length<=100000 from by
  have h1:=Sy.binds_len HBI.out
  have h2:=(Sy.small_iff.1 HSM.out).2
  have h3:=HBI.out
  simp only[qzN] at h1
  unfold Sy.binds at h3
  split at h3
  ·have:=Sy.bindsL_len h3
   simp only[qzN] at this
   omega
  ·cases h3)
 obtain ⟨c1,off1,rfl,hel⟩:=Sp.nth (j:=0) hg1 rfl
 obtain ⟨k3,m3,d3,st3,o3,len3,cap3,hxr,e0,e1,e2,e3,e4,el⟩:=Sp.cells hel
 simp only[Nat.zero_mul,Nat.add_zero] at e0 e1 e2 e3 e4
 have HVA:=zh (fun w=>zaP (w:=w) a _ hxr)
 clear hg1 hg2 hb1 q0 q1 q2 q3 q4 ql hel hxr
 obtain ⟨va,hva⟩:∃va,Sy.isVar a=va:=⟨_,rfl⟩
 rw[hva] at HVA HR
 clear hva
 cases va
 ·have hrn:=HR.out.1 (by trivial)
  subst hrn
  go_wp2_with (first | (go_at_call 72;refine (HVA.out _).mono ?_;rintro e' w2 ⟨rfl,hb2⟩) | (go_at_call 30;refine (zaf _).mono ?_;rintro e' wN ⟨rfl,rfl⟩) | fail)
  exact ⟨rfl,HST3.out.bad' (Turned.of_below hb2)⟩
 ·go_upto_region 6 with (first | (go_at_call 72;refine (HVA.out _).mono ?_;rintro e' w2 ⟨rfl,hb2⟩) | (go_at_call 30;refine (zah _).mono ?_;rintro e' wN ⟨⟨vN,rfl⟩,rfl⟩) | fail)
  have HST6:=zh (HST3.out.below hb2)
  have HL6:=zh (Sp.below HL3.out hb2)
  have HN6:=zh (Sp.below HG1.out hb2)
  have HV6:=zh (Sp.below HG2.out hb2)
  obtain ⟨p1,hp1,hn1,hk⟩:=Sy.bnd_split (HR.out.2 (by trivial))
  obtain ⟨p2,hp2⟩:∃p2,r=p2:=⟨_,rfl⟩
  have HP1:=zh hp1
  have jh:=zh hn1
  have HP2:=zh (show ∀y n',p1=some (y,n')->Sy.over E a y c n'=some p2 from by rw[<-hp2];exact hk)
  have HNp2:=zh (show p2=none->r=none from fun h=>by rw[hp2];exact h)
  have HRF:=zh hp2
  clear hb2 hp1 hn1 hk hp2 ht1 ht2 ht3 ht4 e0 e1 e2 e3 e4 el
  refine zad (dr:=true) (S:=S) (b:=b) (H:=(w.heap.size+1)) 16 [11,15] (fun j=>[n,cnt p1,cnt p2].getD j 0) [.val (.pointer (some ⟨b,0,none⟩)),.row (some (a::ns)),.elm (some (a)),.dat (some (a)),.val (.pointer (some ⟨b,0,none⟩)),.row (some (a::ns)),.row (some (ns)),.row (some (c::vs)),.row (some (vs)),.dat (some (Sy.pairs ns vs)),.row (some (l)),.dat (p1.map (·.1)),.row (some (c::vs)),.elm (some (c)),.dat (some (c)),.dat (p2.map (·.1))] HST6.out (by show zB _ _ 16 46=true;kernel_rfl) (by decide) (by decide) (by kernel_rfl) ?hops ?hcall ?hend
  case hops=>
   intro i o8 hi hip ho a8 w8 hdf jd ht8 jb ja
   match i,hi,hip with
   | 0,_,_=>cases ho;exact zac rfl (Sp.at ja 0 (by kernel_rfl) (rfl) (.inl HST6.out.own) ht8)
   | 1,_,_=>cases ho;exact zac rfl (Sp.at ja 7 (by kernel_rfl) (HN6.out) (.inl HST6.out.own) ht8)
   | 2,_,_=>cases ho;exact zas (k:=0) rfl (Sp.dep jb 1 31 (by kernel_rfl)) rfl (by decide)
   | 3,_,_=>cases ho;exact zal rfl (Sp.dep jb 2 32 (by kernel_rfl))
   | 4,_,_=>cases ho;exact zac rfl (Sp.at ja 0 (by kernel_rfl) (rfl) (.inl HST6.out.own) ht8)
   | 5,_,_=>cases ho;exact zac rfl (Sp.at ja 7 (by kernel_rfl) (HN6.out) (.inl HST6.out.own) ht8)
   | 6,_,_=>cases ho;exact zaD (k:=1) rfl (Sp.dep jb 5 35 (by kernel_rfl)) (by decide) (by simp) (by decide)
   | 7,_,_=>cases ho;exact zac rfl (Sp.at ja 8 (by kernel_rfl) (HV6.out) (.inl HST6.out.own) ht8)
   | 8,_,_=>cases ho;exact zaD (k:=1) rfl (Sp.dep jb 7 37 (by kernel_rfl)) (by decide) (by simp) (by decide)
   | 9,_,_=>cases ho;exact zcU rfl (Sp.dep jb 6 36 (by kernel_rfl)) (Sp.dep jb 8 38 (by kernel_rfl)) (HLE.out.1) (HLE.out.2) jd
   | 10,_,_=>cases ho;exact zac rfl (Sp.at ja 2 (by kernel_rfl) (HL6.out) (.inl HST6.out.own) ht8)
   | 11,_,h=>exact absurd (by decide) h
   | 12,_,_=>cases ho;exact zac rfl (Sp.at ja 8 (by kernel_rfl) (HV6.out) (.inl HST6.out.own) ht8)
   | 13,_,_=>cases ho;exact zas (k:=0) rfl (Sp.dep jb 12 42 (by kernel_rfl)) rfl (by decide)
   | 14,_,_=>cases ho;exact zal rfl (Sp.dep jb 13 43 (by kernel_rfl))
   | 15,_,h=>exact absurd (by decide) h
   | i+16,hi,_=>exact absurd hi (by omega)
  case hcall=>
   intro j i o8 hj ho a8 w8 hdf jc ht8 jb jg ja
   match j,hj with
   | 0,hj=>
    cases hj;cases ho
    have hv0:a8.tmps.getD 34 undef=.pointer (some ⟨b,0,none⟩):=(Sp.dep jb 4 34 (by kernel_rfl))
    refine zaI (p:=p1) (vals:=#[.pointer (some ⟨b,0,none⟩),a8.tmps.getD 39 undef,a8.tmps.getD 40 undef]) rfl (by simp only[List.map_toArray,List.map_cons,List.map_nil];rw[<-hv0];rfl) (fun _ _=>rfl) (HIH.out (S1 S (w.heap.size+1)) b _ (Sy.pairs ns vs) _ l _ w8 p1 HP1.out (Sy.pairs_tail HBI.out HSM.out).2 jc.lt (.inl jc.own) jc.hx jc.hE (Sp.datum (Sp.dep jb 9 39 (by kernel_rfl))) (Sy.pairs_tail HBI.out HSM.out).1 (Sp.data (Sp.dep jb 10 40 (by kernel_rfl)))) fun hp w9 ht9=>?_
    have hrn:=jh.out hp
    subst hrn
    exact ⟨hdf,jc.bad' ht9⟩
   | 1,hj=>
    cases hj;cases ho
    obtain ⟨y1,m1,hq1,hy1⟩:=Sp.got (Sp.dep jb 11 41 (by kernel_rfl))
    have hv0:a8.tmps.getD 30 undef=.pointer (some ⟨b,0,none⟩):=(Sp.dep jb 0 30 (by kernel_rfl))
    refine zaI (p:=p2) (vals:=#[.pointer (some ⟨b,0,none⟩),a8.tmps.getD 33 undef,a8.tmps.getD 41 undef,a8.tmps.getD 44 undef]) rfl (by simp only[List.map_toArray,List.map_cons,List.map_nil];rw[<-hv0];rfl) (fun _ _=>rfl) (zb6 HE.out (S1 S (w.heap.size+1)) b (cnt p1) a y1 c _ _ _ w8 p2 (by rw[hq1];exact HP2.out y1 m1 hq1) jc.lt (.inl jc.own) jc.hx jc.hE (Sp.datum (Sp.dep jb 3 33 (by kernel_rfl))) hy1 (Sp.datum (Sp.dep jb 14 44 (by kernel_rfl)))) fun hp w9 ht9=>?_
    have hrn:=HNp2.out hp
    subst hrn
    exact ⟨hdf,jc.bad' ht9⟩
   | _+2,hj=>simp at hj
  case hend=>
   intro a8 w8 hdf hsz jc ht8 hval ja
   refine fin_s (r:=r) jc (hval 15 _ 45 (by omega) rfl rfl) (fun x8 hx8=>?_) ((ja.at 6 (by kernel_rfl)).trans rfl) hdf rfl results107 fun w9 h9=>?_
   ·clear hval ja hdf hsz jc ht8
    rcases p2 with _ | ⟨y2,n2⟩
    ·simp at hx8
    rcases p1 with _ | ⟨y1,n1⟩
    ·exact absurd (HRF.out.symm.trans (jh.out rfl)) (by simp)
    cases hx8
    exact HRF.out
   ·go_wp2_with fail
theorem ziM {E:Dat->Sy.M Dat} {L:Dat->List Dat->Sy.M Dat} (hE:EOk E) (hL:LOk L):∀(ns vs:List Dat) (S:Nat->Prop) (b n:Nat) (x:Dat) (xv:Value) (l:List Dat) (sl:Value) (w:World) (r:Option (Dat × Nat)),Sy.chainF E L ns vs l n=some r->Sy.binds x=some (ns,vs)->(∀c,S c->c<w.heap.size)->S b->XP w b n->Env w->RepD (hide w S) w.heap.size x xv->Sy.small x=true->RepS (hide w S) w.heap.size l sl->Calls prog 107 #[.pointer (some ⟨b,0,none⟩),xv,sl] w (XRes S b r w):=by
 intro ns
 induction ns with
 | nil=>
  intro vs S b n x xv l sl w r hr hbi hS hb hx hV hxv hsm hv
  have hvs:vs=[]:=by
   unfold Sy.binds at hbi
   split at hbi
   ·have:=Sy.bindsL_len hbi
    exact List.length_eq_zero_iff.1 (by rw[this.2,<-this.1];rfl)
   ·cases hbi
  subst hvs
  exact ziG hE hL S b n x xv l sl w r hr hbi hS hb hx hV hxv hsm hv
 | cons a ns ih=>
  intro vs S b n x xv l sl w r hr hbi hS hb hx hV hxv hsm hv
  match vs,hr,hbi with
  | [],hr,hbi=>
   exfalso
   unfold Sy.binds at hbi
   split at hbi
   ·have h1:=Sy.bindsL_len hbi
    simp only[qzN,qzO] at h1
    omega
   ·cases hbi
  | c::vs,hr,hbi=>exact zhi hE ns vs (ih vs) S b n a c x xv l sl w r hr hbi hS hb hx hV hxv hsm hv
end
section
open Go Go.RowKit
theorem zjI {S:Nat->Prop} {H:Nat} (hS:∀b,S b->b<H):∀b,S1 S H b->b<H+1:=fun b h=>by
 rcases h with h | h
 ·have:=hS b h;omega
 ·omega
def RpI (S:Nat->Prop) (x:Dat) (w:World) (g:Nat) (lv:Value) (wr:World):Prop:=Hid (∃(k n d:Int) (st:ByteArray) (l':List Dat) (o:Option Addr) (len cap:Nat) (done:List Dat),Box5 wr w.heap.size 26 (.int .i64 k) (.int .i64 n) (.int .i64 d) (.string st) (.slice o len cap)∧RepD (hide wr (SR (S1 S w.heap.size) lv)) wr.heap.size (.mk k n d st l') (.agg #[.int .i64 k,.int .i64 n,.int .i64 d,.string st,.slice o len cap]) ∧
 GrownS wr (S1 S w.heap.size) (w.heap.size+1) done lv∧Below w.heap.size w wr∧Dat.shaped (.mk k n d st l')=true∧Dat.all (.mk k n d st l')<=g∧done.length+Dat.all (.mk k n d st l')<=Dat.all x∧Sy.split x=(done++(Sy.split (.mk k n d st l')).1,(Sy.split (.mk k n d st l')).2))
theorem zgd {S:Nat->Prop} {x:Dat} {B:Nat} {w W0:World} {k n d:Int} {st:ByteArray} {o:Option Addr} {len cap:Nat} (hS:∀b,S b->b<w.heap.size) (hv:RepD (hide w S) B x (.agg #[.int .i64 k,.int .i64 n,.int .i64 d,.string st,.slice o len cap])) (hB:B<=w.heap.size) (hsh:Dat.shaped x=true) (hW0:w.alloc (.cells #[.int .i64 k,.int .i64 n,.int .i64 d,.string st,.slice o len cap] 26)=W0):RpI S x w (Dat.all x) (.slice none 0 0) W0:=by
 have hbl:Below w.heap.size w W0:=by rw[<-hW0];exact Below.one w _
 have hsz:W0.heap.size=w.heap.size+1:=by rw[<-hW0];simp
 obtain ⟨k',n',d',s',l'⟩:=x
 obtain ⟨sl,he,_⟩:=hv.open
 simp only[Value.agg.injEq,Array.mk.injEq,List.cons.injEq,and_true,Value.int.injEq,true_and,Value.string.injEq] at he
 obtain ⟨rfl,rfl,rfl,rfl,_⟩:=he
 refine zh ⟨k,n,d,st,l',o,len,cap,[],?_,?_,GrownS.nil _ (fun b h=>qzM (zjI hS b h) (by omega)) (by omega),hbl,hsh,qzL,by simp,rfl⟩
 ·rw[<-hW0];exact Box5.new w _ _ _ _ _ _
 ·refine hv.shown (fun c o' u hc hu=>?_) (by omega)
  have hlt:=zai hu
  refine ⟨fun h=>?_,(hbl.cell (p:=⟨c,o',none⟩) hlt).trans hu⟩
  rcases h with (h | h) | h
  ·exact hc h
  ·omega
  ·cases h
theorem ritemsG (S:Nat->Prop) (x:Dat) (v:Value) (B:Nat) (w:World) (r:Bool) (hr:((Sy.split x).2.kind==4)=r) (hS:∀b,S b->b<w.heap.size) (hv:RepD (hide w S) B x v) (hB:B<=w.heap.size) (hsh:Dat.shaped x=true) (hal:Dat.all x<=100000) :
  Calls prog 55 #[v] w fun e w'=>∃(o':Option Addr) (len' cap':Nat),e=.returned (.tuple #[.slice o' len' cap',.bool r])∧GrownS w' S w.heap.size (Sy.split x).1 (.slice o' len' cap')∧len'=(Sy.split x).1.length∧Below w.heap.size w w':=by
 obtain ⟨k,n,d,st,o,len,cap,rfl⟩:=zae hv.unhide
 obtain ⟨W0,hW0⟩:∃W0,w.alloc (.cells #[.int .i64 k,.int .i64 n,.int .i64 d,.string st,.slice o len cap] 26)=W0:=⟨_,rfl⟩
 have HRR:=zh hr
 clear hr
 have HW0:=zh hW0
 have HI:=zh (zgd hS hv hB hsh hW0)
 have HSL:=zh (zjI hS)
 clear hv hW0 hsh hS hB
 go_enter func55,ntmps55
 go_wp2_with fail
 rw[HW0.out]
 clear HW0
 go_loopg [4] (Dat.all x) (fun g lv wr=>RpI S x w g lv wr)
 case atStart=>exact HI.out
 case round=>
  obtain ⟨k1,n1,d1,st1,l1,o1,len1,cap1,done,hbx,ji,hg,hbl,hshp,hle,jk,hsp⟩:=hrel.out
  clear hrel HI
  obtain ⟨o3,len3,cap3,hv3,hl3,hl4⟩:=hg.form
  subst hv3
  obtain ⟨q0,q1,q2,q3,q4⟩:=hbx.cells
  have ql:=hbx.lt
  have HBX:=zh hbx
  have HG:=zh hg
  have HBL:=zh hbl
  have hap:=Sy.all_pos (Dat.mk k1 n1 d1 st1 l1)
  by_cases k6:k1=6
  ·have hk6:(k1==6)=true:=by simpa using k6
   obtain ⟨a,b,rfl,hsa,hsb⟩:=Sy.shaped_pair hshp k6
   have hall:Dat.all (.mk k1 n1 d1 st1 [a,b])=1+(Dat.all a+(Dat.all b+0)):=rfl
   rw[Sy.split_pair k6] at hsp
   obtain ⟨sl,he,_,_,_,_,hs⟩:=ji.open
   simp only[Value.agg.injEq,Array.mk.injEq,List.cons.injEq,and_true,true_and] at he
   subst he
   obtain ⟨o5,len5,cap5,he5,hl5,hc5,hm5,hm6⟩:=hs
   simp only[Value.slice.injEq] at he5
   obtain ⟨rfl,rfl,rfl⟩:=he5
   obtain ⟨bb,off,ka,na,da,sa,la,oa,lna,cpa,ho,hxa,e0,e1,e2,e3,e4,er⟩:=zat hm6 (Below.refl _ (hide wr (SR (S1 S w.heap.size) (.slice o3 len3 cap3)))) (j:=0) rfl
   obtain ⟨bb',off',kb,nb,db,sb,lb,ob,lnb,cpb,ho',hxb,f0,f1,f2,f3,f4,fr⟩:=zat hm6 (Below.refl _ (hide wr (SR (S1 S w.heap.size) (.slice o3 len3 cap3)))) (j:=1) rfl
   subst ho
   simp only[Option.some.injEq,Addr.mk.injEq,and_true] at ho'
   obtain ⟨rfl,rfl⟩:=ho'
   have hbb:=(zaa e0).1
   replace e0:=(zaa e0).2
   replace e1:=(zaa e1).2
   replace e2:=(zaa e2).2
   replace e3:=(zaa e3).2
   replace e4:=(zaa e4).2
   replace f0:=(zaa f0).2
   replace f1:=(zaa f1).2
   replace f2:=(zaa f2).2
   replace f3:=(zaa f3).2
   replace f4:=(zaa f4).2
   simp only[Nat.zero_mul,Nat.add_zero,Nat.one_mul] at e0 e1 e2 e3 e4 f0 f1 f2 f3 f4
   have hbl1:=zai e0
   have hln1:len1=2:=hl5
   subst hln1
   have je:Below wr.heap.size wr (wr.alloc (.cells #[.int .i64 ka,.int .i64 na,.int .i64 da,.string sa,.slice oa lna cpa] 26)):=Below.one _ _
   have HG1:=zh (hg.below je)
   have HK1:=zh (zax (x:=a) (sr_lt hg qzL) (by rw[hxa];exact er))
   have HFR:=zh (show RepD (hide wr (SR (S1 S w.heap.size) (.slice o3 len3 cap3))) wr.heap.size b _ from by rw[hxb];exact fr)
   have HBB:=zh hbb
   have HONE:=zh je
   have HF:=zh (show wr.cell? ⟨bb,off+5,none⟩=some (.int .i64 kb)∧wr.cell? ⟨bb,off+6,none⟩=some (.int .i64 nb)∧wr.cell? ⟨bb,off+7,none⟩=some (.int .i64 db)∧wr.cell? ⟨bb,off+8,none⟩=some (.string sb)∧wr.cell? ⟨bb,off+9,none⟩=some (.slice ob lnb cpb) from ⟨f0,f1,f2,f3,f4⟩)
   have HSP:=zh hsp
   have HROW:=zh (fun (g:Nat) (hg':(Value.slice o3 len3 cap3).ownBlock=some g)=>(hg.block hg').1)
   obtain ⟨dn,hdn⟩:∃dn,done.length=dn:=⟨_,rfl⟩
   rw[hdn] at jk
   have HDN:=zh hdn
   have HXA:=zh hxa
   have HXB:=zh hxb
   have hszw:w.heap.size+1<=wr.heap.size:=hg.2.2.1
   clear hbx ji hg hbl hsp je er fr hbb f0 f1 f2 f3 f4 hl4 hl5 hm6 hxa hxb hdn hc5 hm5 hshp
   go_upto_region 4 with (first | (at_builtin;go_loud (refine zaj rfl fun K hK=>zav (S:=S1 S w.heap.size) (.tmp 8) (.tmp 13) rfl (w.heap.size+1) (.slice o3 len3 cap3) (.slice (some ⟨wr.heap.size,0,none⟩) 1 1) done [a] rfl HG1 rfl HK1 (by rw[HDN.out];simp;omega) fun o7 len7 cap7 w7 h7 h8 h9 h10=>hK _ _ ?_)))
   have hz7:wr.heap.size<w7.heap.size:=by have:=h9.out.size;simp only[World.size_alloc] at this;omega
   have hbx7:Box5 w7 w.heap.size 26 (.int .i64 k1) (.int .i64 n1) (.int .i64 d1) (.string st1) (.slice (some ⟨bb,off,none⟩) 2 cap1):=(h9.out.block _ (by simp;omega) (fun hq=>by have:=HROW.out _ hq;omega)).trans (HBX.out.alloc _)
   have hcl:∀i u,wr.cell? ⟨bb,i,none⟩=some u->w7.cell? ⟨bb,i,none⟩=some u:=fun i u hu=>(h10.out bb i u HBB.out ((World.cell?_alloc_past _ _ _ (zai hu)).trans hu)).2
   have f0:=hcl _ _ HF.out.1
   have f1:=hcl _ _ HF.out.2.1
   have f2:=hcl _ _ HF.out.2.2.1
   have f3:=hcl _ _ HF.out.2.2.2.1
   have f4:=hcl _ _ HF.out.2.2.2.2
   have fl:=zai f0
   obtain ⟨t0,t1,t2,t3,t4⟩:=hbx7.cells
   obtain ⟨zz0,zz1,zz2,zz3,zz4⟩:=hbx7.free
   have tl:=hbx7.lt
   have HBX7:=zh hbx7
   have HRB:=zh ((HFR.out.shown (Shown.below HONE.out) (by simp)).shown h10.out h9.out.size)
   clear hbx7 hcl q0 q1 q2 q3 q4 e0 e1 e2 e3 e4
   go_wp2_with fail
   go_roundg (Dat.all b)
   case measure=>omega
   case rel=>
    rw[HXB.out]
    refine zh ⟨kb,nb,db,sb,lb,ob,lnb,cpb,done++[a],HBX7.out.set (.int .i64 kb) (.int .i64 nb) (.int .i64 db) (.string sb) (.slice ob lnb cpb),?_,h7.out.five (.inr rfl) _ _ _ _ _,?_,by rw[<-HXB.out];exact hsb,by rw[<-HXB.out];exact qzL,?_,?_⟩
    ·rw[<-HXB.out];exact HRB.out.shown (Shown.five w7 (S:=SR (S1 S w.heap.size) (.slice o7 len7 cap7)) (.inl (.inr rfl)) _ _ _ _ _) (by rw[zan];exact qzL)
    ·exact (HBL.out.trans ((HONE.out.mono HBL.out.size))).trans ((h8.out.mono (by omega)).trans (zag _ _ _ _ _ _ _ _ qzL))
    ·rw[<-HXB.out,List.length_append,HDN.out,List.length_singleton]
     have:=Sy.all_pos a
     omega
    ·rw[<-HXB.out,HSP.out,List.append_assoc];rfl
  ·have hk6:(k1==6)=false:=by simpa using k6
   rw[Sy.split_other k6,List.append_nil] at hsp
   have HSP:=zh hsp
   have HR:=zh ji
   have HL4:=zh hl4
   clear hbx ji hg hbl hshp hle hsp hl4
   have hk4:(k1==4)=r:=by rw[<-HRR.out,HSP.out];rfl
   go_wp2_with fail
   go_region
   all_goals go_wp2_with fail
   all_goals
    refine bodyPost_ret (v:=.tuple #[.slice o3 len3 cap3,.bool r]) (by simp[results,results55,go_sem]) rfl ?_
    have h5:Below wr.heap.size wr wr.drew:=Below.selfN wr 1
    exact ⟨o3,len3,cap3,rfl,by rw[HSP.out];exact (HG.out.below h5).less (fun b h=>.inl h) (by omega),by rw[HSP.out];exact HL4.out,HBL.out.trans (h5.mono HBL.out.size)⟩
theorem zdg (S:Nat->Prop) (x:Dat) (v:Value) (B:Nat) (w:World) (hS:∀b,S b->b<w.heap.size) (hv:RepD (hide w S) B x v) (hB:B<=w.heap.size) (hsh:Dat.shaped x=true) (hal:Dat.all x<=100000) :
  Calls prog 57 #[v] w fun e w'=>e=.returned (.bool (Sy.formals x))∧Below w.heap.size w w':=by
 obtain ⟨k,n,d,st,o,len,cap,rfl⟩:=zae hv.unhide
 obtain ⟨W0,hW0⟩:∃W0,w.alloc (.cells #[.int .i64 k,.int .i64 n,.int .i64 d,.string st,.slice o len cap] 26)=W0:=⟨_,rfl⟩
 have HW0:=zh hW0
 have HI:=zh (zgd hS hv hB hsh hW0)
 have HSL:=zh (zjI hS)
 clear hv hW0 hsh hS hB
 go_enter func57,ntmps57
 go_wp2_with fail
 rw[HW0.out]
 clear HW0
 go_loopg [3] (Dat.all x) (fun g lv wr=>RpI S x w g lv wr)
 case atStart=>exact HI.out
 case round=>
  obtain ⟨k1,n1,d1,st1,l1,o1,len1,cap1,done,hbx,ji,hg,hbl,hshp,hle,jk,hsp⟩:=hrel.out
  clear hrel HI
  obtain ⟨o3,len3,cap3,hv3,hl3,hl4⟩:=hg.form
  subst hv3
  obtain ⟨q0,q1,q2,q3,q4⟩:=hbx.cells
  have ql:=hbx.lt
  have HBX:=zh hbx
  have HG:=zh hg
  have HBL:=zh hbl
  have hap:=Sy.all_pos (Dat.mk k1 n1 d1 st1 l1)
  by_cases k6:k1=6
  ·have hk6:(k1==6)=true:=by simpa using k6
   obtain ⟨a,b,rfl,hsa,hsb⟩:=Sy.shaped_pair hshp k6
   have hall:Dat.all (.mk k1 n1 d1 st1 [a,b])=1+(Dat.all a+(Dat.all b+0)):=rfl
   rw[Sy.split_pair k6] at hsp
   obtain ⟨sl,he,_,_,_,_,hs⟩:=ji.open
   simp only[Value.agg.injEq,Array.mk.injEq,List.cons.injEq,and_true,true_and] at he
   subst he
   obtain ⟨o5,len5,cap5,he5,hl5,hc5,hm5,hm6⟩:=hs
   simp only[Value.slice.injEq] at he5
   obtain ⟨rfl,rfl,rfl⟩:=he5
   obtain ⟨bb,off,ka,na,da,sa,la,oa,lna,cpa,ho,hxa,e0,e1,e2,e3,e4,er⟩:=zat hm6 (Below.refl _ (hide wr (SR (S1 S w.heap.size) (.slice o3 len3 cap3)))) (j:=0) rfl
   obtain ⟨bb',off',kb,nb,db,sb,lb,ob,lnb,cpb,ho',hxb,f0,f1,f2,f3,f4,fr⟩:=zat hm6 (Below.refl _ (hide wr (SR (S1 S w.heap.size) (.slice o3 len3 cap3)))) (j:=1) rfl
   subst ho
   simp only[Option.some.injEq,Addr.mk.injEq,and_true] at ho'
   obtain ⟨rfl,rfl⟩:=ho'
   have hbb:=(zaa e0).1
   replace e0:=(zaa e0).2
   replace e1:=(zaa e1).2
   replace e2:=(zaa e2).2
   replace e3:=(zaa e3).2
   replace e4:=(zaa e4).2
   replace f0:=(zaa f0).2
   replace f1:=(zaa f1).2
   replace f2:=(zaa f2).2
   replace f3:=(zaa f3).2
   replace f4:=(zaa f4).2
   simp only[Nat.zero_mul,Nat.add_zero,Nat.one_mul] at e0 e1 e2 e3 e4 f0 f1 f2 f3 f4
   have hbl1:=zai e0
   have hln1:len1=2:=hl5
   subst hln1
   have je:Below wr.heap.size wr (wr.alloc (.cells #[.int .i64 ka,.int .i64 na,.int .i64 da,.string sa,.slice oa lna cpa] 26)):=Below.one _ _
   have HG1:=zh (hg.below je)
   have HK1:=zh (zax (x:=a) (sr_lt hg qzL) (by rw[hxa];exact er))
   have HFR:=zh (show RepD (hide wr (SR (S1 S w.heap.size) (.slice o3 len3 cap3))) wr.heap.size b _ from by rw[hxb];exact fr)
   have HBB:=zh hbb
   have HONE:=zh je
   have HF:=zh (show wr.cell? ⟨bb,off+5,none⟩=some (.int .i64 kb)∧wr.cell? ⟨bb,off+6,none⟩=some (.int .i64 nb)∧wr.cell? ⟨bb,off+7,none⟩=some (.int .i64 db)∧wr.cell? ⟨bb,off+8,none⟩=some (.string sb)∧wr.cell? ⟨bb,off+9,none⟩=some (.slice ob lnb cpb) from ⟨f0,f1,f2,f3,f4⟩)
   have HSP:=zh hsp
   have HROW:=zh (fun (g:Nat) (hg':(Value.slice o3 len3 cap3).ownBlock=some g)=>(hg.block hg').1)
   obtain ⟨dn,hdn⟩:∃dn,done.length=dn:=⟨_,rfl⟩
   rw[hdn] at jk
   have HDN:=zh hdn
   have HXA:=zh hxa
   have HXB:=zh hxb
   have hszw:w.heap.size+1<=wr.heap.size:=hg.2.2.1
   clear hbx ji hg hbl hsp je er fr hbb f0 f1 f2 f3 f4 hl4 hl5 hm6 hxa hxb hdn hc5 hm5 hshp
   go_upto_region 4 with (first | (at_builtin;go_loud (refine zaj rfl fun K hK=>zav (S:=S1 S w.heap.size) (.tmp 7) (.tmp 12) rfl (w.heap.size+1) (.slice o3 len3 cap3) (.slice (some ⟨wr.heap.size,0,none⟩) 1 1) done [a] rfl HG1 rfl HK1 (by rw[HDN.out];simp;omega) fun o7 len7 cap7 w7 h7 h8 h9 h10=>hK _ _ ?_)))
   have hz7:wr.heap.size<w7.heap.size:=by have:=h9.out.size;simp only[World.size_alloc] at this;omega
   have hbx7:Box5 w7 w.heap.size 26 (.int .i64 k1) (.int .i64 n1) (.int .i64 d1) (.string st1) (.slice (some ⟨bb,off,none⟩) 2 cap1):=(h9.out.block _ (by simp;omega) (fun hq=>by have:=HROW.out _ hq;omega)).trans (HBX.out.alloc _)
   have hcl:∀i u,wr.cell? ⟨bb,i,none⟩=some u->w7.cell? ⟨bb,i,none⟩=some u:=fun i u hu=>(h10.out bb i u HBB.out ((World.cell?_alloc_past _ _ _ (zai hu)).trans hu)).2
   have f0:=hcl _ _ HF.out.1
   have f1:=hcl _ _ HF.out.2.1
   have f2:=hcl _ _ HF.out.2.2.1
   have f3:=hcl _ _ HF.out.2.2.2.1
   have f4:=hcl _ _ HF.out.2.2.2.2
   have fl:=zai f0
   obtain ⟨t0,t1,t2,t3,t4⟩:=hbx7.cells
   obtain ⟨zz0,zz1,zz2,zz3,zz4⟩:=hbx7.free
   have tl:=hbx7.lt
   have HBX7:=zh hbx7
   have HRB:=zh ((HFR.out.shown (Shown.below HONE.out) (by simp)).shown h10.out h9.out.size)
   clear hbx7 hcl q0 q1 q2 q3 q4 e0 e1 e2 e3 e4
   go_wp2_with fail
   go_roundg (Dat.all b)
   case measure=>omega
   case rel=>
    rw[HXB.out]
    refine zh ⟨kb,nb,db,sb,lb,ob,lnb,cpb,done++[a],HBX7.out.set (.int .i64 kb) (.int .i64 nb) (.int .i64 db) (.string sb) (.slice ob lnb cpb),?_,h7.out.five (.inr rfl) _ _ _ _ _,?_,by rw[<-HXB.out];exact hsb,by rw[<-HXB.out];exact qzL,?_,?_⟩
    ·rw[<-HXB.out];exact HRB.out.shown (Shown.five w7 (S:=SR (S1 S w.heap.size) (.slice o7 len7 cap7)) (.inl (.inr rfl)) _ _ _ _ _) (by rw[zan];exact qzL)
    ·exact (HBL.out.trans ((HONE.out.mono HBL.out.size))).trans ((h8.out.mono (by omega)).trans (zag _ _ _ _ _ _ _ _ qzL))
    ·rw[<-HXB.out,List.length_append,HDN.out,List.length_singleton]
     have:=Sy.all_pos a
     omega
    ·rw[<-HXB.out,HSP.out,List.append_assoc];rfl
  ·have hk6:(k1==6)=false:=by simpa using k6
   rw[Sy.split_other k6,List.append_nil] at hsp
   have HSP:=zh hsp
   have HR:=zh ji
   have HL4:=zh hl4
   clear hbx ji hg hbl hshp hle hsp hl4
   have hdl:done.length<=100000:=by omega
   have HDL:=zh hdl
   clear hdl jk
   have HD:=zh (zbb done (.slice o3 len3 cap3) wr.heap.size wr HG.out.rep.unhide qzL (by have:=HDL.out;omega))
   by_cases hk:k1=4
   ·have hkn:(k1 != 4)=false:=by simpa using hk
    have HF:=zh (show Sy.formals x=Sy.distinct done from by unfold Sy.formals;rw[HSP.out];exact congrArg Sy.distinct (if_pos hk))
    go_wp2_with (first | (go_at_call 61;refine HD.out.mono ?_;rintro e' w3 ⟨rfl,hb3⟩) | fail)
    go_ret
    exact ⟨by rw[HF.out];rfl,Below.next HBL.out hb3⟩
   ·have hkn:(k1 != 4)=true:=by simpa using hk
    have HF:=zh (show Sy.formals x=Sy.distinct (done++[.mk k1 n1 d1 st1 l1]) from by unfold Sy.formals;rw[HSP.out];exact congrArg Sy.distinct (if_neg hk))
    have HK:=zh (zax (x:=.mk k1 n1 d1 st1 l1) (sr_lt HG.out qzL) HR.out)
    have HG2:=zh (HG.out.below (Below.one wr (.cells #[.int .i64 k1,.int .i64 n1,.int .i64 d1,.string st1,.slice o1 len1 cap1] 26)))
    have hszw:w.heap.size+1<=wr.heap.size:=HG.out.2.2.1
    go_wp2_with (first | (at_builtin;go_loud (refine zaj rfl fun K hK=>zav (S:=S1 S w.heap.size) (.tmp 21) (.tmp 23) rfl (w.heap.size+1) (.slice o3 len3 cap3) (.slice (some ⟨wr.heap.size,0,none⟩) 1 1) done [.mk k1 n1 d1 st1 l1] rfl HG2 rfl HK (by have:=HDL.out;simp;omega) fun o7 len7 cap7 w7 h7 h8 h9 h10=>hK _ _ ?_)) | (go_at_call 61;refine (zbb _ _ _ _ (h7.out.rep.unhide) qzL (by have:=HDL.out;simp;omega)).mono ?_;rintro e' w3 ⟨rfl,hb3⟩) | fail)
    go_ret
    exact ⟨by rw[HF.out];rfl,Below.next ((Below.next HBL.out (Below.one wr _)).trans (h8.out.mono (by omega))) hb3⟩
end
end Go.Proofs.YtnbjhmafnigefaaGreatDoor
