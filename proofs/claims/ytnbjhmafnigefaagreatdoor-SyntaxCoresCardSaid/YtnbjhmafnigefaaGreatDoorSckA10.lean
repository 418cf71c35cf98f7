/- .. -/
import Derived.ArgAppend
import Derived.Test.YtnbjhmafnigefaaGreatDoorSckA09
open Go.Proofs.Tryz
set_option maxRecDepth 100000
set_option maxHeartbeats 16000000
namespace Go.Proofs.YtnbjhmafnigefaaGreatDoor
section
open Go Go.RowKit
def BOk (F:List Dat->Sy.M Dat):Prop:=∀(S:Nat->Prop) (b n:Nat) (l:List Dat) (sl:Value) (w:World) (r:Option (Dat × Nat)),F l n=some r->(∀c,S c->c<w.heap.size)->S b->XP w b n->Env w->RepS (hide w S) w.heap.size l sl->l.length<=100000 ->
 Calls prog 29 #[.pointer (some ⟨b,0,none⟩),sl] w (XRes S b r w)
def LaR (S:Nat->Prop) (fv pv sl:Value) (f y:Dat) (ok:Prop) (i:Nat) (v:Value) (W:World):Prop:=match i with
 | 0=>v=fv
 | 1=>v=pv
 | 2=>v=sl
 | 3=>ok∧RepD (hide W S) W.heap.size y v
 | 4=>ok∧RepS (hide W S) W.heap.size [f,y] v
 | 5=>ok∧RepD (hide W S) W.heap.size (Sy.form Sy.lambdaB [f,y]) v
 | _=>True
theorem zkn {S:Nat->Prop} {fv pv sl:Value} {f y:Dat} {ok:Prop} {b:Nat} (hb:S b):∀i v (A B:World),LaR S fv pv sl f y ok i v A->Turned (fun c=>c=b) A B->LaR S fv pv sl f y ok i v B:=by
 intro i v A B h ht
 have hs:Shown A S B S:=Shown.turned ht fun c _ h=>by subst h;exact hb
 match i,h with
 | 0,h | 1,h | 2,h=>exact h
 | 3,h=>exact ⟨h.1,h.2.shown hs ht.size⟩
 | 4,h=>exact ⟨h.1,h.2.shown hs ht.size⟩
 | 5,h=>exact ⟨h.1,h.2.shown hs ht.size⟩
 | _+6,_=>exact trivial
theorem zhb {F:List Dat->Sy.M Dat} (hF:BOk F) (S:Nat->Prop) (b n:Nat) (f:Dat) (fv:Value) (l:List Dat) (sl:Value) (w:World) (r:Option (Dat × Nat)) (hr:Sy.need (Sy.formals f) (Sy.bnd (F l) fun y=>Sy.ret (Sy.form Sy.lambdaB [f,y])) n=some r) (hS:∀c,S c->c<w.heap.size) (hb:S b) (hx:XP w b n) (hV:Env w) (hfv:RepD (hide w S) w.heap.size f fv) (hsh:Dat.shaped f=true) (hal:Dat.all f<=100000) (hv:RepS (hide w S) w.heap.size l sl) (hl:l.length<=100000) :
  Calls prog 85 #[.pointer (some ⟨b,0,none⟩),fv,sl] w (XRes S b r w):=by
 obtain ⟨k,m,d,st,o,len,cap,rfl⟩:=zae hfv.unhide
 obtain ⟨W0,hW0⟩:∃W0,(w.alloc (.cells #[.int .i64 k,.int .i64 m,.int .i64 d,.string st,.slice o len cap] 26)).alloc (.cells #[.int .i64 0,.int .i64 0,.int .i64 0,.string ⟨#[]⟩,.slice none 0 0] 26)=W0:=⟨_,rfl⟩
 have hbx:Box5 W0 (w.heap.size+1) 26 (.int .i64 0) (.int .i64 0) (.int .i64 0) (.string ⟨#[]⟩) (.slice none 0 0):=by rw[<-hW0];have:=Box5.new (w.alloc (.cells #[.int .i64 k,.int .i64 m,.int .i64 d,.string st,.slice o len cap] 26)) 26 (.int .i64 0) (.int .i64 0) (.int .i64 0) (.string ⟨#[]⟩) (.slice none 0 0);rwa[World.size_alloc] at this
 have hfx:Box5 W0 w.heap.size 26 (.int .i64 k) (.int .i64 m) (.int .i64 d) (.string st) (.slice o len cap):=by rw[<-hW0];exact (Box5.new w _ _ _ _ _ _).alloc _
 have hbl:Below w.heap.size w W0:=by rw[<-hW0];exact (Below.one w _).trans ((Below.one _ _).mono (by simp))
 have hbw:b<w.heap.size:=hS b hb
 have hS1:∀c,S1 S (w.heap.size+1) c->c<W0.heap.size:=fun c hc=>hc.elim (fun h=>qzM (hS c h) hbl.size) fun h=>by subst h;exact hbx.lt
 have hshow:Shown w S W0 (S1 S (w.heap.size+1)):=fun c o' u hc hu=>by
  have hcl:=zai hu
  exact ⟨fun h=>h.elim hc fun h=>by omega,(hbl.cell (p:=⟨c,o',none⟩) hcl).trans hu⟩
 have HC:=zh (zch (S1 S (w.heap.size+1)) f _ W0.heap.size W0 hS1 (hfv.shown hshow hbl.size) qzL hsh hal)
 have HBX:=zh hbx
 have HFX:=zh hfx
 have HBL:=zh hbl
 have HW0:=zh hW0
 have HLT:=zh hbw
 have HB:=zh hb
 have HS1:=zh hS1
 have HFV:=zh (hfv.shown hshow hbl.size)
 have HLV:=zh (hv.shown hshow hbl.size)
 have HX:=zh (hx.keep hbl)
 have HX0:=zh hx
 have HV:=zh hV
 have HL:=zh hl
 have HF:=zh hF
 have HR:=zh hr
 obtain ⟨q0,q1,q2,q3,q4⟩:=hfx.cells
 have ql:=hfx.lt
 obtain ⟨fo,hfo⟩:∃fo,Sy.formals f=fo:=⟨_,rfl⟩
 rw[hfo] at HC HR
 clear hbx hfx hbl hW0 hbw hb hS1 hfv hv hx hV hl hF hr hS hsh hal hshow hfo
 go_enter func85,ntmps85
 go_upto_region 1 with fail
 rw[HW0.out]
 cases fo
 ·have hrn:r=none:=(Option.some.inj HR.out).symm
  subst hrn
  go_wp2_with (first | (go_at_call 75;refine HC.out.mono ?_;rintro e' w1 ⟨rfl,hb1⟩) | (go_at_call 30;refine (zaf _).mono ?_;rintro e' w2 ⟨rfl,rfl⟩) | fail)
  exact ⟨rfl,rfl,Turned.of_below (HBL.out.trans (hb1.mono HBL.out.size))⟩
 ·go_upto_region 2 with (first | (go_at_call 75;refine HC.out.mono ?_;rintro e' w1 ⟨rfl,hb1⟩) | (go_at_call 30;refine (zah _).mono ?_;rintro e' w2 ⟨⟨v2,rfl⟩,rfl⟩) | fail)
  obtain ⟨q,hq⟩:∃q,F l n=q:=⟨_,rfl⟩
  match q,hq with
  | none,hq=>
   have h:=HR.out
   unfold Sy.need Sy.bnd at h
   rw[if_pos rfl,hq] at h
   cases h
  | some p,hq=>
  obtain ⟨y,n2,hy⟩:∃y n2,∀z,p=some z->z=(y,n2):=by
   match p with
   | none=>exact ⟨Dat.null,0,fun _ h=>by cases h⟩
   | some (y,n2)=>exact ⟨y,n2,fun z h=>(Option.some.inj h).symm⟩
  have hb0:Below w.heap.size w w2:=HBL.out.trans (hb1.mono HBL.out.size)
  have hFX2:Box5 w2 w.heap.size 26 (.int .i64 k) (.int .i64 m) (.int .i64 d) (.string st) (.slice o len cap):=(hb1.block _ HFX.out.lt).trans HFX.out
  have hd2:Below w2.heap.size w2 w2.drew:=(Below.refl w2.heap.size w2).drew
  have hxd:XP w2.drew b n:=(show XP W0 b n from HX.out).keepB hb1 |>.keepB hd2
  have HTB:=zh (show ∀w3,Turned (fun c=>c=b) w2.drew w3->Turned (fun c=>c=b) W0 w3 from fun w3 h=>((Turned.of_below hb1).next (Turned.of_below hd2)).next h)
  have HT0:=zh (show Turned (fun c=>c=b) w W0 from Turned.of_below HBL.out)
  have HSH:=zh (show ∀w3,Turned (fun c=>c=b) W0 w3->Shown W0 (S1 S (w.heap.size+1)) w3 (S1 S (w.heap.size+1)) from fun w3 h=>Shown.turned h fun c _ hc=>by subst hc;exact .inl HB.out)
  have HQ:=zh hq
  have HY:=zh hy
  have HFD:=zh (show ∀w3,Turned (fun c=>c=b) W0 w3->Box5 w3 w.heap.size 26 (.int .i64 k) (.int .i64 m) (.int .i64 d) (.string st) (.slice o len cap) from fun w3 h=>(h.block _ HFX.out.lt (by have:=HLT.out;omega)).trans HFX.out)
  clear hq hy q0 q1 q2 q3 q4 ql hFX2
  refine zcC (b:=b) 6 [3] (fun j=>if j=0 then n else n2) (LaR (S1 S (w.heap.size+1)) (.agg #[.int .i64 k,.int .i64 m,.int .i64 d,.string st,.slice o len cap]) (.pointer (some ⟨b,0,none⟩)) sl f y (p=some (y,n2))) (by kernel_rfl) (by show monoB _ 6 16=true;kernel_rfl) (by decide) (by decide) ?hch hxd (fun i v A B _ h _ ht=>zkn (.inl HB.out) i v A B h ht) ?hops ?hcall ?hend
  case hch=>
   intro j p1 p2 h1 h2
   rcases j with _ | j<;>simp at h2
  case hops=>
   intro i o8 hi hip ho hgd a w3 hdf hsz hex jb ja
   have ht3:=HTB.out w3 hex
   match i,hi,hip with
   | 0,_,_=>
    cases ho
    have h4:a.tmps.getD 4 undef=.pointer (some ⟨w.heap.size,0,none⟩):=ja.at 4 (by kernel_rfl)
    have hfb:=HFD.out w3 ht3
    obtain ⟨q0,q1,q2,q3,q4⟩:=hfb.cells
    have ql:=hfb.lt
    exact za3 (v:=.agg #[.int .i64 k,.int .i64 m,.int .i64 d,.string st,.slice o len cap]) (w':=w3) (by go_simp) rfl qzB
   | 1,_,_=>
    cases ho
    have h0:a.tmps.getD 0 undef=.pointer (some ⟨b,0,none⟩):=ja.at 0 (by kernel_rfl)
    exact za3 (v:=.pointer (some ⟨b,0,none⟩)) (w':=w3) (by go_simp) rfl qzB
   | 2,_,_=>
    cases ho
    have h2:a.tmps.getD 2 undef=sl:=ja.at 2 (by kernel_rfl)
    exact za3 (v:=sl) (w':=w3) (by go_simp) rfl qzB
   | 3,_,h=>exact absurd (by decide) h
   | 4,_,_=>
    cases ho
    have h10:a.tmps.getD 10 undef=.agg #[.int .i64 k,.int .i64 m,.int .i64 d,.string st,.slice o len cap]:=zaX jb 0 10 (by kernel_rfl)
    obtain ⟨hok,h13⟩:p=some (y,n2)∧RepD (hide w3 (S1 S (w.heap.size+1))) w3.heap.size y (a.tmps.getD 13 undef):=zaX jb 3 13 (by kernel_rfl)
    obtain ⟨k8,m8,d8,s8,o9,len8,cap8,h8⟩:=zae h13.unhide
    rw[h8] at h13
    exact za3 (zcE rfl h10 h8) ⟨hok,zbs (W:=w3) (n:=2) (cs:=[.int .i64 k,.int .i64 m,.int .i64 d,.string st,.slice o len cap,.int .i64 k8,.int .i64 m8,.int .i64 d8,.string s8,.slice o9 len8 cap8]) rfl (by omega) (fun c hc=>qzM (HS1.out c hc) ht3.size) ⟨_,_,_,_,_,_,rfl,HFV.out.shown (HSH.out w3 ht3) ht3.size,_,_,_,_,_,_,rfl,h13,rfl⟩⟩ (Below.one _ _)
   | 5,_,_=>
    cases ho
    obtain ⟨hok,h14⟩:p=some (y,n2)∧RepS (hide w3 (S1 S (w.heap.size+1))) w3.heap.size [f,y] (a.tmps.getD 14 undef):=zaX jb 4 14 (by kernel_rfl)
    refine zbe (vals:=#[.string Sy.lambdaB,a.tmps.getD 14 undef]) rfl (by simp only[List.map_toArray,List.map_cons,List.map_nil];rfl) (fun _ _=>rfl) (zbD (S1 S (w.heap.size+1)) Sy.lambdaB (by decide) [f,y] _ _ w3 (fun c hc=>qzM (HS1.out c hc) ht3.size) h14 qzL (by simp)) ?_
    rintro e w' ⟨v,rfl,hv1,hv2⟩
    exact .inl ⟨v,rfl,v,rfl,⟨hok,hv1⟩,hv2⟩
  case hcall=>
   intro j i o8 hj ho hgd a w3 hdf hsz hex hxp jb ja
   have ht3:=HTB.out w3 hex
   have hj0:j=0:=by
    rcases j with _ | j
    ·rfl
    ·simp at hj
   subst hj0
   obtain rfl:3=i:=Option.some.inj hj
   cases ho
   have h11:a.tmps.getD 11 undef=.pointer (some ⟨b,0,none⟩):=zaX jb 1 11 (by kernel_rfl)
   have h12:a.tmps.getD 12 undef=sl:=zaX jb 2 12 (by kernel_rfl)
   refine zbe (vals:=#[.pointer (some ⟨b,0,none⟩),sl]) rfl (by simp only[List.map_toArray,List.map_cons,List.map_nil];rw[<-h11,<-h12];rfl) (fun _ _=>rfl) (HF.out (S1 S (w.heap.size+1)) b n l sl w3 p HQ.out (fun c hc=>qzM (HS1.out c hc) ht3.size) (.inl HB.out) hxp (Env.turned HV.out HX0.out (HT0.out.next ht3)) (HLV.out.shown (HSH.out w3 ht3) ht3.size) HL.out) ?_
   intro e w' he
   match p,HY.out,HR,HQ with
   | none,_,HR,HQ=>
    obtain ⟨rfl,ht4⟩:=he
    refine .inr ⟨_,rfl,?_⟩
    have hrn:r=none:=by
     have h:=HR.out
     unfold Sy.need Sy.bnd at h
     rw[if_pos rfl,HQ.out] at h
     exact (Option.some.inj h).symm
    subst hrn
    exact ⟨hdf,rfl,(HT0.out.next ht3).next ht4⟩
   | some z,hy,_,_=>
    obtain rfl:=hy z rfl
    obtain ⟨v,rfl,hv1,hv2,hv3⟩:=he
    exact .inl ⟨v,rfl,v,rfl,⟨rfl,hv1⟩,hv2,hv3⟩
  case hend=>
   intro a w3 hdf hsz hex hxp hval ja
   have ht3:=HTB.out w3 hex
   obtain ⟨hok,h15⟩:p=some (y,n2)∧RepD (hide w3 (S1 S (w.heap.size+1))) w3.heap.size (Sy.form Sy.lambdaB [f,y]) (a.tmps.getD 15 undef):=hval 5 _ 15 (by omega) rfl rfl
   have hrn:r=some (Sy.form Sy.lambdaB [f,y],n2):=by
    have h:=HR.out
    unfold Sy.need Sy.bnd at h
    rw[if_pos rfl,HQ.out,hok] at h
    exact (Option.some.inj h).symm
   subst hrn
   obtain ⟨f8,ha,hf8⟩:=zaq [false,false,false,false,false,false,false,false,false,false,true,true,true,true,true,true] (by kernel_rfl) hdf hsz ja
   rw[<-hf8] at h15
   subst ha
   obtain ⟨k8,m8,d8,s8,o9,len8,cap8,h8⟩:=zae h15.unhide
   rw[h8] at h15
   have hx8:Box5 w3 (w.heap.size+1) 26 (.int .i64 0) (.int .i64 0) (.int .i64 0) (.string ⟨#[]⟩) (.slice none 0 0):=(ht3.block _ HBX.out.lt (by have:=HLT.out;omega)).trans HBX.out
   obtain ⟨p0,p1,p2,p3,p4⟩:=hx8.cells
   obtain ⟨z0,z1,z2,z3,z4⟩:=hx8.free
   have pl:=hx8.lt
   have HX8:=zh hx8
   have H15:=zh h15
   have HXP:=zh (show XP w3 b n2 from hxp)
   have HT3:=zh ht3
   clear hval ja hf8 hex hdf hsz h15 hx8 hxp ht3
   simp only[spellH,List.drop_succ_cons,List.drop_zero,h8]
   go_wp2_with fail
   have HR5:=zh (HX8.out.set (.int .i64 k8) (.int .i64 m8) (.int .i64 d8) (.string s8) (.slice o9 len8 cap8))
   obtain ⟨r0,r1,r2,r3,r4⟩:=HR5.out.cells
   refine bodyPost_ret (v:=.agg #[.int .i64 k8,.int .i64 m8,.int .i64 d8,.string s8,.slice o9 len8 cap8]) (by simp[results,results85,go_sem,r0,r1,r2,r3,r4]) rfl ?_
   exact zb8 (Nat.le_succ _) HLT.out (HT0.out.next HT3.out) H15.out HXP.out
end
section
open Go Go.RowKit
def OvR (S:Nat->Prop) (vv bv av pv:Value) (x y z:Dat) (ok:Prop) (i:Nat) (v:Value) (W:World):Prop:=match i with
 | 0=>v=vv
 | 1=>RepS (hide W S) W.heap.size [x] v
 | 2=>RepD (hide W S) W.heap.size (Dat.list [x]) v
 | 3=>v=bv
 | 4=>RepS (hide W S) W.heap.size [Dat.list [x],y] v
 | 5=>RepD (hide W S) W.heap.size (Sy.form Sy.lambdaB [Dat.list [x],y]) v
 | 6=>v=pv
 | 7=>v=av
 | 8=>ok∧RepD (hide W S) W.heap.size z v
 | 9=>ok∧RepS (hide W S) W.heap.size [Sy.form Sy.lambdaB [Dat.list [x],y],z] v
 | 10=>ok∧RepD (hide W S) W.heap.size (Dat.list [Sy.form Sy.lambdaB [Dat.list [x],y],z]) v
 | _=>True
theorem zk5 {S:Nat->Prop} {vv bv av pv:Value} {x y z:Dat} {ok:Prop} {b:Nat} (hb:S b):∀i v (A B:World),OvR S vv bv av pv x y z ok i v A->Turned (fun c=>c=b) A B->OvR S vv bv av pv x y z ok i v B:=by
 intro i v A B h ht
 have hs:Shown A S B S:=Shown.turned ht fun c _ h=>by subst h;exact hb
 match i,h with
 | 0,h | 3,h | 6,h | 7,h=>exact h
 | 1,h=>exact RepS.shown h hs ht.size
 | 4,h=>exact RepS.shown h hs ht.size
 | 2,h=>exact RepD.shown h hs ht.size
 | 5,h=>exact RepD.shown h hs ht.size
 | 8,h=>exact ⟨h.1,h.2.shown hs ht.size⟩
 | 9,h=>exact ⟨h.1,h.2.shown hs ht.size⟩
 | 10,h=>exact ⟨h.1,h.2.shown hs ht.size⟩
 | _+11,_=>exact trivial
theorem zb6 {E:Dat->Sy.M Dat} (hE:EOk E) (S:Nat->Prop) (b n:Nat) (x y a:Dat) (xv yv av:Value) (w:World) (r:Option (Dat × Nat)) (hr:Sy.over E x y a n=some r) (hS:∀c,S c->c<w.heap.size) (hb:S b) (hx:XP w b n) (hV:Env w) (hxv:RepD (hide w S) w.heap.size x xv) (hyv:RepD (hide w S) w.heap.size y yv) (hav:RepD (hide w S) w.heap.size a av) :
  Calls prog 144 #[.pointer (some ⟨b,0,none⟩),xv,yv,av] w (XRes S b r w):=by
 obtain ⟨k1,m1,d1,s1,o1,len1,cap1,rfl⟩:=zae hxv.unhide
 obtain ⟨k2,m2,d2,s2,o2,len2,cap2,rfl⟩:=zae hyv.unhide
 obtain ⟨k3,m3,d3,s3,o3,len3,cap3,rfl⟩:=zae hav.unhide
 obtain ⟨V1,hV1⟩:∃V1,w.alloc (.cells #[.int .i64 k1,.int .i64 m1,.int .i64 d1,.string s1,.slice o1 len1 cap1] 26)=V1:=⟨_,rfl⟩
 obtain ⟨V2,hV2⟩:∃V2,V1.alloc (.cells #[.int .i64 k2,.int .i64 m2,.int .i64 d2,.string s2,.slice o2 len2 cap2] 26)=V2:=⟨_,rfl⟩
 obtain ⟨V3,hV3⟩:∃V3,V2.alloc (.cells #[.int .i64 k3,.int .i64 m3,.int .i64 d3,.string s3,.slice o3 len3 cap3] 26)=V3:=⟨_,rfl⟩
 obtain ⟨W0,hW0⟩:∃W0,V3.alloc (.cells #[.int .i64 0,.int .i64 0,.int .i64 0,.string ⟨#[]⟩,.slice none 0 0] 26)=W0:=⟨_,rfl⟩
 have z1:V1.heap.size=w.heap.size+1:=by rw[<-hV1];simp
 have z2:V2.heap.size=w.heap.size+2:=by rw[<-hV2];simp[z1]
 have z3:V3.heap.size=w.heap.size+3:=by rw[<-hV3];simp[z2]
 have c1:Below w.heap.size w V1:=by rw[<-hV1];exact Below.one _ _
 have c2:Below V1.heap.size V1 V2:=by rw[<-hV2];exact Below.one _ _
 have c3:Below V2.heap.size V2 V3:=by rw[<-hV3];exact Below.one _ _
 have c4:Below V3.heap.size V3 W0:=by rw[<-hW0];exact Below.one _ _
 have hfx1:Box5 W0 w.heap.size 26 (.int .i64 k1) (.int .i64 m1) (.int .i64 d1) (.string s1) (.slice o1 len1 cap1):=(c4.block _ (by omega)).trans ((c3.block _ (by omega)).trans ((c2.block _ (by omega)).trans (by rw[<-hV1];exact Box5.new w _ _ _ _ _ _)))
 have hfx2:Box5 W0 (w.heap.size+1) 26 (.int .i64 k2) (.int .i64 m2) (.int .i64 d2) (.string s2) (.slice o2 len2 cap2):=(c4.block _ (by omega)).trans ((c3.block _ (by omega)).trans (by rw[<-hV2,<-z1];exact Box5.new V1 _ _ _ _ _ _))
 have hfx3:Box5 W0 (w.heap.size+2) 26 (.int .i64 k3) (.int .i64 m3) (.int .i64 d3) (.string s3) (.slice o3 len3 cap3):=(c4.block _ (by omega)).trans (by rw[<-hV3,<-z2];exact Box5.new V2 _ _ _ _ _ _)
 have hbx:Box5 W0 (w.heap.size+3) 26 (.int .i64 0) (.int .i64 0) (.int .i64 0) (.string ⟨#[]⟩) (.slice none 0 0):=by rw[<-hW0,<-z3];exact Box5.new V3 _ _ _ _ _ _
 have hbl:Below w.heap.size w W0:=c1.trans ((c2.mono (by omega)).trans ((c3.mono (by omega)).trans (c4.mono (by omega))))
 have hW:(((w.alloc (.cells #[.int .i64 k1,.int .i64 m1,.int .i64 d1,.string s1,.slice o1 len1 cap1] 26)).alloc (.cells #[.int .i64 k2,.int .i64 m2,.int .i64 d2,.string s2,.slice o2 len2 cap2] 26)).alloc (.cells #[.int .i64 k3,.int .i64 m3,.int .i64 d3,.string s3,.slice o3 len3 cap3] 26)).alloc (.cells #[.int .i64 0,.int .i64 0,.int .i64 0,.string ⟨#[]⟩,.slice none 0 0] 26)=W0:=by rw[hV1,hV2,hV3,hW0]
 clear hV1 hV2 hV3 hW0 c1 c2 c3 c4 z1 z2 z3
 clear V1 V2 V3
 have hbw:b<w.heap.size:=hS b hb
 have hS1:∀c,S1 S (w.heap.size+3) c->c<W0.heap.size:=fun c hc=>hc.elim (fun h=>qzM (hS c h) hbl.size) fun h=>by subst h;exact hbx.lt
 have hshow:Shown w S W0 (S1 S (w.heap.size+3)):=fun c o' u hc hu=>by
  have hcl:=zai hu
  exact ⟨fun h=>h.elim hc fun h=>by omega,(hbl.cell (p:=⟨c,o',none⟩) hcl).trans hu⟩
 have HBX:=zh hbx
 have HF1:=zh hfx1
 have HF2:=zh hfx2
 have HF3:=zh hfx3
 have HBL:=zh hbl
 have HW0:=zh hW
 have HLT:=zh hbw
 have HB:=zh hb
 have HS1:=zh hS1
 have HXV:=zh (hxv.shown hshow hbl.size)
 have HYV:=zh (hyv.shown hshow hbl.size)
 have HAV:=zh (hav.shown hshow hbl.size)
 have HX:=zh (show XP W0 b n from hx.keep hbl)
 have HX0:=zh hx
 have HV:=zh hV
 have HE:=zh hE
 have HR:=zh hr
 clear hbx hfx1 hfx2 hfx3 hbl hW hbw hb hS1 hxv hyv hav hx hV hE hr hS hshow
 go_enter func144,ntmps144
 go_upto_region 1 with fail
 rw[HW0.out]
 obtain ⟨q,hq⟩:∃q,E a n=q:=⟨_,rfl⟩
 match q,hq with
 | none,hq=>
  have h:=HR.out
  unfold Sy.over Sy.bnd at h
  rw[hq] at h
  cases h
 | some p,hq=>
  obtain ⟨z,n2,hy⟩:∃z n2,∀u,p=some u->u=(z,n2):=by
   match p with
   | none=>exact ⟨Dat.null,0,fun _ h=>by cases h⟩
   | some (z,n2)=>exact ⟨z,n2,fun u h=>(Option.some.inj h).symm⟩
  have hd2:Below W0.heap.size W0 W0.drew:=(Below.refl W0.heap.size W0).drew
  have hxd:XP W0.drew b n:=HX.out.keepB hd2
  have HTB:=zh (show ∀w3,Turned (fun c=>c=b) W0.drew w3->Turned (fun c=>c=b) W0 w3 from fun w3 h=>(Turned.of_below hd2).next h)
  have HT0:=zh (show Turned (fun c=>c=b) w W0 from Turned.of_below HBL.out)
  have HSH:=zh (show ∀w3,Turned (fun c=>c=b) W0 w3->Shown W0 (S1 S (w.heap.size+3)) w3 (S1 S (w.heap.size+3)) from fun w3 h=>Shown.turned h fun c _ hc=>by subst hc;exact .inl HB.out)
  have HQ:=zh hq
  have HY:=zh hy
  have HD1:=zh (show ∀w3,Turned (fun c=>c=b) W0 w3->Box5 w3 (w.heap.size) 26 (.int .i64 k1) (.int .i64 m1) (.int .i64 d1) (.string s1) (.slice o1 len1 cap1) from fun w3 h=>(h.block _ HF1.out.lt (by have:=HLT.out;omega)).trans HF1.out)
  have HD2:=zh (show ∀w3,Turned (fun c=>c=b) W0 w3->Box5 w3 (w.heap.size+1) 26 (.int .i64 k2) (.int .i64 m2) (.int .i64 d2) (.string s2) (.slice o2 len2 cap2) from fun w3 h=>(h.block _ HF2.out.lt (by have:=HLT.out;omega)).trans HF2.out)
  have HD3:=zh (show ∀w3,Turned (fun c=>c=b) W0 w3->Box5 w3 (w.heap.size+2) 26 (.int .i64 k3) (.int .i64 m3) (.int .i64 d3) (.string s3) (.slice o3 len3 cap3) from fun w3 h=>(h.block _ HF3.out.lt (by have:=HLT.out;omega)).trans HF3.out)
  clear hq hy
  refine zcC (b:=b) 11 [8] (fun j=>if j=0 then n else n2) (OvR (S1 S (w.heap.size+3)) (.agg #[.int .i64 k1,.int .i64 m1,.int .i64 d1,.string s1,.slice o1 len1 cap1]) (.agg #[.int .i64 k2,.int .i64 m2,.int .i64 d2,.string s2,.slice o2 len2 cap2]) (.agg #[.int .i64 k3,.int .i64 m3,.int .i64 d3,.string s3,.slice o3 len3 cap3]) (.pointer (some ⟨b,0,none⟩)) x y z (p=some (z,n2))) (by kernel_rfl) (by show monoB _ 11 20=true;kernel_rfl) (by decide) (by decide) ?hch hxd (fun i v A B _ h _ ht=>zk5 (.inl HB.out) i v A B h ht) ?hops ?hcall ?hend
  case hch=>
   intro j p1 p2 h1 h2
   rcases j with _ | j<;>simp at h2
  case hops=>
   intro i o8 hi hip ho hgd a8 w3 hdf hsz hex jb ja
   have ht3:=HTB.out w3 hex
   match i,hi,hip with
   | 0,_,_=>
     cases ho
     have h5:a8.tmps.getD 5 undef=.pointer (some ⟨w.heap.size,0,none⟩):=ja.at 5 (by kernel_rfl)
     have hfb:=HD1.out w3 ht3
     obtain ⟨q0,q1,q2,q3,q4⟩:=hfb.cells
     have ql:=hfb.lt
     exact za3 (v:=.agg #[.int .i64 k1,.int .i64 m1,.int .i64 d1,.string s1,.slice o1 len1 cap1]) (w':=w3) (by go_simp) rfl qzB
   | 1,_,_=>
     cases ho
     have h9:a8.tmps.getD 9 undef=.agg #[.int .i64 k1,.int .i64 m1,.int .i64 d1,.string s1,.slice o1 len1 cap1]:=zaX jb 0 9 (by kernel_rfl)
     exact za3 (zd8 rfl h9) (zax (fun c hc=>qzM (HS1.out c hc) ht3.size) (HXV.out.shown (HSH.out w3 ht3) ht3.size)) (Below.one _ _)
   | 2,_,_=>
     cases ho
     have h10:RepS (hide w3 (S1 S (w.heap.size+3))) w3.heap.size [x] (a8.tmps.getD 10 undef):=zaX jb 1 10 (by kernel_rfl)
     refine zbe (vals:=#[a8.tmps.getD 10 undef]) rfl (by simp only[List.map_toArray,List.map_cons,List.map_nil];rfl) (fun _ _=>rfl) (zaW (S1 S (w.heap.size+3)) [x] _ _ w3 (fun c hc=>qzM (HS1.out c hc) ht3.size) h10 qzL) ?_
     rintro e w' ⟨v,rfl,hv1,hv2⟩
     exact .inl ⟨v,rfl,v,rfl,hv1,hv2⟩
   | 3,_,_=>
     cases ho
     have h6:a8.tmps.getD 6 undef=.pointer (some ⟨w.heap.size+1,0,none⟩):=ja.at 6 (by kernel_rfl)
     have hfb:=HD2.out w3 ht3
     obtain ⟨q0,q1,q2,q3,q4⟩:=hfb.cells
     have ql:=hfb.lt
     exact za3 (v:=.agg #[.int .i64 k2,.int .i64 m2,.int .i64 d2,.string s2,.slice o2 len2 cap2]) (w':=w3) (by go_simp) rfl qzB
   | 4,_,_=>
     cases ho
     have h12:a8.tmps.getD 12 undef=.agg #[.int .i64 k2,.int .i64 m2,.int .i64 d2,.string s2,.slice o2 len2 cap2]:=zaX jb 3 12 (by kernel_rfl)
     have h11:RepD (hide w3 (S1 S (w.heap.size+3))) w3.heap.size (Dat.list [x]) (a8.tmps.getD 11 undef):=zaX jb 2 11 (by kernel_rfl)
     obtain ⟨k8,m8,d8,s8,o8,len8,cap8,e8⟩:=zae h11.unhide
     rw[e8] at h11
     exact za3 (zcE rfl e8 h12) (zbs (W:=w3) (n:=2) (cs:=[.int .i64 k8,.int .i64 m8,.int .i64 d8,.string s8,.slice o8 len8 cap8,.int .i64 k2,.int .i64 m2,.int .i64 d2,.string s2,.slice o2 len2 cap2]) rfl (by omega) (fun c hc=>qzM (HS1.out c hc) ht3.size) ⟨_,_,_,_,_,_,rfl,h11,_,_,_,_,_,_,rfl,HYV.out.shown (HSH.out w3 ht3) ht3.size,rfl⟩) (Below.one _ _)
   | 5,_,_=>
     cases ho
     have h13:RepS (hide w3 (S1 S (w.heap.size+3))) w3.heap.size [Dat.list [x],y] (a8.tmps.getD 13 undef):=zaX jb 4 13 (by kernel_rfl)
     refine zbe (vals:=#[.string Sy.lambdaB,a8.tmps.getD 13 undef]) rfl (by simp only[List.map_toArray,List.map_cons,List.map_nil];rfl) (fun _ _=>rfl) (zbD (S1 S (w.heap.size+3)) Sy.lambdaB (by decide) [Dat.list [x],y] _ _ w3 (fun c hc=>qzM (HS1.out c hc) ht3.size) h13 qzL (by simp)) ?_
     rintro e w' ⟨v,rfl,hv1,hv2⟩
     exact .inl ⟨v,rfl,v,rfl,hv1,hv2⟩
   | 6,_,_=>
     cases ho
     have h0:a8.tmps.getD 0 undef=.pointer (some ⟨b,0,none⟩):=ja.at 0 (by kernel_rfl)
     exact za3 (v:=.pointer (some ⟨b,0,none⟩)) (w':=w3) (by go_simp) rfl qzB
   | 7,_,_=>
     cases ho
     have h7:a8.tmps.getD 7 undef=.pointer (some ⟨w.heap.size+2,0,none⟩):=ja.at 7 (by kernel_rfl)
     have hfb:=HD3.out w3 ht3
     obtain ⟨q0,q1,q2,q3,q4⟩:=hfb.cells
     have ql:=hfb.lt
     exact za3 (v:=.agg #[.int .i64 k3,.int .i64 m3,.int .i64 d3,.string s3,.slice o3 len3 cap3]) (w':=w3) (by go_simp) rfl qzB
   | 8,_,h=>exact absurd (by decide) h
   | 9,_,_=>
     cases ho
     have h14:RepD (hide w3 (S1 S (w.heap.size+3))) w3.heap.size (Sy.form Sy.lambdaB [Dat.list [x],y]) (a8.tmps.getD 14 undef):=zaX jb 5 14 (by kernel_rfl)
     obtain ⟨hok,h17⟩:p=some (z,n2)∧RepD (hide w3 (S1 S (w.heap.size+3))) w3.heap.size z (a8.tmps.getD 17 undef):=zaX jb 8 17 (by kernel_rfl)
     obtain ⟨k8,m8,d8,s8,u8,len8,cap8,e8⟩:=zae h14.unhide
     rw[e8] at h14
     obtain ⟨k9,m9,d9,s9,o9,len9,cap9,e9⟩:=zae h17.unhide
     rw[e9] at h17
     exact za3 (zcE rfl e8 e9) ⟨hok,zbs (W:=w3) (n:=2) (cs:=[.int .i64 k8,.int .i64 m8,.int .i64 d8,.string s8,.slice u8 len8 cap8,.int .i64 k9,.int .i64 m9,.int .i64 d9,.string s9,.slice o9 len9 cap9]) rfl (by omega) (fun c hc=>qzM (HS1.out c hc) ht3.size) ⟨_,_,_,_,_,_,rfl,h14,_,_,_,_,_,_,rfl,h17,rfl⟩⟩ (Below.one _ _)
   | 10,_,_=>
     cases ho
     obtain ⟨hok,h18⟩:p=some (z,n2)∧RepS (hide w3 (S1 S (w.heap.size+3))) w3.heap.size [Sy.form Sy.lambdaB [Dat.list [x],y],z] (a8.tmps.getD 18 undef):=zaX jb 9 18 (by kernel_rfl)
     refine zbe (vals:=#[a8.tmps.getD 18 undef]) rfl (by simp only[List.map_toArray,List.map_cons,List.map_nil];rfl) (fun _ _=>rfl) (zaW (S1 S (w.heap.size+3)) [Sy.form Sy.lambdaB [Dat.list [x],y],z] _ _ w3 (fun c hc=>qzM (HS1.out c hc) ht3.size) h18 qzL) ?_
     rintro e w' ⟨v,rfl,hv1,hv2⟩
     exact .inl ⟨v,rfl,v,rfl,⟨hok,hv1⟩,hv2⟩
  case hcall=>
   intro j i o8 hj ho hgd a8 w3 hdf hsz hex hxp jb ja
   have ht3:=HTB.out w3 hex
   have hj0:j=0:=by
    rcases j with _ | j
    ·rfl
    ·simp at hj
   subst hj0
   obtain rfl:8=i:=Option.some.inj hj
   cases ho
   have h15:a8.tmps.getD 15 undef=.pointer (some ⟨b,0,none⟩):=zaX jb 6 15 (by kernel_rfl)
   have h16:a8.tmps.getD 16 undef=.agg #[.int .i64 k3,.int .i64 m3,.int .i64 d3,.string s3,.slice o3 len3 cap3]:=zaX jb 7 16 (by kernel_rfl)
   refine zbe (vals:=#[.pointer (some ⟨b,0,none⟩),.agg #[.int .i64 k3,.int .i64 m3,.int .i64 d3,.string s3,.slice o3 len3 cap3]]) rfl (by simp only[List.map_toArray,List.map_cons,List.map_nil];rw[<-h15,<-h16];rfl) (fun _ _=>rfl) (HE.out (S1 S (w.heap.size+3)) b n a _ w3 p HQ.out (fun c hc=>qzM (HS1.out c hc) ht3.size) (.inl HB.out) hxp (Env.turned HV.out HX0.out (HT0.out.next ht3)) (HAV.out.shown (HSH.out w3 ht3) ht3.size)) ?_
   intro e w' he
   match p,HY.out,HR,HQ with
   | none,_,HR,HQ=>
    obtain ⟨rfl,ht4⟩:=he
    refine .inr ⟨_,rfl,?_⟩
    have hrn:r=none:=by
     have h:=HR.out
     unfold Sy.over Sy.bnd at h
     rw[HQ.out] at h
     exact (Option.some.inj h).symm
    subst hrn
    exact ⟨hdf,rfl,(HT0.out.next ht3).next ht4⟩
   | some u,hy,_,_=>
    obtain rfl:=hy u rfl
    obtain ⟨v,rfl,hv1,hv2,hv3⟩:=he
    exact .inl ⟨v,rfl,v,rfl,⟨rfl,hv1⟩,hv2,hv3⟩
  case hend=>
   intro a8 w3 hdf hsz hex hxp hval ja
   have ht3:=HTB.out w3 hex
   obtain ⟨hok,h19⟩:p=some (z,n2)∧RepD (hide w3 (S1 S (w.heap.size+3))) w3.heap.size (Dat.list [Sy.form Sy.lambdaB [Dat.list [x],y],z]) (a8.tmps.getD 19 undef):=hval 10 _ 19 (by omega) rfl rfl
   have hrn:r=some (Dat.list [Sy.form Sy.lambdaB [Dat.list [x],y],z],n2):=by
    have h:=HR.out
    unfold Sy.over Sy.bnd at h
    rw[HQ.out,hok] at h
    exact (Option.some.inj h).symm
   subst hrn
   obtain ⟨f8,ha,hf8⟩:=zaq [false,false,false,false,false,false,false,false,false,true,true,true,true,true,true,true,true,true,true,true] (by kernel_rfl) hdf hsz ja
   rw[<-hf8] at h19
   subst ha
   obtain ⟨k8,m8,d8,s8,o9,len8,cap8,h8⟩:=zae h19.unhide
   rw[h8] at h19
   have hx8:Box5 w3 (w.heap.size+3) 26 (.int .i64 0) (.int .i64 0) (.int .i64 0) (.string ⟨#[]⟩) (.slice none 0 0):=(ht3.block _ HBX.out.lt (by have:=HLT.out;omega)).trans HBX.out
   obtain ⟨p0,p1,p2,p3,p4⟩:=hx8.cells
   obtain ⟨z0,z1,z2,z3,z4⟩:=hx8.free
   have pl:=hx8.lt
   have HX8:=zh hx8
   have H19:=zh h19
   have HXP:=zh (show XP w3 b n2 from hxp)
   have HT3:=zh ht3
   clear hval ja hf8 hex hdf hsz h19 hx8 hxp ht3
   simp only[spellH,List.drop_succ_cons,List.drop_zero,h8]
   go_wp2_with fail
   have HR5:=zh (HX8.out.set (.int .i64 k8) (.int .i64 m8) (.int .i64 d8) (.string s8) (.slice o9 len8 cap8))
   obtain ⟨r0,r1,r2,r3,r4⟩:=HR5.out.cells
   refine bodyPost_ret (v:=.agg #[.int .i64 k8,.int .i64 m8,.int .i64 d8,.string s8,.slice o9 len8 cap8]) (by simp[results,results144,go_sem,r0,r1,r2,r3,r4]) rfl ?_
   exact zb8 (by omega) HLT.out (HT0.out.next HT3.out) H19.out HXP.out
end
section
open Go Go.RowKit
namespace Sy
theorem zda:∀l:List Dat,split (Dat.list l)=(l,Dat.null)
 | []=>by rw[show Dat.list []=Dat.null from rfl,Dat.null,split_other (by decide)]
 | x::l=>by
  rw[show Dat.list (x::l)=Dat.pair x (Dat.list l) from rfl,Dat.pair,split_pair rfl,zda l]
theorem zc1:∀{l m:List Dat},l.length=m.length->bindsL (pairsL l m)=some (l,m)
 | [],[],_=>rfl
 | [],_::_,h=>by simp at h
 | _::_,[],h=>by simp at h
 | a::l,c::m,h=>by
  have ih:=zc1 (l:=l) (m:=m) (by simpa using h)
  rw[show pairsL (a::l) (c::m)=Dat.list [a,c]::pairsL l m from rfl]
  simp only[bindsL,zda]
  rw[if_pos (by rfl),ih]
  rfl
theorem zhu {l m:List Dat} (h:l.length=m.length):binds (pairs l m)=some (l,m):=by
 unfold binds pairs
 rw[zda,if_pos (by rfl)]
 exact zc1 h
theorem bindsL_len:∀{l ns vs:List Dat},bindsL l=some (ns,vs)->ns.length=l.length∧vs.length=l.length
 | [],ns,vs,h=>by
  simp only[bindsL,Option.some.injEq,Prod.mk.injEq] at h
  obtain ⟨rfl,rfl⟩:=h
  exact ⟨rfl,rfl⟩
 | x::l,ns,vs,h=>by
  simp only[bindsL] at h
  split at h
  ·split at h
   ·obtain ⟨p,hp,he⟩:=Option.map_eq_some_iff.1 h
    simp only[Prod.mk.injEq] at he
    obtain ⟨rfl,rfl⟩:=he
    have ih:=bindsL_len (ns:=p.1) (vs:=p.2) hp
    simp[ih.1,ih.2]
   ·cases h
  ·cases h
end Sy
end
section
open Go Go.RowKit
theorem zdK {S:Nat->Prop} {o:Oper} {a:Act} {w:World} {Q:Exit->Act->World->Prop} (s x:Operand)
  (ho:o.op=.call { callee:=.builtin .append,args:=#[s,x],argTypes:=#[22,22] }) (h:Dat) (k:List Dat) (p:Option Addr) (xv:Value) (hs:a.eval s=.slice p 1 1) (hx:a.eval x=xv) (h1:RepS (hide w S) w.heap.size [h] (.slice p 1 1)) (h2:RepS (hide w S) w.heap.size k xv) (hS:∀b,S b->b<w.heap.size) (hm:k.length<=999999) :
  o.wp prog a w (fun a' w'=>∃v,a'=a.put o.dst v∧RepS (hide w' S) w'.heap.size (h::k) v∧Below w.heap.size w w') Q:=by
 have h1':=h1
 obtain ⟨o1,l1,c1,he1,hl1,hc1,hm1,hr1⟩:=h1'
 simp only[Value.slice.injEq] at he1
 obtain ⟨rfl,rfl,rfl⟩:=he1
 obtain ⟨ox,lenx,capx,rfl,hlx,hcx,hmx,hrx⟩:=h2
 obtain ⟨i0,hi,hz0,hz1,hz2⟩:=info_parts zcm
 cases k with
 | nil=>
  have h0:lenx=0:=by simpa using hlx
  subst h0
  have hr:∀ty,(Builtin.append_ #[22,22] ty #[.slice p 1 1,.slice ox 0 capx]).run prog w=.ok (.slice p 1 1) w:=fun ty=>by
   cases p<;>cases ox<;>simp[go_sem,Builtin.append_,Builtin.firstCells,storeCells,Builtin.lenOf]
  unfold Oper.wp execOp
  simp only[ho,resolve,invoke,builtin,Sem.run_bind,Sem.run_pure,Result.andThen_ok,List.map_toArray,List.map_cons,List.map_nil,hs,hx,hr]
  exact ⟨_,rfl,h1,qzB⟩
 | cons y k=>
  cases p with
  | none=>exact absurd hr1.1 (by simp)
  | some ad=>
   cases ox with
   | none=>exact absurd hrx.1 (by simp)
   | some ax=>
    obtain ⟨hsp,hblk⟩:=hr1.1 (by simp)
    obtain ⟨blk,off,sp⟩:=ad
    obtain rfl:sp=none:=hsp
    obtain ⟨hspx,hblkx⟩:=hrx.1 (by simp)
    obtain ⟨blx,ofx,spx⟩:=ax
    obtain rfl:spx=none:=hspx
    obtain ⟨xs,k1,k2⟩:=zcP _ _ hr1.2
    obtain ⟨ys,m1,m2⟩:=zcP _ _ hrx.2
    have hrun:∀ty,∃v' w',(Builtin.append_ #[22,22] ty #[.slice (some ⟨blk,off,none⟩) 1 1,.slice (some ⟨blx,ofx,none⟩) lenx capx]).run prog w=.ok v' w'∧w'.ownsRow w.heap.size 26 5 v' (1+lenx) (xs++ys)∧w.grownBy w' none:=fun ty=>
     run_append_arg_grows w 22 ty 26 i0 (.agg #[.int .i64 0,.int .i64 0,.int .i64 0,.string ⟨#[]⟩,.slice none 0 0]) 5 64 underlying22 hi hz0 hz1 hz2 rfl (by decide) ⟨blk,off,none⟩ 1 1 xs (by rw[k1.length];rfl) (fun j u hu=>by have:=(zaa (k2 j u hu)).2;rcases j with _ | j<;>simpa[Addr.add] using this) ⟨blx,ofx,none⟩ lenx capx ys (by rw[m1.length,hlx]) (fun j u hu=>by have:=(zaa (m2 j u hu)).2;rcases j with _ | j<;>simpa[Addr.add] using this) (by rw[hlx];simp) (by rw[hlx];unfold maxLen;simp only[qzN] at hm ⊢;omega) (by rw[hlx];simp only[qzN] at hm ⊢;omega)
    obtain ⟨v',w',hr,hown,hgr⟩:=hrun o.type
    have hbl:Below w.heap.size w w':=⟨hgr.os,hgr.tape,hgr.output,hgr.size,fun c hc=>hgr.block c hc (by simp)⟩
    have sh:Shown w S w' S:=Shown.below hbl
    have ji:RepS (hide w' S) w'.heap.size (h::y::k) v':=by
     have hc:CellsD (hide w' S) w'.heap.size ([h]++(y::k)) (xs++ys):=zby (k1.shown sh hgr.size) (m1.shown sh hgr.size)
     have:=zbS (w:=hide w' S) (base:=w.heap.size) (B:=w'.heap.size) (l:=[h]++(y::k)) (zdF (by rw[List.length_append,<-hlx];exact hown) (fun g hg hs'=>by have:=(hown.lt g hg).1;have:=hS g hs';omega)) hc (by rw[za7];exact qzL)
     rwa[za7] at this
    clear hrun hr1 hrx hm hlx k1 k2 m1 m2
    unfold Oper.wp
    simp[execOp,ho,resolve,invoke,builtin,hs,hx,hr,Result.andThen]
    exact ⟨_,rfl,ji,hbl⟩
end
section
open Go Go.RowKit
theorem Sy.binds_len {x:Dat} {ns vs:List Dat} (h:Sy.binds x=some (ns,vs)):ns.length+1<=Dat.all x∧vs.length+1<=Dat.all x:=by
 unfold Sy.binds at h
 split at h
 ·have h1:=Sy.bindsL_len h
  have h2:=zaY x
  omega
 ·cases h
def LOk (L:Dat->List Dat->Sy.M Dat):Prop:=∀(S:Nat->Prop) (b n:Nat) (f:Dat) (fv:Value) (l:List Dat) (sl:Value) (w:World) (r:Option (Dat × Nat)),L f l n=some r->(∀c,S c->c<w.heap.size)->S b->XP w b n->Env w->RepD (hide w S) w.heap.size f fv->RepS (hide w S) w.heap.size l sl ->
 Calls prog 85 #[.pointer (some ⟨b,0,none⟩),fv,sl] w (XRes S b r w)
def LeR (S:Nat->Prop) (hv pv vv:Value) (h:Dat) (ys:List Dat) (ok:Prop) (i:Nat) (v:Value) (W:World):Prop:=match i with
 | 0=>v=hv
 | 1=>(∃p,v=.slice p 1 1)∧RepS (hide W S) W.heap.size [h] v
 | 2=>v=pv
 | 3=>v=vv
 | 4=>ok∧RepS (hide W S) W.heap.size ys v
 | 5=>ok∧RepS (hide W S) W.heap.size (h::ys) v
 | 6=>ok∧RepD (hide W S) W.heap.size (Dat.list (h::ys)) v
 | _=>True
theorem zkV {S:Nat->Prop} {hv pv vv:Value} {h:Dat} {ys:List Dat} {ok:Prop} {b:Nat} (hb:S b):∀i v (A B:World),LeR S hv pv vv h ys ok i v A->Turned (fun c=>c=b) A B->LeR S hv pv vv h ys ok i v B:=by
 intro i v A B h ht
 have hs:Shown A S B S:=Shown.turned ht fun c _ h=>by subst h;exact hb
 match i,h with
 | 0,h | 2,h | 3,h=>exact h
 | 1,h=>exact ⟨h.1,h.2.shown hs ht.size⟩
 | 4,h=>exact ⟨h.1,h.2.shown hs ht.size⟩
 | 5,h=>exact ⟨h.1,h.2.shown hs ht.size⟩
 | 6,h=>exact ⟨h.1,h.2.shown hs ht.size⟩
 | _+7,_=>exact trivial
theorem zhz {E:Dat->Sy.M Dat} {L:Dat->List Dat->Sy.M Dat} (hE:EOk E) (hL:LOk L) (S:Nat->Prop) (b n:Nat) (x:Dat) (xv:Value) (l:List Dat) (sl:Value) (w:World) (r:Option (Dat × Nat)) (hr:Sy.orBad (Sy.binds x) (fun names values=>Sy.letF E L names values l) n=some r) (hS:∀c,S c->c<w.heap.size) (hb:S b) (hx:XP w b n) (hV:Env w) (hxv:RepD (hide w S) w.heap.size x xv) (hsh:Dat.shaped x=true) (hal:Dat.all x<=100000) (hv:RepS (hide w S) w.heap.size l sl) :
  Calls prog 108 #[.pointer (some ⟨b,0,none⟩),xv,sl] w (XRes S b r w):=by
 obtain ⟨k,m,d,st,o,len,cap,rfl⟩:=zae hxv.unhide
 obtain ⟨W0,hW0⟩:∃W0,(w.alloc (.cells #[.int .i64 k,.int .i64 m,.int .i64 d,.string st,.slice o len cap] 26)).alloc (.cells #[.int .i64 0,.int .i64 0,.int .i64 0,.string ⟨#[]⟩,.slice none 0 0] 26)=W0:=⟨_,rfl⟩
 have hbx:Box5 W0 (w.heap.size+1) 26 (.int .i64 0) (.int .i64 0) (.int .i64 0) (.string ⟨#[]⟩) (.slice none 0 0):=by rw[<-hW0];have:=Box5.new (w.alloc (.cells #[.int .i64 k,.int .i64 m,.int .i64 d,.string st,.slice o len cap] 26)) 26 (.int .i64 0) (.int .i64 0) (.int .i64 0) (.string ⟨#[]⟩) (.slice none 0 0);rwa[World.size_alloc] at this
 have hfx:Box5 W0 w.heap.size 26 (.int .i64 k) (.int .i64 m) (.int .i64 d) (.string st) (.slice o len cap):=by rw[<-hW0];exact (Box5.new w _ _ _ _ _ _).alloc _
 have hbl:Below w.heap.size w W0:=by rw[<-hW0];exact (Below.one w _).trans ((Below.one _ _).mono (by simp))
 have hbw:b<w.heap.size:=hS b hb
 have hS1:∀c,S1 S (w.heap.size+1) c->c<W0.heap.size:=fun c hc=>hc.elim (fun h=>qzM (hS c h) hbl.size) fun h=>by subst h;exact hbx.lt
 have hshow:Shown w S W0 (S1 S (w.heap.size+1)):=fun c o' u hc hu=>by
  have hcl:=zai hu
  exact ⟨fun h=>h.elim hc fun h=>by omega,(hbl.cell (p:=⟨c,o',none⟩) hcl).trans hu⟩
 have HC:=zh (zbv (S1 S (w.heap.size+1)) x _ W0.heap.size W0 hS1 (hxv.shown hshow hbl.size) qzL hsh hal)
 have HBX:=zh hbx
 have HBL:=zh hbl
 have HW0:=zh hW0
 have HLT:=zh hbw
 have HB:=zh hb
 have HS1:=zh hS1
 have HLV:=zh (hv.shown hshow hbl.size)
 have HX:=zh (show XP W0 b n from hx.keep hbl)
 have HX0:=zh hx
 have HV:=zh hV
 have HL:=zh hL
 have HE:=zh hE
 have HR:=zh hr
 have HAL:=zh hal
 have HSA:=zh (zaY x)
 obtain ⟨q0,q1,q2,q3,q4⟩:=hfx.cells
 have ql:=hfx.lt
 clear hbx hfx hbl hW0 hbw hb hS1 hxv hv hx hV hL hE hr hS hsh hal hshow
 go_enter func108,ntmps108
 go_upto_region 1 with fail
 rw[HW0.out]
 go_upto_region 2 with (first | (go_at_call 76;refine HC.out.mono ?_;rintro e' w1 ⟨ln,lv,vn,vv,ok,rfl,hg1,hg2,hb1,hok1,hok2, -⟩) | fail)
 have HT1:=zh (show Turned (fun c=>c=b) w w1 from Turned.of_below (HBL.out.trans (hb1.mono HBL.out.size)))
 cases ok
 ·have hbn:=hok2 rfl
  have hrn:r=none:=by
   have h:=HR.out
   rw[hbn] at h
   exact (Option.some.inj h).symm
  subst hrn
  go_wp2_with (first | (go_at_call 30;refine (zaf _).mono ?_;rintro e' w2 ⟨rfl,rfl⟩) | fail)
  exact ⟨rfl,rfl,HT1.out⟩
 ·have hbn:=hok1 rfl
  have HBL1:=zh (Sy.binds_len hbn)
  have HR2:=zh (show Sy.letF E L ln lv l n=some r from by have h:=HR.out;rw[hbn] at h;exact h)
  have HDI:=zh (zaM ln vn w1.heap.size w1 hg1.rep.unhide qzL (by have:=HBL1.out.1;have:=HAL.out;omega))
  have HG1:=zh hg1
  have HG2:=zh hg2
  have HB1:=zh hb1
  obtain ⟨di,hdi⟩:∃di,Sy.distinct ln=di:=⟨_,rfl⟩
  rw[hdi] at HDI
  clear hg1 hg2 hb1 hok1 hok2 hbn q0 q1 q2 q3 q4 ql
  cases di
  ·have hrn:r=none:=by
    have h:=HR2.out
    unfold Sy.letF Sy.need at h
    rw[hdi] at h
    exact (Option.some.inj h).symm
   subst hrn
   go_wp2_with (first | (go_at_call 49;refine HDI.out.mono ?_;rintro e' w2 ⟨rfl,hb2⟩) | (go_at_call 30;refine (zaf _).mono ?_;rintro e' w3 ⟨rfl,rfl⟩) | fail)
   exact ⟨rfl,rfl,HT1.out.next (Turned.of_below hb2)⟩
  ·go_upto_region 3 with (first | (go_at_call 49;refine HDI.out.mono ?_;rintro e' w2 ⟨rfl,hb2⟩) | (go_at_call 30;refine (zah _).mono ?_;rintro e' w3 ⟨⟨v3,rfl⟩,rfl⟩) | fail)
   have HT3:=zh (HT1.out.next (Turned.of_below hb2))
   have hz0:=HB1.out.size
   have hz2:=hb2.size
   have HX3:=zh (show XP w3 b n from (HX.out.keepB HB1.out).keepB hb2)
   have HN3:=zh (show RepS (hide w3 (S1 S (w.heap.size+1))) w3.heap.size ln vn from (HG1.out.less (S:=(S1 S (w.heap.size+1))) (fun c h=>.inl h) qzL).rep.shown (Shown.below hb2) hb2.size)
   have HV3:=zh (show RepS (hide w3 (S1 S (w.heap.size+1))) w3.heap.size lv vv from (HG2.out.less (S:=(S1 S (w.heap.size+1))) (fun c h=>.inl h) qzL).rep.shown (Shown.below hb2) hb2.size)
   have HL3:=zh (show RepS (hide w3 (S1 S (w.heap.size+1))) w3.heap.size l sl from (HLV.out.shown (Shown.below HB1.out) HB1.out.size).shown (Shown.below hb2) hb2.size)
   have HBX3:=zh (show Box5 w3 (w.heap.size+1) 26 (.int .i64 0) (.int .i64 0) (.int .i64 0) (.string ⟨#[]⟩) (.slice none 0 0) from (hb2.block _ (qzM HBX.out.lt hz0)).trans ((HB1.out.block _ HBX.out.lt).trans HBX.out))
   have hzz:W0.heap.size<=w3.heap.size:=Nat.le_trans hz0 hz2
   have HS3:=zh (fun c (hc:(S1 S (w.heap.size+1)) c)=>qzM (HS1.out c hc) hzz)
   have HR3:=zh (show Sy.bnd (L (Dat.list ln) l) (fun f=>Sy.bnd (Sy.all E lv) fun r=>Sy.ret (Dat.list (f::r))) n=some r from by have h:=HR2.out;unfold Sy.letF Sy.need at h;rw[hdi] at h;exact h)
   clear hb2 hz0 hz2 hzz hdi
   obtain ⟨q,hq⟩:∃q,L (Dat.list ln) l n=q:=⟨_,rfl⟩
   match q,hq with
   | none,hq=>
    have h:=HR3.out
    unfold Sy.bnd at h
    rw[hq] at h
    cases h
   | some none,hq=>
    have hrn:r=none:=by
     have h:=HR3.out
     unfold Sy.bnd at h
     rw[hq] at h
     exact (Option.some.inj h).symm
    subst hrn
    have HQ:=zh hq
    clear hq
    go_wp2_with (first | (go_at_call 87;refine (zaW (S1 S (w.heap.size+1)) ln vn _ w3 HS3.out HN3.out qzL).mono ?_;rintro e' w4 ⟨v4,rfl,hr4,hb4⟩) | (go_at_call 85;refine (HL.out (S1 S (w.heap.size+1)) b n (Dat.list ln) v4 l sl w4 none HQ.out (fun c hc=>qzM (HS3.out c hc) hb4.size) (.inl HB.out) (HX3.out.keepB hb4) (Env.turned HV.out HX0.out (HT3.out.next (Turned.of_below hb4))) hr4 (HL3.out.shown (Shown.below hb4) hb4.size)).mono ?_;rintro e' w5 ⟨rfl,ht5⟩) | fail)
    exact ⟨rfl,rfl,(HT3.out.next (Turned.of_below hb4)).next ht5⟩
   | some (some (g,n1)),hq=>
    have HQ:=zh hq
    have HR4:=zh (show Sy.bnd (Sy.all E lv) (fun r=>Sy.ret (Dat.list (g::r))) n1=some r from by
     have h:=HR3.out
     unfold Sy.bnd at h
     rw[hq] at h
     exact h)
    clear hq
    go_upto_region 4 with (first | (go_at_call 87;refine (zaW (S1 S (w.heap.size+1)) ln vn _ w3 HS3.out HN3.out qzL).mono ?_;rintro e' w4 ⟨v4,rfl,hr4,hb4⟩) | (go_at_call 85;refine (HL.out (S1 S (w.heap.size+1)) b n (Dat.list ln) v4 l sl w4 (some (g,n1)) HQ.out (fun c hc=>qzM (HS3.out c hc) hb4.size) (.inl HB.out) (HX3.out.keepB hb4) (Env.turned HV.out HX0.out (HT3.out.next (Turned.of_below hb4))) hr4 (HL3.out.shown (Shown.below hb4) hb4.size)).mono ?_;rintro e' w5 ⟨v5,rfl,hr5,ht5,hx5⟩;obtain ⟨k9,m9,d9,s9,o9,len9,cap9,rfl⟩:=zae hr5.unhide) | fail)
    have je:Below w5.heap.size w5 (w5.alloc (.cells #[.int .i64 k9,.int .i64 m9,.int .i64 d9,.string s9,.slice o9 len9 cap9] 26)):=Below.one _ _
    have hbn:Box5 (w5.alloc (.cells #[.int .i64 k9,.int .i64 m9,.int .i64 d9,.string s9,.slice o9 len9 cap9] 26)) w5.heap.size 26 (.int .i64 k9) (.int .i64 m9) (.int .i64 d9) (.string s9) (.slice o9 len9 cap9):=Box5.new w5 _ _ _ _ _ _
    have htt:Turned (fun c=>c=b) w3 (w5.alloc (.cells #[.int .i64 k9,.int .i64 m9,.int .i64 d9,.string s9,.slice o9 len9 cap9] 26)):=((Turned.of_below hb4).next ht5).next (Turned.of_below je)
    have hsh:Shown w3 (S1 S (w.heap.size+1)) (w5.alloc (.cells #[.int .i64 k9,.int .i64 m9,.int .i64 d9,.string s9,.slice o9 len9 cap9] 26)) (S1 S (w.heap.size+1)):=Shown.turned htt fun c _ hc=>by subst hc;exact .inl HB.out
    have HX6:=zh (hx5.keepB je)
    have HT6:=zh (HT3.out.next htt)
    have HV6:=zh (HV3.out.shown hsh htt.size)
    have HG6:=zh (hr5.shown (Shown.below je) je.size)
    have HBX6:=zh (show Box5 _ (w.heap.size+1) 26 (.int .i64 0) (.int .i64 0) (.int .i64 0) (.string ⟨#[]⟩) (.slice none 0 0) from (htt.block _ HBX3.out.lt (by have:=HLT.out;omega)).trans HBX3.out)
    have HS6:=zh (fun c (hc:(S1 S (w.heap.size+1)) c)=>qzM (HS3.out c hc) htt.size)
    have HNE:=zh (show w5.heap.size≠b from by have h1:=HS3.out b (.inl HB.out);have h2:=hb4.size;have h3:=ht5.size;omega)
    have HBN:=zh hbn
    clear je hbn htt hsh hr5 hx5 ht5 hr4 hb4
    generalize w5.alloc (.cells #[.int .i64 k9,.int .i64 m9,.int .i64 d9,.string s9,.slice o9 len9 cap9] 26)=W6 at *
    generalize w5.heap.size=G at *
    obtain ⟨q,hq⟩:∃q,Sy.all E lv n1=q:=⟨_,rfl⟩
    match q,hq with
    | none,hq=>
     have h:=HR4.out
     unfold Sy.bnd at h
     rw[hq] at h
     cases h
    | some p,hq=>
    obtain ⟨ys,n2,hy⟩:∃ys n2,∀u,p=some u->u=(ys,n2):=by
     match p with
     | none=>exact ⟨[],0,fun _ h=>by cases h⟩
     | some (ys,n2)=>exact ⟨ys,n2,fun u h=>(Option.some.inj h).symm⟩
    have hd2:Below W6.heap.size W6 W6.drew:=(Below.refl W6.heap.size W6).drew
    have hxd:XP W6.drew b n1:=HX6.out.keepB hd2
    have HTB:=zh (show ∀w3,Turned (fun c=>c=b) W6.drew w3->Turned (fun c=>c=b) W6 w3 from fun w3 h=>(Turned.of_below hd2).next h)
    have HSH:=zh (show ∀w3,Turned (fun c=>c=b) W6 w3->Shown W6 (S1 S (w.heap.size+1)) w3 (S1 S (w.heap.size+1)) from fun w3 h=>Shown.turned h fun c _ hc=>by subst hc;exact .inl HB.out)
    have HQ6:=zh hq
    have HY:=zh hy
    have HYL:=zh (show p=some (ys,n2)->ys.length<=999999 from fun h=>by
     have h1:=hq
     rw[h] at h1
     rw[Sy.all_len h1]
     have:=HBL1.out.2
     have:=HAL.out
     omega)
    clear hq hy
    refine zcC (b:=b) 7 [4] (fun j=>if j=0 then n1 else n2) (LeR (S1 S (w.heap.size+1)) (.agg #[.int .i64 k9,.int .i64 m9,.int .i64 d9,.string s9,.slice o9 len9 cap9]) (.pointer (some ⟨b,0,none⟩)) vv g ys (p=some (ys,n2))) (by kernel_rfl) (by show monoB _ 7 36=true;kernel_rfl) (by decide) (by decide) ?hch hxd (fun i v A B _ h _ ht=>zkV (.inl HB.out) i v A B h ht) ?hops ?hcall ?hend
    case hch=>
     intro j p1 p2 h1 h2
     rcases j with _ | j<;>simp at h2
    case hops=>
     intro i o8 hi hip ho hgd a8 w8 hdf hsz hex jb ja
     have ht3:=HTB.out w8 hex
     match i,hi,hip with
     | 0,_,_=>
      cases ho
      have h10:a8.tmps.getD 10 undef=.pointer (some ⟨G,0,none⟩):=ja.at 10 (by kernel_rfl)
      have hfb:Box5 w8 G 26 (.int .i64 k9) (.int .i64 m9) (.int .i64 d9) (.string s9) (.slice o9 len9 cap9):=(ht3.block _ HBN.out.lt HNE.out).trans HBN.out
      obtain ⟨q0,q1,q2,q3,q4⟩:=hfb.cells
      have ql:=hfb.lt
      exact za3 (v:=.agg #[.int .i64 k9,.int .i64 m9,.int .i64 d9,.string s9,.slice o9 len9 cap9]) (w':=w8) (by go_simp) rfl qzB
     | 1,_,_=>
      cases ho
      have h28:a8.tmps.getD 28 undef=.agg #[.int .i64 k9,.int .i64 m9,.int .i64 d9,.string s9,.slice o9 len9 cap9]:=zaX jb 0 28 (by kernel_rfl)
      exact za3 (zd8 rfl h28) ⟨⟨_,rfl⟩,zax (fun c hc=>qzM (HS6.out c hc) ht3.size) (HG6.out.shown (HSH.out w8 ht3) ht3.size)⟩ (Below.one _ _)
     | 2,_,_=>
      cases ho
      have h0:a8.tmps.getD 0 undef=.pointer (some ⟨b,0,none⟩):=ja.at 0 (by kernel_rfl)
      exact za3 (v:=.pointer (some ⟨b,0,none⟩)) (w':=w8) (by go_simp) rfl qzB
     | 3,_,_=>
      cases ho
      have h8:a8.tmps.getD 8 undef=vv:=ja.at 8 (by kernel_rfl)
      exact za3 (v:=vv) (w':=w8) (by go_simp) rfl qzB
     | 4,_,h=>exact absurd (by decide) h
     | 5,_,_=>
      cases ho
      obtain ⟨⟨u,hu⟩,h29⟩:(∃u,a8.tmps.getD 29 undef=.slice u 1 1)∧RepS (hide w8 (S1 S (w.heap.size+1))) w8.heap.size [g] (a8.tmps.getD 29 undef):=zaX jb 1 29 (by kernel_rfl)
      obtain ⟨hok,h32⟩:p=some (ys,n2)∧RepS (hide w8 (S1 S (w.heap.size+1))) w8.heap.size ys (a8.tmps.getD 32 undef):=zaX jb 4 32 (by kernel_rfl)
      rw[hu] at h29
      refine Oper.wp_mono ?_ (zdK (S:=(S1 S (w.heap.size+1))) (.tmp 29) (.tmp 32) rfl g ys u _ hu rfl h29 h32 (fun c hc=>qzM (HS6.out c hc) ht3.size) (HYL.out hok))
      rintro a' w' ⟨v,rfl,hv1,hv2⟩
      exact ⟨v,rfl,⟨hok,hv1⟩,hv2⟩
     | 6,_,_=>
      cases ho
      obtain ⟨hok,h33⟩:p=some (ys,n2)∧RepS (hide w8 (S1 S (w.heap.size+1))) w8.heap.size (g::ys) (a8.tmps.getD 33 undef):=zaX jb 5 33 (by kernel_rfl)
      refine zbe (vals:=#[a8.tmps.getD 33 undef]) rfl (by simp only[List.map_toArray,List.map_cons,List.map_nil];rfl) (fun _ _=>rfl) (zaW (S1 S (w.heap.size+1)) (g::ys) _ _ w8 (fun c hc=>qzM (HS6.out c hc) ht3.size) h33 qzL) ?_
      rintro e w' ⟨v,rfl,hv1,hv2⟩
      exact .inl ⟨v,rfl,v,rfl,⟨hok,hv1⟩,hv2⟩
    case hcall=>
     intro j i o8 hj ho hgd a8 w8 hdf hsz hex hxp jb ja
     have ht3:=HTB.out w8 hex
     have hj0:j=0:=by
      rcases j with _ | j
      ·rfl
      ·simp at hj
     subst hj0
     obtain rfl:4=i:=Option.some.inj hj
     cases ho
     have h30:a8.tmps.getD 30 undef=.pointer (some ⟨b,0,none⟩):=zaX jb 2 30 (by kernel_rfl)
     have h31:a8.tmps.getD 31 undef=vv:=zaX jb 3 31 (by kernel_rfl)
     refine zbe (vals:=#[.pointer (some ⟨b,0,none⟩),vv]) rfl (by simp only[List.map_toArray,List.map_cons,List.map_nil];rw[<-h30,<-h31];rfl) (fun _ _=>rfl) (zbr HE.out (S1 S (w.heap.size+1)) b n1 lv vv w8 p HQ6.out (fun c hc=>qzM (HS6.out c hc) ht3.size) (.inl HB.out) hxp (Env.turned HV.out HX0.out (HT6.out.next ht3)) (HV6.out.shown (HSH.out w8 ht3) ht3.size) (by have:=HBL1.out.2;have:=HAL.out;omega)) ?_
     intro e w' he
     match p,HY.out,HQ6 with
     | none,_,HQ6=>
      obtain ⟨rfl,ht4⟩:=he
      refine .inr ⟨_,rfl,?_⟩
      have hrn:r=none:=by
       have h:=HR4.out
       unfold Sy.bnd at h
       rw[HQ6.out] at h
       exact (Option.some.inj h).symm
      subst hrn
      exact ⟨hdf,rfl,(HT6.out.next ht3).next ht4⟩
     | some u,hy,_=>
      obtain rfl:=hy u rfl
      obtain ⟨v,rfl,hv1,hv2,hv3⟩:=he
      exact .inl ⟨v,rfl,v,rfl,⟨rfl,hv1.rep⟩,hv2,hv3⟩
    case hend=>
     intro a8 w8 hdf hsz hex hxp hval ja
     have ht3:=HTB.out w8 hex
     obtain ⟨hok,h34⟩:p=some (ys,n2)∧RepD (hide w8 (S1 S (w.heap.size+1))) w8.heap.size (Dat.list (g::ys)) (a8.tmps.getD 34 undef):=hval 6 _ 34 (by omega) rfl rfl
     have hrn:r=some (Dat.list (g::ys),n2):=by
      have h:=HR4.out
      unfold Sy.bnd at h
      rw[HQ6.out,hok] at h
      exact (Option.some.inj h).symm
     subst hrn
     obtain ⟨f8,ha,hf8⟩:=zaq [false,false,false,false,false,false,false,false,false,false,false,false,false,false,false,false,false,false,false,false,false,false,false,false,false,false,false,false,true,true,true,true,true,true,true] (by kernel_rfl) hdf hsz ja
     rw[<-hf8] at h34
     subst ha
     obtain ⟨k8,m8,d8,s8,o8,len8,cap8,h8⟩:=zae h34.unhide
     rw[h8] at h34
     have hx8:Box5 w8 (w.heap.size+1) 26 (.int .i64 0) (.int .i64 0) (.int .i64 0) (.string ⟨#[]⟩) (.slice none 0 0):=(ht3.block _ HBX6.out.lt (by have:=HLT.out;omega)).trans HBX6.out
     obtain ⟨p0,p1,p2,p3,p4⟩:=hx8.cells
     obtain ⟨z0,z1,z2,z3,z4⟩:=hx8.free
     have pl:=hx8.lt
     have HX8:=zh hx8
     have H34:=zh h34
     have HXP:=zh (show XP w8 b n2 from hxp)
     have HT8:=zh ht3
     clear hval ja hf8 hex hdf hsz h34 hx8 hxp ht3
     simp only[spellH,List.drop_succ_cons,List.drop_zero,h8]
     go_wp2_with fail
     have HR5:=zh (HX8.out.set (.int .i64 k8) (.int .i64 m8) (.int .i64 d8) (.string s8) (.slice o8 len8 cap8))
     obtain ⟨r0,r1,r2,r3,r4⟩:=HR5.out.cells
     refine bodyPost_ret (v:=.agg #[.int .i64 k8,.int .i64 m8,.int .i64 d8,.string s8,.slice o8 len8 cap8]) (by simp[results,results108,go_sem,r0,r1,r2,r3,r4]) rfl ?_
     exact zb8 (by omega) HLT.out (HT6.out.next HT8.out) H34.out HXP.out
end
section
open Go Go.RowKit
theorem zfn {P:Program} {id:Nat} {Q:Exit->Act->World->Prop} {a0:Act} {w:World} {l:List Oper} (n q:Nat) (oq:Oper) (dq:Nat) (S0:Nat->Prop) (R:(Nat->Prop)->Nat->Value->World->Prop) (z:Obj) (hm:P.follows .mixedOrders=true) (hB:monoB l.toArray n a0.tmps.size=true)
  (hq:l.toArray[q]?=some oq∧oq.dst=some dq∧q<n) (hS:∀c,S0 c->c<w.drew.heap.size)
  (hR:∀S i v A B,R S i v A->Below A.heap.size A B->R S i v B)
  (hnew:∀i v A,R S0 i v A->(∀c,S0 c->c<A.heap.size)->R (S1 S0 A.heap.size) i v (A.alloc z))
  (hops:∀S i o,i<n->i≠q->l.toArray[i]?=some o->∀(a:Act) (w1:World),a.defers=a0.defers->a.tmps.size=a0.tmps.size->Below w.drew.heap.size w.drew w1->(∀c,S0 c->S c)->(∀c,S c->c<w1.heap.size)->(∀c,S c->S0 c∨w.drew.heap.size<=c)->(∀j oj d,j<n->j≠q->l.toArray[j]?=some oj->(∃e∈o.after,Region.binds .any e=true∧e.on=j)->oj.dst=some d->R S j (a.tmps.getD d undef) w1)->Rest l.toArray n a0 a ->
   wpList P l.toArray (StepPost (R S) (fun A B=>Below A.heap.size A B) i o a w1) [o] a w1)
  (hbox:∀(a:Act) (w1:World),wpList P l.toArray (fun e a' w'=>e=.normal∧a'=a.put oq.dst (.pointer (some ⟨w1.heap.size,0,none⟩))∧w'=w1.alloc z) [oq] a w1)
  (hend:∀a w1 G,a.defers=a0.defers->a.tmps.size=a0.tmps.size->Below w.drew.heap.size w.drew w1->a.tmps.getD dq undef=.pointer (some ⟨G,0,none⟩)->w.drew.heap.size<=G->w1.heap[G]?=some z->(∀i o d,i<n->i≠q->l.toArray[i]?=some o->o.dst=some d->R (S1 S0 G) i (a.tmps.getD d undef) w1)->Rest l.toArray n a0 a->wpList P l.toArray Q (l.drop n) a w1) :
  (Code.region id l.toArray true).wp P Q a0 w:=by
 have hB':=hB
 simp only[monoB,monoG,Bool.and_eq_true,decide_eq_true_eq] at hB'
 obtain ⟨⟨_,_,_,hn,hsl,_⟩,hgd⟩:=hB'
 obtain ⟨hq1,hq2,hq3⟩:=hq
 have jn:∀{i j o oj d x v},i<n->j<n->l.toArray[i]?=some o->l.toArray[j]?=some oj->oj.dst=some d->x.tmps.size=a0.tmps.size->i≠j->(Act.put x o.dst v).tmps.getD d undef=x.tmps.getD d undef:=by
  intro i j o oj d x v hi hj ho hoj hd hsz hij
  cases hdo:o.dst with
  | none=>rfl
  | some d'=>
   obtain ⟨hd',hne'⟩:=zaV hsl hi hj ho hoj hdo hd
   rw[zaO (by rw[hsz];exact hd'),if_neg (hne'.resolve_left hij)]
 have hself:∀{i o d x v},i<n->l.toArray[i]?=some o->o.dst=some d->x.tmps.size=a0.tmps.size->(Act.put x o.dst v).tmps.getD d undef=v:=by
  intro i o d x v hi ho hd hsz
  have hd':=(zaV hsl hi hi ho ho hd hd).1
  rw[hd,zaO (by rw[hsz];exact hd'),if_pos rfl]
 refine zbO n (fun listed a W=>Below w.drew.heap.size w.drew W∧∃S,(∀c,S0 c->S c)∧(∀c,S c->c<W.heap.size)∧(∀c,S c->S0 c∨w.drew.heap.size<=c)∧(listed.getD q false=false->S=S0)∧(listed.getD q false=true->∃G,a.tmps.getD dq undef=.pointer (some ⟨G,0,none⟩)∧w.drew.heap.size<=G∧W.heap[G]?=some z∧S=S1 S0 G) ∧
  ∀i o d,i<n->i≠q->l.toArray[i]?=some o->listed.getD i false=true->o.dst=some d->R S i (a.tmps.getD d undef) W) hm hB ?_ ?_ ?_
 ·exact ⟨qzB,S0,fun _ h=>h,hS,fun _ h=>.inl h,fun _=>rfl,fun h=>by rw[getD_replicate_false] at h;(cases h),fun i o d _ _ _ h=>by rw[getD_replicate_false] at h;(cases h)⟩
 ·intro i o hi ho listed a w1 hls hdf hsz ja ⟨hb,S,hs1,hs2,hs3,hs4,hs5,hval⟩ hun hdeps
  have hlt:i<listed.size:=by rw[hls];omega
  have hset:(listed.setIfInBounds i true).getD i false=true:=by simp[hlt]
  by_cases hiq:i=q
  ·subst hiq
   obtain rfl:oq=o:=Option.some.inj (hq1.symm.trans ho)
   have hS0:=hs4 hun
   subst hS0
   refine zau (zaF hgd hi ho) (hbox a w1) ?_
   rintro a' w' ⟨rfl,rfl⟩
   have je:Below w1.heap.size w1 (w1.alloc z):=Below.one _ _
   refine ⟨rfl,_,rfl,hb.trans (je.mono hb.size),S1 S w1.heap.size,fun c h=>.inl h,fun c h=>h.elim (fun h=>qzM (hs2 c h) je.size) fun h=>by subst h;simp,fun c h=>h.elim (fun h=>.inl h) fun h=>.inr (by have:=hb.size;omega),fun h=>by rw[hset] at h;(cases h),fun _=>⟨w1.heap.size,hself hi ho hq2 hsz,hb.size,World.alloc_heap_new _ _,rfl⟩,fun j oj d hj hjq hoj hl hd=>?_⟩
   rw[getD_set_ne false (Ne.symm hjq)] at hl
   rw[jn hi hj ho hoj hd hsz (Ne.symm hjq)]
   exact hnew j _ _ (hval j oj d hj hjq hoj hl hd) hs2
  ·refine zau (zaF hgd hi ho) (hops S i o hi hiq ho a w1 hdf hsz hb hs1 hs2 hs3 (fun j oj d hj hjq hoj ⟨e,he,hbn,hon⟩ hd=>hval j oj d hj hjq hoj (by have:=hdeps e he hbn;rwa[hon] at this) hd) ja) ?_
   rintro a' w' ⟨v,rfl,hv,hx⟩
   refine ⟨rfl,v,rfl,hb.trans (hx.mono hb.size),S,hs1,fun c h=>qzM (hs2 c h) hx.size,hs3,fun h=>hs4 (by rwa[getD_set_ne false hiq] at h),fun h=>?_,fun j oj d hj hjq hoj hl hd=>?_⟩
   ·rw[getD_set_ne false hiq] at h
    obtain ⟨G,g1,g2,g3,g4⟩:=hs5 h
    exact ⟨G,by rw[jn hi hq3 ho hq1 hq2 hsz hiq];exact g1,g2,(hx.block _ (Array.getElem?_eq_some_iff.1 g3).1).trans g3,g4⟩
   ·by_cases e:i=j
    ·subst e
     obtain rfl:oj=o:=Option.some.inj (hoj.symm.trans ho)
     rw[hself hi ho hd hsz]
     exact hv
    ·rw[getD_set_ne false e] at hl
     rw[jn hi hj ho hoj hd hsz e]
     exact hR S j _ _ _ (hval j oj d hj hjq hoj hl hd) hx
 ·intro listed a w1 hall hdf hsz ja ⟨hb,S,hs1,hs2,hs3,hs4,hs5,hval⟩
  obtain ⟨G,g1,g2,g3,rfl⟩:=hs5 (hall q hq3)
  exact hend a w1 G hdf hsz hb g1 g2 g3 (fun i o d hi hiq ho hd=>hval i o d hi hiq ho (hall i hi) hd) ja
end
section
open Go Go.RowKit
inductive Sp
 | val (v:Value)
 | dat (o:Option Dat)
 | row (o:Option (List Dat))
 | one (o:Option Dat)
 | elm (o:Option Dat)
 | sla (o:Option (List Dat))
 | stp (s:ByteArray)
 | any
def Sp.holds (S:Nat->Prop) (sp:Sp) (v:Value) (W:World):Prop:=match sp with
 | .val u=>v=u
 | .dat o=>∃x,o=some x∧RepD (hide W S) W.heap.size x v
 | .row o=>∃l,o=some l∧RepS (hide W S) W.heap.size l v
 | .one o=>∃x p,o=some x∧v=.slice p 1 1∧RepS (hide W S) W.heap.size [x] v
 | .elm o=>∃x c off,∃(k n d:Int) (s:ByteArray) (p:Option Addr) (len cap:Nat),o=some x∧v=.pointer (some ⟨c,off,none⟩)∧(hide W S).cell? ⟨c,off,none⟩=some (.int .i64 k)∧(hide W S).cell? ⟨c,off+1,none⟩=some (.int .i64 n)∧(hide W S).cell? ⟨c,off+2,none⟩=some (.int .i64 d)∧(hide W S).cell? ⟨c,off+3,none⟩=some (.string s)∧(hide W S).cell? ⟨c,off+4,none⟩=some (.slice p len cap)∧RepD (hide W S) W.heap.size x (.agg #[.int .i64 k,.int .i64 n,.int .i64 d,.string s,.slice p len cap])
 | .sla o=>∃l c off u,o=some l∧v=.pointer (some ⟨c,off,none⟩)∧(hide W S).cell? ⟨c,off,none⟩=some u∧RepS (hide W S) W.heap.size l u
 | .stp s=>∃c off,v=.pointer (some ⟨c,off,none⟩)∧(hide W S).cell? ⟨c,off,none⟩=some (.string s)
 | .any=>True
theorem Sp.shown {S S':Nat->Prop} {sp:Sp} {v:Value} {W W':World} (h:sp.holds S v W) (hs:Shown W S W' S') (hz:W.heap.size<=W'.heap.size):sp.holds S' v W':=by
 cases sp with
 | val u=>exact h
 | dat o=>obtain ⟨x,hx,h⟩:=h;exact ⟨x,hx,h.shown hs hz⟩
 | row o=>obtain ⟨x,hx,h⟩:=h;exact ⟨x,hx,h.shown hs hz⟩
 | one o=>obtain ⟨x,p,hx,hp,h⟩:=h;exact ⟨x,p,hx,hp,h.shown hs hz⟩
 | elm o=>
  obtain ⟨x,c,off,k,n,d,s,p,len,cap,hx,hv,e0,e1,e2,e3,e4,h⟩:=h
  exact ⟨x,c,off,k,n,d,s,p,len,cap,hx,hv,hs.cells _ _ _ e0,hs.cells _ _ _ e1,hs.cells _ _ _ e2,hs.cells _ _ _ e3,hs.cells _ _ _ e4,h.shown hs hz⟩
 | sla o=>
  obtain ⟨l,c,off,u,hx,hv,e0,h⟩:=h
  exact ⟨l,c,off,u,hx,hv,hs.cells _ _ _ e0,h.shown hs hz⟩
 | stp s=>
  obtain ⟨c,off,hv,e0⟩:=h
  exact ⟨c,off,hv,hs.cells _ _ _ e0⟩
 | any=>trivial
theorem Sp.turned {S:Nat->Prop} {sp:Sp} {v:Value} {W W':World} {b:Nat} (h:sp.holds S v W) (hb:S b) (ht:Turned (fun c=>c=b) W W'):sp.holds S v W':=
 Sp.shown h (Shown.turned ht fun c _ hc=>by subst hc;exact hb) ht.size
theorem Sp.below {S:Nat->Prop} {sp:Sp} {v:Value} {W W':World} (h:sp.holds S v W) (hb:Below W.heap.size W W'):sp.holds S v W':=Sp.shown h (Shown.below hb) hb.size
theorem Sp.datum {S:Nat->Prop} {x:Dat} {v:Value} {W:World} (h:(Sp.dat (some x)).holds S v W):RepD (hide W S) W.heap.size x v:=by
 obtain ⟨y,hy,h⟩:=h
 rw[Option.some.inj hy];exact h
theorem Sp.data {S:Nat->Prop} {l:List Dat} {v:Value} {W:World} (h:(Sp.row (some l)).holds S v W):RepS (hide W S) W.heap.size l v:=by
 obtain ⟨y,hy,h⟩:=h
 rw[Option.some.inj hy];exact h
theorem Sp.ofD {S:Nat->Prop} {x:Dat} {v:Value} {W:World} (h:RepD (hide W S) W.heap.size x v):(Sp.dat (some x)).holds S v W:=⟨x,rfl,h⟩
theorem Sp.ofS {S:Nat->Prop} {l:List Dat} {v:Value} {W:World} (h:RepS (hide W S) W.heap.size l v):(Sp.row (some l)).holds S v W:=⟨l,rfl,h⟩
theorem Sp.box {S:Nat->Prop} {x:Dat} {W:World} {G:Nat} {k n d:Int} {s:ByteArray} {p:Option Addr} {len cap:Nat} (hb:Box5 W G 26 (.int .i64 k) (.int .i64 n) (.int .i64 d) (.string s) (.slice p len cap)) (hx:RepD (hide W S) W.heap.size x (.agg #[.int .i64 k,.int .i64 n,.int .i64 d,.string s,.slice p len cap])) (hG:¬S G):(Sp.elm (some x)).holds S (.pointer (some ⟨G,0,none⟩)) W:=by
 obtain ⟨e0,e1,e2,e3,e4⟩:=hb.cells
 exact ⟨x,G,0,k,n,d,s,p,len,cap,rfl,rfl,(za0 hG).trans e0,(za0 hG).trans e1,(za0 hG).trans e2,(za0 hG).trans e3,(za0 hG).trans e4,hx⟩
structure XS (S:Nat->Prop) (b H n:Nat) (w W:World):Prop where
 hS:∀c,S c->c<w.heap.size
 own:S b
 le:w.heap.size<=H
 ht:Turned (fun c=>c=b) w W
 hx:XP W b n
 hE:Env W
 box:Box5 W H 26 (.int .i64 0) (.int .i64 0) (.int .i64 0) (.string ⟨#[]⟩) (.slice none 0 0)
theorem XS.ne {S:Nat->Prop} {b H n:Nat} {w W:World} (h:XS S b H n w W):H≠b:=by
 have h1:=h.hS b h.own
 have h2:=h.le
 omega
theorem XS.lt {S:Nat->Prop} {b H n:Nat} {w W:World} (h:XS S b H n w W):∀c,S1 S H c->c<W.heap.size:=fun c hc=>
 hc.elim (fun hc=>qzM (h.hS c hc) h.ht.size) fun hc=>by subst hc;exact h.box.lt
theorem XS.next {S:Nat->Prop} {b H n m:Nat} {w W W':World} (h:XS S b H n w W) (ht:Turned (fun c=>c=b) W W') (hx:XP W' b m):XS S b H m w W':=
 ⟨h.hS,h.own,h.le,h.ht.next ht,hx,Env.turned h.hE h.hx ht,(ht.block _ h.box.lt h.ne).trans h.box⟩
theorem XS.below {S:Nat->Prop} {b H n:Nat} {w W W':World} (h:XS S b H n w W) (hb:Below W.heap.size W W'):XS S b H n w W':=h.next (Turned.of_below hb) (h.hx.keepB hb)
theorem XS.keep {S:Nat->Prop} {b H n:Nat} {w W W':World} {sp:Sp} {v:Value} (h:XS S b H n w W) (hv:sp.holds (S1 S H) v W) (ht:Turned (fun c=>c=b) W W'):sp.holds (S1 S H) v W':=Sp.turned hv (.inl h.own) ht
theorem XS.bad {S:Nat->Prop} {b H n:Nat} {w W:World} (h:XS S b H n w W):XRes S b none w (.panicked badE) W:=⟨rfl,h.ht⟩
theorem XS.bad' {S:Nat->Prop} {b H n:Nat} {w W W':World} (h:XS S b H n w W) (ht:Turned (fun c=>c=b) W W'):XRes S b none w (.panicked badE) W':=⟨rfl,h.ht.next ht⟩
theorem XS.fin {S:Nat->Prop} {b H m:Nat} {w W:World} {x:Dat} {k n d:Int} {s:ByteArray} {o:Option Addr} {len cap:Nat} (h:XS S b H m w W) (hx:RepD (hide W (S1 S H)) W.heap.size x (.agg #[.int .i64 k,.int .i64 n,.int .i64 d,.string s,.slice o len cap])) :
  XRes S b (some (x,m)) w (.returned (.agg #[.int .i64 k,.int .i64 n,.int .i64 d,.string s,.slice o len cap])) (set5 W H (.int .i64 k) (.int .i64 n) (.int .i64 d) (.string s) (.slice o len cap)):=
 zb8 h.le (h.hS b h.own) h.ht hx h.hx
theorem XS.start {S:Nat->Prop} {b H n:Nat} {w W:World} (h:XS S b H n w W):Shown w S W (S1 S H):=fun c o u hc hu=>by
 have hlt:=zai hu
 refine ⟨fun hs=>hs.elim hc fun hs=>by have:=h.le;omega,(Shown.turned (S:=S) h.ht (fun c _ hc=>by subst hc;exact h.own) c o u hc hu).2⟩
theorem XS.first {S:Nat->Prop} {b H n:Nat} {w W:World} {sp:Sp} {v:Value} (h:XS S b H n w W) (hv:sp.holds S v w):sp.holds (S1 S H) v W:=Sp.shown hv h.start h.ht.size
theorem XS.boxed {S:Nat->Prop} {b H n G:Nat} {w W:World} {x:Dat} {k m d:Int} {s:ByteArray} {o:Option Addr} {len cap:Nat} (h:XS S b H n w W) (hx:RepD (hide w S) w.heap.size x (.agg #[.int .i64 k,.int .i64 m,.int .i64 d,.string s,.slice o len cap])) (hb:Box5 W G 26 (.int .i64 k) (.int .i64 m) (.int .i64 d) (.string s) (.slice o len cap)) (hG:w.heap.size<=G) (hH:G≠H):(Sp.elm (some x)).holds (S1 S H) (.pointer (some ⟨G,0,none⟩)) W:=
 Sp.box hb (hx.shown h.start h.ht.size) fun hs=>hs.elim (fun hs=>by have:=h.hS G hs;omega) hH
theorem zgB {S:Nat->Prop} {b n:Nat} {w V:World} (hS:∀c,S c->c<w.heap.size) (hb:S b) (hx:XP w b n) (hE:Env w) (hV:Below w.heap.size w V):XS S b V.heap.size n w (V.alloc (.cells #[.int .i64 0,.int .i64 0,.int .i64 0,.string ⟨#[]⟩,.slice none 0 0] 26)):=by
 have h1:Below w.heap.size w (V.alloc (.cells #[.int .i64 0,.int .i64 0,.int .i64 0,.string ⟨#[]⟩,.slice none 0 0] 26)):=hV.trans ((Below.one _ _).mono hV.size)
 exact ⟨hS,hb,hV.size,Turned.of_below h1,hx.keep h1,hE.below h1,Box5.new _ _ _ _ _ _ _⟩
theorem zfx {S:Nat->Prop} {b n:Nat} {w:World} (hS:∀c,S c->c<w.heap.size) (hb:S b) (hx:XP w b n) (hE:Env w):XS S b w.heap.size n w (w.alloc (.cells #[.int .i64 0,.int .i64 0,.int .i64 0,.string ⟨#[]⟩,.slice none 0 0] 26)):=by
 exact zgB hS hb hx hE qzB
theorem zhI {S:Nat->Prop} {b n:Nat} {w:World} {x1:Dat} {k1 m1 d1:Int} {s1:ByteArray} {o1:Option Addr} {len1 cap1:Nat} (hS:∀c,S c->c<w.heap.size) (hb:S b) (hx:XP w b n) (hE:Env w) (hx1:RepD (hide w S) w.heap.size x1 (.agg #[.int .i64 k1,.int .i64 m1,.int .i64 d1,.string s1,.slice o1 len1 cap1])):XS S b (w.heap.size+1) n w ((w.alloc (.cells #[.int .i64 k1,.int .i64 m1,.int .i64 d1,.string s1,.slice o1 len1 cap1] 26)).alloc (.cells #[.int .i64 0,.int .i64 0,.int .i64 0,.string ⟨#[]⟩,.slice none 0 0] 26))∧(Sp.elm (some x1)).holds (S1 S (w.heap.size+1)) (.pointer (some ⟨w.heap.size,0,none⟩)) ((w.alloc (.cells #[.int .i64 k1,.int .i64 m1,.int .i64 d1,.string s1,.slice o1 len1 cap1] 26)).alloc (.cells #[.int .i64 0,.int .i64 0,.int .i64 0,.string ⟨#[]⟩,.slice none 0 0] 26)):=by
 obtain ⟨V1,hV1⟩:∃V1,w.alloc (.cells #[.int .i64 k1,.int .i64 m1,.int .i64 d1,.string s1,.slice o1 len1 cap1] 26)=V1:=⟨_,rfl⟩
 have z1:V1.heap.size=w.heap.size+1:=by rw[<-hV1,World.size_alloc]
 have c1:Below w.heap.size w V1:=by rw[<-hV1];exact Below.one _ _
 have n1:Box5 V1 w.heap.size 26 (.int .i64 k1) (.int .i64 m1) (.int .i64 d1) (.string s1) (.slice o1 len1 cap1):=by have h:=Box5.new w 26 (.int .i64 k1) (.int .i64 m1) (.int .i64 d1) (.string s1) (.slice o1 len1 cap1);rw[hV1] at h;exact h
 rw[hV1]
 have hbl:Below w.heap.size w V1:=c1
 have hst:=zgB hS hb hx hE hbl
 rw[z1] at hst
 have je:Below V1.heap.size V1 (V1.alloc (.cells #[.int .i64 0,.int .i64 0,.int .i64 0,.string ⟨#[]⟩,.slice none 0 0] 26)):=Below.one _ _
 exact ⟨hst,hst.boxed hx1 ((je.block _ (by omega)).trans (n1)) (by omega) (by omega)⟩
theorem zlf {S:Nat->Prop} {b n:Nat} {w:World} {x1:Dat} {k1 m1 d1:Int} {s1:ByteArray} {o1:Option Addr} {len1 cap1:Nat} {x2:Dat} {k2 m2 d2:Int} {s2:ByteArray} {o2:Option Addr} {len2 cap2:Nat} (hS:∀c,S c->c<w.heap.size) (hb:S b) (hx:XP w b n) (hE:Env w) (hx1:RepD (hide w S) w.heap.size x1 (.agg #[.int .i64 k1,.int .i64 m1,.int .i64 d1,.string s1,.slice o1 len1 cap1])) (hx2:RepD (hide w S) w.heap.size x2 (.agg #[.int .i64 k2,.int .i64 m2,.int .i64 d2,.string s2,.slice o2 len2 cap2])):XS S b (w.heap.size+2) n w (((w.alloc (.cells #[.int .i64 k1,.int .i64 m1,.int .i64 d1,.string s1,.slice o1 len1 cap1] 26)).alloc (.cells #[.int .i64 k2,.int .i64 m2,.int .i64 d2,.string s2,.slice o2 len2 cap2] 26)).alloc (.cells #[.int .i64 0,.int .i64 0,.int .i64 0,.string ⟨#[]⟩,.slice none 0 0] 26))∧(Sp.elm (some x1)).holds (S1 S (w.heap.size+2)) (.pointer (some ⟨w.heap.size,0,none⟩)) (((w.alloc (.cells #[.int .i64 k1,.int .i64 m1,.int .i64 d1,.string s1,.slice o1 len1 cap1] 26)).alloc (.cells #[.int .i64 k2,.int .i64 m2,.int .i64 d2,.string s2,.slice o2 len2 cap2] 26)).alloc (.cells #[.int .i64 0,.int .i64 0,.int .i64 0,.string ⟨#[]⟩,.slice none 0 0] 26))∧(Sp.elm (some x2)).holds (S1 S (w.heap.size+2)) (.pointer (some ⟨w.heap.size+1,0,none⟩)) (((w.alloc (.cells #[.int .i64 k1,.int .i64 m1,.int .i64 d1,.string s1,.slice o1 len1 cap1] 26)).alloc (.cells #[.int .i64 k2,.int .i64 m2,.int .i64 d2,.string s2,.slice o2 len2 cap2] 26)).alloc (.cells #[.int .i64 0,.int .i64 0,.int .i64 0,.string ⟨#[]⟩,.slice none 0 0] 26)):=by
 obtain ⟨V1,hV1⟩:∃V1,w.alloc (.cells #[.int .i64 k1,.int .i64 m1,.int .i64 d1,.string s1,.slice o1 len1 cap1] 26)=V1:=⟨_,rfl⟩
 have z1:V1.heap.size=w.heap.size+1:=by rw[<-hV1,World.size_alloc]
 have c1:Below w.heap.size w V1:=by rw[<-hV1];exact Below.one _ _
 have n1:Box5 V1 w.heap.size 26 (.int .i64 k1) (.int .i64 m1) (.int .i64 d1) (.string s1) (.slice o1 len1 cap1):=by have h:=Box5.new w 26 (.int .i64 k1) (.int .i64 m1) (.int .i64 d1) (.string s1) (.slice o1 len1 cap1);rw[hV1] at h;exact h
 obtain ⟨V2,hV2⟩:∃V2,V1.alloc (.cells #[.int .i64 k2,.int .i64 m2,.int .i64 d2,.string s2,.slice o2 len2 cap2] 26)=V2:=⟨_,rfl⟩
 have z2:V2.heap.size=w.heap.size+2:=by rw[<-hV2,World.size_alloc];rw[z1]
 have c2:Below V1.heap.size V1 V2:=by rw[<-hV2];exact Below.one _ _
 have n2:Box5 V2 (w.heap.size+1) 26 (.int .i64 k2) (.int .i64 m2) (.int .i64 d2) (.string s2) (.slice o2 len2 cap2):=by have h:=Box5.new V1 26 (.int .i64 k2) (.int .i64 m2) (.int .i64 d2) (.string s2) (.slice o2 len2 cap2);rw[hV2,z1] at h;exact h
 rw[hV1,hV2]
 have hbl:Below w.heap.size w V2:=(c1.trans (c2.mono (by omega)))
 have hst:=zgB hS hb hx hE hbl
 rw[z2] at hst
 have je:Below V2.heap.size V2 (V2.alloc (.cells #[.int .i64 0,.int .i64 0,.int .i64 0,.string ⟨#[]⟩,.slice none 0 0] 26)):=Below.one _ _
 exact ⟨hst,hst.boxed hx1 ((je.block _ (by omega)).trans ((c2.block _ (by omega)).trans (n1))) (by omega) (by omega),hst.boxed hx2 ((je.block _ (by omega)).trans (n2)) (by omega) (by omega)⟩
def SpK (S:Nat->Prop) (sp:Sp) (o:Oper) (a:Act) (w:World) (a':Act) (w':World):Prop:=∃v,a'=a.put o.dst v∧sp.holds S v w'∧Below w.heap.size w w'
def SpX (S:Nat->Prop) (b m:Nat) (sp:Sp) (o:Oper) (a:Act) (w:World) (a':Act) (w':World):Prop:=∃v,a'=a.put o.dst v∧sp.holds S v w'∧Turned (fun c=>c=b) w w'∧XP w' b m
def cnt {α:Type}:Option (α × Nat)->Nat
 | some p=>p.2
 | none=>0
section
variable {S : Nat -> Prop} {o : Oper} {a : Act} {w : World} {Q : Exit -> Act -> World -> Prop}
theorem zbW {sp:Sp} {v:Value} {w':World} (h:(execOp a.eval o).run prog w=.ok (.value v) w') (hv:sp.holds S v w') (hb:Below w.heap.size w w'):o.wp prog a w (SpK S sp o a w) Q:=by
 unfold Oper.wp
 rw[h]
 exact ⟨v,rfl,hv,hb⟩
theorem zac {sp:Sp} {s:Nat} (ho:o.op=.move (.tmp s)) (h:sp.holds S (a.tmps.getD s undef) w):o.wp prog a w (SpK S sp o a w) Q:=
 zbW (v:=a.tmps.getD s undef) (w':=w) (by unfold execOp;rw[ho];rfl) h qzB
theorem zal {o1:Option Dat} {s:Nat} (ho:o.op=.load 26 (.tmp s)) (h:(Sp.elm o1).holds S (a.tmps.getD s undef) w):o.wp prog a w (SpK S (.dat o1) o a w) Q:=by
 obtain ⟨x,c,off,k,n,d,st,p,len,cap,hx,hs,e0,e1,e2,e3,e4,hr⟩:=h
 replace e0:=(zaa e0).2
 replace e1:=(zaa e1).2
 replace e2:=(zaa e2).2
 replace e3:=(zaa e3).2
 replace e4:=(zaa e4).2
 have el:=zai e0
 refine zbW (v:=.agg #[.int .i64 k,.int .i64 n,.int .i64 d,.string st,.slice p len cap]) (w':=w) ?_ ⟨x,hx,hr⟩ qzB
 have hev:a.eval (.tmp s)=.pointer (some ⟨c,off,none⟩):=hs
 clear hr hx
 unfold execOp
 rw[ho]
 simp only[hev]
 clear hev hs ho
 go_simp
theorem zas {l:List Dat} {x:Dat} {s k:Nat} (ho:o.op=.indexAddr 22 (.tmp s) (.const (.int .i64 (k:Int)))) (h:(Sp.row (some l)).holds S (a.tmps.getD s undef) w) (hx:l[k]?=some x) (hk:k<1000):o.wp prog a w (SpK S (.elm (some x)) o a w) Q:=by
 obtain ⟨l',hl',hr⟩:=h
 obtain rfl:=Option.some.inj hl'
 obtain ⟨p,len,cap,hs,jk,hcap,hmax,hc⟩:=hr
 obtain ⟨c,off,k1,n1,d1,s1,l1,o1,len1,cap1,ho1,hx1,e0,e1,e2,e3,e4,er⟩:=zat hc qzB hx
 subst ho1
 have hlt:k<len:=by rw[jk];exact (List.getElem?_eq_some_iff.1 hx).1
 refine zbW (v:=.pointer (some ⟨c,off+k*5,none⟩)) (w':=w) ?_ ⟨x,c,off+k*5,k1,n1,d1,s1,o1,len1,cap1,rfl,rfl,e0,e1,e2,e3,e4,by rw[hx1];exact er⟩ qzB
 have hev:a.eval (.tmp s)=.slice (some ⟨c,off,none⟩) len cap:=hs
 have hev2:a.eval (.const (.int .i64 (k:Int)))=.int .i64 k:=rfl
 have h0:¬((k:Int)<0):=by omega
 have h1:((k:Int)<(len:Int)):=by omega
 have h2:¬((len:Int)<=(k:Int)):=by omega
 have h3:(k:Int).toNat=k:=by omega
 clear er e0 e1 e2 e3 e4 hx1 hc hx jk hs
 unfold execOp
 rw[ho]
 simp only[hev,hev2]
 clear hev hev2 ho
 go_simp
theorem zjj {x:Dat} {s:Nat} (ho:o.op=.fieldAddr 26 (.tmp s) 4) (h:(Sp.elm (some x)).holds S (a.tmps.getD s undef) w):o.wp prog a w (SpK S (.sla (some x.l)) o a w) Q:=by
 obtain ⟨y,c,off,k,n,d,st,p,len,cap,hx,hs,e0,e1,e2,e3,e4,hr⟩:=h
 obtain rfl:=Option.some.inj hx
 obtain ⟨k1,n1,d1,s1,l1⟩:=x
 obtain ⟨sl,hv,_,_,_,_,hrs⟩:=hr.open
 simp only[Value.agg.injEq,Array.mk.injEq,List.cons.injEq] at hv
 obtain ⟨_,_,_,_,rfl,_⟩:=hv
 refine zbW (v:=.pointer (some ⟨c,off+4,none⟩)) (w':=w) ?_ ⟨_,c,off+4,_,rfl,rfl,e4,hrs⟩ qzB
 have hev:a.eval (.tmp s)=.pointer (some ⟨c,off,none⟩):=hs
 clear hr hx hrs e0 e1 e2 e3 e4
 unfold execOp
 rw[ho]
 simp only[hev]
 clear hev hs ho
 go_simp
theorem zeT {x:Dat} {l:List Dat} {s:Nat} (hl:x.l=l) (ho:o.op=.fieldAddr 26 (.tmp s) 4) (h:(Sp.elm (some x)).holds S (a.tmps.getD s undef) w):o.wp prog a w (SpK S (.sla (some l)) o a w) Q:=by
 subst hl
 exact zjj ho h
theorem ziS {x:Dat} {s:Nat} (ho:o.op=.fieldAddr 26 (.tmp s) 3) (h:(Sp.elm (some x)).holds S (a.tmps.getD s undef) w):o.wp prog a w (SpK S (.stp x.s) o a w) Q:=by
 obtain ⟨y,c,off,k,n,d,st,p,len,cap,hx,hs,e0,e1,e2,e3,e4,hr⟩:=h
 obtain rfl:=Option.some.inj hx
 obtain ⟨k1,n1,d1,s1,l1⟩:=x
 obtain ⟨sl,hv,_,_,_,_,hrs⟩:=hr.open
 simp only[Value.agg.injEq,Array.mk.injEq,List.cons.injEq,Value.string.injEq] at hv
 obtain ⟨_,_,_,rfl,_,_⟩:=hv
 refine zbW (v:=.pointer (some ⟨c,off+3,none⟩)) (w':=w) ?_ ⟨c,off+3,rfl,e3⟩ qzB
 have hev:a.eval (.tmp s)=.pointer (some ⟨c,off,none⟩):=hs
 clear hr hx hrs e0 e1 e2 e3 e4
 unfold execOp
 rw[ho]
 simp only[hev]
 clear hev hs ho
 go_simp
theorem zhH {o1:Option (List Dat)} {s:Nat} (ho:o.op=.load 22 (.tmp s)) (h:(Sp.sla o1).holds S (a.tmps.getD s undef) w):o.wp prog a w (SpK S (.row o1) o a w) Q:=by
 obtain ⟨l,c,off,u,hx,hs,e0,hr⟩:=h
 obtain ⟨p,len,cap,hu,hln,hcp,hmx,hc⟩:=id hr
 subst hu
 replace e0:=(zaa e0).2
 have el:=zai e0
 refine zbW (v:=.slice p len cap) (w':=w) ?_ ⟨l,hx,hr⟩ qzB
 have hev:a.eval (.tmp s)=.pointer (some ⟨c,off,none⟩):=hs
 clear hr hx hc hln hcp hmx
 unfold execOp
 rw[ho]
 simp only[hev]
 clear hev hs ho
 go_simp
theorem zlc {st:ByteArray} {s:Nat} (ho:o.op=.load 9 (.tmp s)) (h:(Sp.stp st).holds S (a.tmps.getD s undef) w):o.wp prog a w (SpK S (.val (.string st)) o a w) Q:=by
 obtain ⟨c,off,hs,e0⟩:=h
 replace e0:=(zaa e0).2
 have el:=zai e0
 refine zbW (v:=.string st) (w':=w) ?_ rfl qzB
 have hev:a.eval (.tmp s)=.pointer (some ⟨c,off,none⟩):=hs
 unfold execOp
 rw[ho]
 simp only[hev]
 clear hev hs ho
 go_simp
theorem zdJ {W:World} {B b:Nat}:∀(k:Nat) (l:List Dat) (off:Nat),RepC W B l b off->RepC W B (l.drop k) b (off+k*5)
 | 0,l,off,h=>by simpa using h
 | k+1,[],off,_=>by rw[List.drop_nil];trivial
 | k+1,x::l,off,h=>by
  rw[RepC] at h
  have:=zdJ k l (off+5) h.2
  rw[List.drop_succ_cons,show off+(k+1)*5=off+5+k*5 by omega]
  exact this
theorem zfL {W:World} {B k:Nat} {l:List Dat} {v:Value} (hr:RepS W B l v) (hk0:0<k) (hk:k<=l.length) (hk1:k<1000):∃q,RepS W B (l.drop k) q∧∀(o:Oper) (a:Act) (w:World) (s:Nat),o.op=.slice 22 (.tmp s) (some (.const (.int .i64 (k:Int)))) none none->a.tmps.getD s undef=v->(execOp a.eval o).run prog w=.ok (.value q) w:=by
 obtain ⟨p,len,cap,rfl,jk,hcap,hmax,hc⟩:=hr
 match p,hc with
 | none,hc=>
  exfalso
  have:=hc.1
  subst this
  simp at hk
  omega
 | some ad,hc=>
 have hlk:k<=len:=by rw[jk];exact hk
 have hne:l≠[]:=by rintro rfl;simp at hk;omega
 obtain ⟨blk,off,spt⟩:=ad
 obtain rfl:spt=none:=(hc.1 hne).1
 have ji:∃q,(if cap=k then some (⟨blk,off,none⟩:Addr) else some (⟨blk,off+k*5,none⟩:Addr))=some q∧RepS W B (l.drop k) (.slice (some q) (len-k) (cap-k)):=by
  by_cases hck:cap=k
  ·rw[if_pos hck]
   refine ⟨_,rfl,_,_,_,rfl,by rw[List.length_drop,jk],by omega,by omega,?_⟩
   have hnil:l.drop k=[]:=List.drop_eq_nil_of_le (by omega)
   rw[hnil]
   exact ⟨fun h=>absurd rfl h,trivial⟩
  ·rw[if_neg hck]
   refine ⟨_,rfl,_,_,_,rfl,by rw[List.length_drop,jk],by omega,by omega,?_⟩
   have hc2:=zdJ k l _ hc.2
   exact ⟨fun _=>⟨rfl,(hc.1 hne).2⟩,hc2⟩
 obtain ⟨q,hq,ji⟩:=ji
 refine ⟨_,ji,fun o a w s ho hs=>?_⟩
 have hev:a.eval (.tmp s)=.slice (some ⟨blk,off,none⟩) len cap:=hs
 have hev2:a.eval (.const (.int .i64 (k:Int)))=.int .i64 k:=rfl
 have h0:¬((k:Int)<0):=by omega
 have h1:((k:Int)<=(len:Int)):=by omega
 have h2:¬((len:Int)<(k:Int)):=by omega
 have h3:(k:Int).toNat=k:=by omega
 have h4:¬(cap<len):=by omega
 have h5:¬(len<k):=by omega
 clear ji hc jk hs hmax hk hne
 unfold execOp
 rw[ho]
 simp only[hev,hev2,Option.map_some,Option.map_none]
 clear hev hev2 ho
 go_simp
 try exact hq
theorem zaD {l:List Dat} {s k:Nat} (ho:o.op=.slice 22 (.tmp s) (some (.const (.int .i64 (k:Int)))) none none) (h:(Sp.row (some l)).holds S (a.tmps.getD s undef) w) (hk0:0<k) (hk:k<=l.length) (hk1:k<1000):o.wp prog a w (SpK S (.row (some (l.drop k))) o a w) Q:=by
 obtain ⟨q,h1,h2⟩:=zfL (Sp.data h) hk0 hk hk1
 exact zbW (h2 o a w s ho rfl) ⟨_,rfl,h1⟩ qzB
theorem zlJ {o1:Option Dat} {s:Nat} (ho:o.op=.buildSlice 22 1 #[(0,.tmp s)]) (h:(Sp.dat o1).holds S (a.tmps.getD s undef) w) (hS:∀c,S c->c<w.heap.size):o.wp prog a w (SpK S (.one o1) o a w) Q:=by
 obtain ⟨x,hx,hr⟩:=h
 obtain ⟨k,n,d,st,p,len,cap,hv⟩:=zae hr.unhide
 rw[hv] at hr
 exact zbW (zd8 ho hv) ⟨x,_,hx,rfl,zax hS hr⟩ (Below.one _ _)
theorem zdp {o1 o2:Option Dat} {s t:Nat} (ho:o.op=.buildSlice 22 2 #[(0,.tmp s),(1,.tmp t)]) (h1:(Sp.dat o1).holds S (a.tmps.getD s undef) w) (h2:(Sp.dat o2).holds S (a.tmps.getD t undef) w) (hS:∀c,S c->c<w.heap.size):o.wp prog a w (SpK S (.row (o1.bind fun x=>o2.bind fun y=>some [x,y])) o a w) Q:=by
 obtain ⟨x,rfl,hr⟩:=h1
 obtain ⟨k,n,d,st,p,len,cap,hv⟩:=zae hr.unhide
 rw[hv] at hr
 obtain ⟨y,rfl,hr2⟩:=h2
 obtain ⟨k2,n2,d2,st2,p2,len2,cap2,hv2⟩:=zae hr2.unhide
 rw[hv2] at hr2
 exact zbW (zcE ho hv hv2) ⟨_,rfl,zbs (W:=w) (n:=2) (cs:=[.int .i64 k,.int .i64 n,.int .i64 d,.string st,.slice p len cap,.int .i64 k2,.int .i64 n2,.int .i64 d2,.string st2,.slice p2 len2 cap2]) rfl (by omega) hS ⟨_,_,_,_,_,_,rfl,hr,_,_,_,_,_,_,rfl,hr2,rfl⟩⟩ (Below.one _ _)
theorem zi6 (w:World) (k n d k' n' d' k2 n2 d2:Int) (s s' s2:ByteArray) (o o' o2:Option Addr) (l c l' c' l2 c2:Nat):(Instr.buildSlice 22 3 #[(0,.agg #[.int .i64 k,.int .i64 n,.int .i64 d,.string s,.slice o l c]),(1,.agg #[.int .i64 k',.int .i64 n',.int .i64 d',.string s',.slice o' l' c']),(2,.agg #[.int .i64 k2,.int .i64 n2,.int .i64 d2,.string s2,.slice o2 l2 c2])]).run prog w=.ok (.slice (some ⟨w.heap.size,0,none⟩) 3 3) (w.alloc (.cells #[.int .i64 k,.int .i64 n,.int .i64 d,.string s,.slice o l c,.int .i64 k',.int .i64 n',.int .i64 d',.string s',.slice o' l' c',.int .i64 k2,.int .i64 n2,.int .i64 d2,.string s2,.slice o2 l2 c2] 26)):=by go_simp
theorem zbX {o1 o2 o3:Option Dat} {s t u:Nat} (ho:o.op=.buildSlice 22 3 #[(0,.tmp s),(1,.tmp t),(2,.tmp u)]) (h1:(Sp.dat o1).holds S (a.tmps.getD s undef) w) (h2:(Sp.dat o2).holds S (a.tmps.getD t undef) w) (h3:(Sp.dat o3).holds S (a.tmps.getD u undef) w) (hS:∀c,S c->c<w.heap.size):o.wp prog a w (SpK S (.row (o1.bind fun x=>o2.bind fun y=>o3.bind fun z=>some [x,y,z])) o a w) Q:=by
 obtain ⟨x,rfl,hr⟩:=h1
 obtain ⟨k,n,d,st,p,len,cap,hv⟩:=zae hr.unhide
 rw[hv] at hr
 obtain ⟨y,rfl,hr2⟩:=h2
 obtain ⟨k2,n2,d2,st2,p2,len2,cap2,hv2⟩:=zae hr2.unhide
 rw[hv2] at hr2
 obtain ⟨z,rfl,hr3⟩:=h3
 obtain ⟨k3,n3,d3,st3,p3,len3,cap3,hv3⟩:=zae hr3.unhide
 rw[hv3] at hr3
 have hrun:(execOp a.eval o).run prog w=.ok (.value (.slice (some ⟨w.heap.size,0,none⟩) 3 3)) (w.alloc (.cells #[.int .i64 k,.int .i64 n,.int .i64 d,.string st,.slice p len cap,.int .i64 k2,.int .i64 n2,.int .i64 d2,.string st2,.slice p2 len2 cap2,.int .i64 k3,.int .i64 n3,.int .i64 d3,.string st3,.slice p3 len3 cap3] 26)):=by
  have hmap:(#[(0,Operand.tmp s),(1,Operand.tmp t),(2,Operand.tmp u)]:Array (Nat × Operand)).map (fun (i,x)=>(i,a.eval x))=#[(0,.agg #[.int .i64 k,.int .i64 n,.int .i64 d,.string st,.slice p len cap]),(1,.agg #[.int .i64 k2,.int .i64 n2,.int .i64 d2,.string st2,.slice p2 len2 cap2]),(2,.agg #[.int .i64 k3,.int .i64 n3,.int .i64 d3,.string st3,.slice p3 len3 cap3])]:=by
   simp only[List.map_toArray,List.map_cons,List.map_nil]
   rw[<-hv,<-hv2,<-hv3];rfl
  unfold execOp
  rw[ho]
  show (do let r <-Instr.buildSlice 22 3 ((#[(0,Operand.tmp s),(1,Operand.tmp t),(2,Operand.tmp u)]:Array (Nat × Operand)).map (fun (i,x)=>(i,a.eval x)));pure (Next.value r):Sem Next).run prog w=_
  rw[hmap]
  simp only[Sem.run_bind,Sem.run_pure,zi6,Result.andThen_ok]
 exact zbW hrun ⟨_,rfl,zbs (W:=w) (n:=3) (cs:=[.int .i64 k,.int .i64 n,.int .i64 d,.string st,.slice p len cap,.int .i64 k2,.int .i64 n2,.int .i64 d2,.string st2,.slice p2 len2 cap2,.int .i64 k3,.int .i64 n3,.int .i64 d3,.string st3,.slice p3 len3 cap3]) rfl (by omega) hS ⟨_,_,_,_,_,_,rfl,hr,_,_,_,_,_,_,rfl,hr2,_,_,_,_,_,_,rfl,hr3,rfl⟩⟩ (Below.one _ _)
theorem zcz {f:FuncId} {args:Array Operand} {ts:Array TypeId} {vals:Array Value} {o1:Option Dat} {x:Dat} (ho:o.op=.call { callee:=.value (.func f),args:=args,argTypes:=ts }) (hv:args.map a.eval=vals) (hf:∀args w,(callFunc f args).run prog w=.ok (.enter f args) w) (hc:Calls prog f vals w (DatPostH S x w)) (hx:o1=some x):o.wp prog a w (SpK S (.dat o1) o a w) Q:=by
 refine zbe ho hv hf hc ?_
 rintro e w' ⟨v,rfl,h1,h2⟩
 exact .inl ⟨v,rfl,v,rfl,⟨x,hx,h1⟩,h2⟩
theorem zcc {o1:Option (List Dat)} {s:Nat} {ts:Array TypeId} (ho:o.op=.call { callee:=.value (.func 87),args:=#[.tmp s],argTypes:=ts }) (h:(Sp.row o1).holds S (a.tmps.getD s undef) w) (hS:∀c,S c->c<w.heap.size):o.wp prog a w (SpK S (.dat (o1.map Dat.list)) o a w) Q:=by
 obtain ⟨l,rfl,hr⟩:=h
 exact zcz ho (vals:=#[a.tmps.getD s undef]) (by simp only[List.map_toArray,List.map_cons,List.map_nil];rfl) (fun _ _=>rfl) (zaW S l _ _ w hS hr qzL) rfl
theorem za9 {o1:Option (List Dat)} {key:ByteArray} {s:Nat} {ts:Array TypeId} (ho:o.op=.call { callee:=.value (.func 52),args:=#[.const (.string key),.tmp s],argTypes:=ts }) (h:(Sp.row o1).holds S (a.tmps.getD s undef) w) (hk:key.size<=140737488351232) (hl:∀l,o1=some l->l.length<=999999) (hS:∀c,S c->c<w.heap.size):o.wp prog a w (SpK S (.dat (o1.map (Sy.form key))) o a w) Q:=by
 obtain ⟨l,rfl,hr⟩:=h
 exact zcz ho (vals:=#[.string key,a.tmps.getD s undef]) (by simp only[List.map_toArray,List.map_cons,List.map_nil];rfl) (fun _ _=>rfl) (zbD S key hk l _ _ w hS hr qzL (hl l rfl)) rfl
theorem zhN {o1:Option (List Dat)} {key:ByteArray} {s t:Nat} {ts:Array TypeId} (ho:o.op=.call { callee:=.value (.func 52),args:=#[.tmp t,.tmp s],argTypes:=ts }) (hkv:(Sp.val (.string key)).holds S (a.tmps.getD t undef) w) (h:(Sp.row o1).holds S (a.tmps.getD s undef) w) (hk:key.size<=140737488351232) (hl:∀l,o1=some l->l.length<=999999) (hS:∀c,S c->c<w.heap.size):o.wp prog a w (SpK S (.dat (o1.map (Sy.form key))) o a w) Q:=by
 obtain ⟨l,rfl,hr⟩:=h
 exact zcz ho (vals:=#[.string key,a.tmps.getD s undef]) (by simp only[List.map_toArray,List.map_cons,List.map_nil];rw[<-show a.tmps.getD t undef=.string key from hkv];rfl) (fun _ _=>rfl) (zbD S key hk l _ _ w hS hr qzL (hl l rfl)) rfl
theorem zcU {l m:List Dat} {s t:Nat} {ts:Array TypeId} (ho:o.op=.call { callee:=.value (.func 53),args:=#[.tmp s,.tmp t],argTypes:=ts }) (h1:(Sp.row (some l)).holds S (a.tmps.getD s undef) w) (h2:(Sp.row (some m)).holds S (a.tmps.getD t undef) w) (jk:l.length=m.length) (hl:l.length<=100000) (hS:∀c,S c->c<w.heap.size):o.wp prog a w (SpK S (.dat (some (Sy.pairs l m))) o a w) Q:=
 zcz ho (vals:=#[a.tmps.getD s undef,a.tmps.getD t undef]) (by simp only[List.map_toArray,List.map_cons,List.map_nil];rfl) (fun _ _=>rfl) (ziA S l m _ _ _ w hS (Sp.data h1) (Sp.data h2) qzL jk hl) rfl
theorem zfb {o1:Option Dat} {s:Nat} {ts:Array TypeId} (ho:o.op=.call { callee:=.value (.func 89),args:=#[.tmp s],argTypes:=ts }) (h:(Sp.dat o1).holds S (a.tmps.getD s undef) w) (hS:∀c,S c->c<w.heap.size):o.wp prog a w (SpK S (.dat (o1.map Sy.const)) o a w) Q:=by
 obtain ⟨x,rfl,hr⟩:=h
 exact zcz ho (vals:=#[a.tmps.getD s undef]) (by simp only[List.map_toArray,List.map_cons,List.map_nil];rfl) (fun _ _=>rfl) (zc3 S x _ _ w hS hr qzL) rfl
theorem zdC {n:Int} {ts:Array TypeId} (ho:o.op=.call { callee:=.value (.func 146),args:=#[.const (.int .i64 n)],argTypes:=ts }) (hn:-9223372036854775808<=n∧n<=9223372036854775807) (hS:∀c,S c->c<w.heap.size):o.wp prog a w (SpK S (.dat (some (Sy.truth n))) o a w) Q:=
 zcz ho (vals:=#[.int .i64 n]) (by simp only[List.map_toArray,List.map_cons,List.map_nil];rfl) (fun _ _=>rfl) (zeN S n hn w hS) rfl
theorem zeb {ts:Array TypeId} (ho:o.op=.call { callee:=.value (.func 106),args:=#[],argTypes:=ts }) (hS:∀c,S c->c<w.heap.size):o.wp prog a w (SpK S (.dat (some Sy.void)) o a w) Q:=
 zcz ho (vals:=#[]) (by simp only[List.map_toArray,List.map_nil]) (fun _ _=>rfl) (zga S w hS) rfl
theorem zlE {key:ByteArray} {ts:Array TypeId} (ho:o.op=.call { callee:=.value (.func 90),args:=#[.const (.string key)],argTypes:=ts }) (hk:key.size<=140737488351232):o.wp prog a w (SpK S (.dat (some (Sy.sym key))) o a w) Q:=by
 refine zbe (vals:=#[.string key]) ho (by simp only[List.map_toArray,List.map_cons,List.map_nil];rfl) (fun _ _=>rfl) (zd1 key w) ?_
 rintro e w' ⟨rfl,h2⟩
 exact .inl ⟨_,rfl,_,rfl,⟨_,rfl,zgH _ hk⟩,h2⟩
theorem zjX {o1:Option Dat} {o2:Option (List Dat)} {s t:Nat} (ho:o.op=.call { callee:=.builtin .append,args:=#[.tmp s,.tmp t],argTypes:=#[22,22] }) (h1:(Sp.one o1).holds S (a.tmps.getD s undef) w) (h2:(Sp.row o2).holds S (a.tmps.getD t undef) w) (hl:∀l,o2=some l->l.length<=999999) (hS:∀c,S c->c<w.heap.size):o.wp prog a w (SpK S (.row (o1.bind fun x=>o2.bind fun l=>some (x::l))) o a w) Q:=by
 obtain ⟨x,p,rfl,hv,hr⟩:=h1
 obtain ⟨l,rfl,hr2⟩:=h2
 rw[hv] at hr
 refine Oper.wp_mono ?_ (zdK (S:=S) (.tmp s) (.tmp t) ho x l p _ hv rfl hr hr2 hS (hl l rfl))
 rintro a' w' ⟨v,rfl,h3,h4⟩
 exact ⟨v,rfl,⟨_,rfl,h3⟩,h4⟩
theorem zaI {f:FuncId} {args:Array Operand} {ts:Array TypeId} {vals:Array Value} {b:Nat} {p:Option (Dat × Nat)} (ho:o.op=.call { callee:=.value (.func f),args:=args,argTypes:=ts }) (hv:args.map a.eval=vals) (hf:∀args w,(callFunc f args).run prog w=.ok (.enter f args) w) (hc:Calls prog f vals w (XRes S b p w)) (hbad:p=none->∀w',Turned (fun c=>c=b) w w'->Q (.panic badE) a w'):o.wp prog a w (SpX S b (cnt p) (.dat (p.map (·.1))) o a w) Q:=by
 refine zbe ho hv hf hc ?_
 intro e w' he
 match p,he,hbad with
 | none,he,hbad=>
  obtain ⟨rfl,ht⟩:=he
  exact .inr ⟨_,rfl,hbad rfl _ ht⟩
 | some (y,m),he,_=>
  obtain ⟨v,rfl,h1,h2,h3⟩:=he
  exact .inl ⟨v,rfl,v,rfl,⟨y,rfl,h1⟩,h2,h3⟩
theorem zhP {f:FuncId} {args:Array Operand} {ts:Array TypeId} {vals:Array Value} {b:Nat} {p:Option (List Dat × Nat)} (ho:o.op=.call { callee:=.value (.func f),args:=args,argTypes:=ts }) (hv:args.map a.eval=vals) (hf:∀args w,(callFunc f args).run prog w=.ok (.enter f args) w) (hc:Calls prog f vals w (XAll S b p w)) (hbad:p=none->∀w',Turned (fun c=>c=b) w w'->Q (.panic badE) a w'):o.wp prog a w (SpX S b (cnt p) (.row (p.map (·.1))) o a w) Q:=by
 refine zbe ho hv hf hc ?_
 intro e w' he
 match p,he,hbad with
 | none,he,hbad=>
  obtain ⟨rfl,ht⟩:=he
  exact .inr ⟨_,rfl,hbad rfl _ ht⟩
 | some (y,m),he,_=>
  obtain ⟨v,rfl,h1,h2,h3⟩:=he
  exact .inl ⟨v,rfl,v,rfl,⟨y,rfl,h1.rep⟩,h2,h3⟩
end
theorem rowlen2 {o1 o2:Option Dat}:∀l,(o1.bind fun x=>o2.bind fun y=>some [x,y])=some l->l.length<=999999:=fun l h=>by
 cases o1 with
 | none=>cases h
 | some x=>cases o2 with
  | none=>cases h
  | some y=>obtain rfl:=Option.some.inj h;simp
theorem rowlen3 {o1 o2 o3:Option Dat}:∀l,(o1.bind fun x=>o2.bind fun y=>o3.bind fun z=>some [x,y,z])=some l->l.length<=999999:=fun l h=>by
 cases o1 with
 | none=>cases h
 | some x=>cases o2 with
  | none=>cases h
  | some y=>cases o3 with
   | none=>cases h
   | some z=>obtain rfl:=Option.some.inj h;simp
theorem zg1 {ops:Array Oper} (h:backB .any ops=true) {i:Nat} {o:Oper} (ho:ops[i]?=some o) {e:Edge} (he:e∈o.after) (hb:Region.binds .any e=true):e.on<i:=by
 have h1:=List.all_eq_true.1 h i (List.mem_range.2 (Array.getElem?_eq_some_iff.1 ho).1)
 rw[ho] at h1
 simp only[Option.map_some,Option.getD_some] at h1
 have h2:=Array.all_eq_true_iff_forall_mem.1 h1 e he
 simpa[hb] using h2
def reachB (ops:Array Oper):Nat->Nat->Nat->Bool
 | 0,p,q=>decide (p=q)
 | g+1,p,q=>decide (p=q) || (match ops[q]? with | some o=>o.after.any fun e=>Region.binds .any e&&reachB ops g p e.on | none=>false)
theorem zho {P:Program} {id:Nat} {Q:Exit->Act->World->Prop} {a0:Act} {w:World} {l:List Oper} {b:Nat} (n:Nat) (ps:List Nat) (ns:Nat->Nat) (R:Nat->Value->World->Prop) (hm:P.follows .mixedOrders=true) (hB:monoB l.toArray n a0.tmps.size=true)
  (hnd:ps.Nodup) (hpn:∀p∈ps,p<n) (hchain:∀k p p',ps[k]?=some p->ps[k+1]?=some p'->∀o,l.toArray[p']?=some o->∃e∈o.after,Region.binds .any e=true∧reachB l.toArray l.length p e.on=true)
  (h0:XP w.drew b (ns 0)) (hR:∀i v A B,i<n->R i v A->Turned (fun c=>c=b) w.drew A->Turned (fun c=>c=b) A B->R i v B)
  (hops:∀i o,i<n->¬i∈ps->l.toArray[i]?=some o->o.guard=none->∀(a:Act) (w1:World),a.defers=a0.defers->a.tmps.size=a0.tmps.size->Turned (fun c=>c=b) w.drew w1->(∀j oj d,j<n->l.toArray[j]?=some oj->(∃e∈o.after,Region.binds .any e=true∧e.on=j)->oj.dst=some d->R j (a.tmps.getD d undef) w1)->Rest l.toArray n a0 a ->
   o.wp P a w1 (fun a' w'=>∃v,a'=a.put o.dst v∧R i v w'∧Below w1.heap.size w1 w') Q)
  (hcall:∀k i o,ps[k]?=some i->l.toArray[i]?=some o->o.guard=none->∀(a:Act) (w1:World),a.defers=a0.defers->a.tmps.size=a0.tmps.size->Turned (fun c=>c=b) w.drew w1->XP w1 b (ns k)->(∀j oj d,j<n->l.toArray[j]?=some oj->(∃e∈o.after,Region.binds .any e=true∧e.on=j)->oj.dst=some d->R j (a.tmps.getD d undef) w1)->(∀j i' o' d',j<k->ps[j]?=some i'->l.toArray[i']?=some o'->o'.dst=some d'->R i' (a.tmps.getD d' undef) w1)->Rest l.toArray n a0 a ->
   o.wp P a w1 (fun a' w'=>∃v,a'=a.put o.dst v∧R i v w'∧Turned (fun c=>c=b) w1 w'∧XP w' b (ns (k+1))) Q)
  (hend:∀a w1,a.defers=a0.defers->a.tmps.size=a0.tmps.size->Turned (fun c=>c=b) w.drew w1->XP w1 b (ns ps.length)->(∀i o d,i<n->l.toArray[i]?=some o->o.dst=some d->R i (a.tmps.getD d undef) w1)->Rest l.toArray n a0 a->wpList P l.toArray Q (l.drop n) a w1) :
  (Code.region id l.toArray true).wp P Q a0 w:=by
 have hB':=hB
 simp only[monoB,monoG,Bool.and_eq_true,decide_eq_true_eq] at hB'
 obtain ⟨⟨hbk,_,_,hn,hsl,_⟩,hgd⟩:=hB'
 refine zcy n (fun listed a W=>Turned (fun c=>c=b) w.drew W∧(∃k,k<=ps.length∧XP W b (ns k)∧∀j p,ps[j]?=some p->(listed.getD p false=true↔j<k))∧(∀i o,i<n->l.toArray[i]?=some o->listed.getD i false=true->∀e∈o.after,Region.binds .any e=true->listed.getD e.on false=true)∧∀i o d,i<n->l.toArray[i]?=some o->listed.getD i false=true->o.dst=some d->R i (a.tmps.getD d undef) W) hm hB ⟨Turned.refl _ _,⟨0,Nat.zero_le _,h0,fun j p _=>by rw[getD_replicate_false];simp⟩,fun i o _ _ h=>(by rw[getD_replicate_false] at h;cases h),fun i o d _ _ h=>by rw[getD_replicate_false] at h;cases h⟩ ?_ ?_
 ·intro i o hi ho listed a w1 hls hdf hsz ja ⟨hex,⟨k,hk,hxp,hpre⟩,hclo,hval⟩ hun hdeps
  have hlt:i<listed.size:=by rw[hls];omega
  have hset:(listed.setIfInBounds i true).getD i false=true:=by simp[hlt]
  have hclo':∀j oj,j<n->l.toArray[j]?=some oj->(listed.setIfInBounds i true).getD j false=true->∀e∈oj.after,Region.binds .any e=true->(listed.setIfInBounds i true).getD e.on false=true:=by
   intro j oj hj hoj hl e he hb
   have hold:listed.getD e.on false=true:=by
    by_cases h:i=j
    ·subst h
     obtain rfl:oj=o:=Option.some.inj (hoj.symm.trans ho)
     exact hdeps e he hb
    ·rw[getD_set_ne false h] at hl
     exact hclo j oj hj hoj hl e he hb
   by_cases h:i=e.on
   ·rw[<-h];exact hset
   ·rw[getD_set_ne false h];exact hold
  have hreach:∀(g p q:Nat),reachB l.toArray g p q=true->q<n->listed.getD q false=true->listed.getD p false=true:=by
   intro g
   induction g with
   | zero=>intro p q h _ hq;simp only[reachB,decide_eq_true_eq] at h;subst h;exact hq
   | succ g ih=>
    intro p q h hqn hq
    simp only[reachB,Bool.or_eq_true,decide_eq_true_eq] at h
    rcases h with h | h
    ·subst h;exact hq
    ·cases hoq:l.toArray[q]? with
     | none=>rw[hoq] at h;cases h
     | some oq=>
      rw[hoq] at h
      rw[Array.any_eq_true'] at h
      obtain ⟨e,he,hb⟩:=h
      simp only[Bool.and_eq_true] at hb
      exact ih p e.on hb.2 (by have:=zg1 hbk hoq he hb.1;omega) (hclo q oq hqn hoq hq e he hb.1)
  have jb:∀j oj d,j<n->l.toArray[j]?=some oj->(∃e∈o.after,Region.binds .any e=true∧e.on=j)->oj.dst=some d->R j (a.tmps.getD d undef) w1:=fun j oj d hj hoj ⟨e,he,hb,hon⟩ hd=>hval j oj d hj hoj (by have:=hdeps e he hb;rwa[hon] at this) hd
  have hvals:∀v w',R i v w'->Turned (fun c=>c=b) w1 w'->∀j oj d,j<n->l.toArray[j]?=some oj->(listed.setIfInBounds i true).getD j false=true->oj.dst=some d->R j ((Act.put a o.dst v).tmps.getD d undef) w':=by
   intro v w' hv hx j oj d hj hoj hl hd
   by_cases e:i=j
   ·subst e
    obtain rfl:oj=o:=Option.some.inj (hoj.symm.trans ho)
    have hd':=(zaV hsl hi hi ho ho hd hd).1
    rw[hd,zaO (by rw[hsz];exact hd'),if_pos rfl]
    exact hv
   ·rw[getD_set_ne false e] at hl
    have hold:=hval j oj d hj hoj hl hd
    have hsame:(a.put o.dst v).tmps.getD d undef=a.tmps.getD d undef:=by
     cases hdo:o.dst with
     | none=>rfl
     | some d'=>
      obtain ⟨hd',hne⟩:=zaV hsl hi hj ho hoj hdo hd
      rw[zaO (by rw[hsz];exact hd'),if_neg (hne.resolve_left e)]
    rw[hsame]
    exact hR j _ _ _ hj hold hex hx
  by_cases hip:i∈ps
  ·obtain ⟨j,hj⟩:=List.getElem?_of_mem hip
   have hkj:¬j<k:=fun h=>by
    have:=(hpre j i hj).2 h
    rw[hun] at this
    cases this
   have hjk:j=k:=by
    rcases Nat.lt_or_ge k j with h | h
    ·exfalso
     obtain ⟨j',rfl⟩:∃j',j=j'+1:=⟨j-1,by omega⟩
     have hjl:=(List.getElem?_eq_some_iff.1 hj).1
     have hp:ps[j']?=some ps[j']:=List.getElem?_eq_getElem (by omega)
     obtain ⟨e,he,hb,hon⟩:=hchain j' _ i hp hj o ho
     have h1:=hreach _ _ _ hon (by have:=zg1 hbk ho he hb;omega) (hdeps e he hb)
     have:=(hpre j' _ hp).1 h1
     omega
    ·omega
   subst hjk
   refine Oper.wp_mono ?_ (hcall j i o hj ho (zaF hgd hi ho) a w1 hdf hsz hex hxp jb (fun j' i' o' d' hj' hi' ho' hd'=>hval i' o' d' (hpn i' (List.mem_of_getElem? hi')) ho' ((hpre j' i' hi').2 hj') hd') ja)
   rintro a' w' ⟨v,rfl,hv,hx,hxp'⟩
   refine ⟨v,rfl,hex.next hx,⟨j+1,(List.getElem?_eq_some_iff.1 hj).1,hxp',fun j2 p hp=>?_⟩,hclo',hvals v w' hv hx⟩
   by_cases e:i=p
   ·subst e
    have:j2=j:=(List.getElem?_inj (List.getElem?_eq_some_iff.1 hp).1 hnd).1 (hp.trans hj.symm)
    subst this
    rw[hset]
    simp
   ·rw[getD_set_ne false e,hpre j2 p hp]
    have:j2≠j:=fun h=>e (by subst h;rw[hj] at hp;exact Option.some.inj hp)
    omega
  ·refine Oper.wp_mono ?_ (hops i o hi hip ho (zaF hgd hi ho) a w1 hdf hsz hex jb ja)
   rintro a' w' ⟨v,rfl,hv,hx⟩
   refine ⟨v,rfl,hex.next (Turned.of_below hx),⟨k,hk,hxp.keepB hx,fun j p hp=>?_⟩,hclo',hvals v w' hv (Turned.of_below hx)⟩
   rw[getD_set_ne false (fun e=>hip (by subst e;exact List.mem_of_getElem? hp))]
   exact hpre j p hp
 ·intro listed a w1 hall hdf hsz ja ⟨hex,⟨k,hk,hxp,hpre⟩,_,hval⟩
  have hkl:k=ps.length:=by
   rcases Nat.lt_or_ge k ps.length with h | h
   ·exfalso
    have hp:ps[k]?=some ps[k]:=List.getElem?_eq_getElem h
    have:=(hpre k _ hp).1 (hall _ (hpn _ (List.getElem_mem h)))
    omega
   ·omega
  subst hkl
  exact hend a w1 hdf hsz hex hxp (fun i o d hi ho hd=>hval i o d hi ho (hall i hi) hd) ja
def chB (dr:Bool) (ops:Array Oper):List Nat->Bool
 | p::p'::r=>(if dr then (match ops[p']? with | some o=>o.after.any fun e=>Region.binds .any e&&reachB ops ops.size p e.on | none=>false) else decide (p<p'))&&chB dr ops (p'::r)
 | _=>true
theorem ziT {dr:Bool} {ops:Array Oper}:∀{ps:List Nat},chB dr ops ps=true->∀k p p',ps[k]?=some p->ps[k+1]?=some p'->(if dr then (match ops[p']? with | some o=>o.after.any fun e=>Region.binds .any e&&reachB ops ops.size p e.on | none=>false) else decide (p<p'))=true
 | [],_,k,p,p',h1,_=>by simp at h1
 | [_],_,k,p,p',_,h2=>by simp at h2
 | q::q'::r,h,0,p,p',h1,h2=>by
  simp only[chB,Bool.and_eq_true] at h
  simp only[List.getElem?_cons_zero,Option.some.injEq,List.getElem?_cons_succ,Nat.zero_add] at h1 h2
  subst h1;subst h2
  exact h.1
 | q::q'::r,h,k+1,p,p',h1,h2=>by
  simp only[chB,Bool.and_eq_true] at h
  rw[List.getElem?_cons_succ] at h1 h2
  exact ziT h.2 k p p' h1 h2
def zB (dr:Bool) (ops:Array Oper) (n m:Nat):Bool:=if dr then monoB ops n m else backB .any ops&&(decide (n<=ops.size)&&(slotsB ops n m&&guardsB .any ops n m []))
theorem zed {P:Program} {id:Nat} {dr:Bool} {Q:Exit->Act->World->Prop} {a0:Act} {w:World} {l:List Oper} {b:Nat} (n:Nat) (ps:List Nat) (ns:Nat->Nat) (R:Nat->Value->World->Prop) (hm:P.follows .mixedOrders=true) (hB:zB dr l.toArray n a0.tmps.size=true)
  (hnd:ps.Nodup) (hpn:∀p∈ps,p<n) (hch:chB dr l.toArray ps=true)
  (h0:XP w b (ns 0)) (hR:∀i v A B,i<n->R i v A->Turned (fun c=>c=b) A B->R i v B)
  (hops:∀i o,i<n->¬i∈ps->l.toArray[i]?=some o->∀(a:Act) (w1:World),a.defers=a0.defers->a.tmps.size=a0.tmps.size->Turned (fun c=>c=b) w w1->(∀j oj d,j<n->l.toArray[j]?=some oj->(∃e∈o.after,Region.binds .any e=true∧e.on=j)->oj.dst=some d->R j (a.tmps.getD d undef) w1)->Rest l.toArray n a0 a ->
   o.wp P a w1 (fun a' w'=>∃v,a'=a.put o.dst v∧R i v w'∧Below w1.heap.size w1 w') Q)
  (hcall:∀k i o,ps[k]?=some i->l.toArray[i]?=some o->∀(a:Act) (w1:World),a.defers=a0.defers->a.tmps.size=a0.tmps.size->Turned (fun c=>c=b) w w1->XP w1 b (ns k)->(∀j oj d,j<n->l.toArray[j]?=some oj->(∃e∈o.after,Region.binds .any e=true∧e.on=j)->oj.dst=some d->R j (a.tmps.getD d undef) w1)->(∀j i' o' d',j<k->ps[j]?=some i'->l.toArray[i']?=some o'->o'.dst=some d'->R i' (a.tmps.getD d' undef) w1)->Rest l.toArray n a0 a ->
   o.wp P a w1 (fun a' w'=>∃v,a'=a.put o.dst v∧R i v w'∧Turned (fun c=>c=b) w1 w'∧XP w' b (ns (k+1))) Q)
  (hend:∀a w1,a.defers=a0.defers->a.tmps.size=a0.tmps.size->Turned (fun c=>c=b) w w1->XP w1 b (ns ps.length)->(∀i o d,i<n->l.toArray[i]?=some o->o.dst=some d->R i (a.tmps.getD d undef) w1)->Rest l.toArray n a0 a->wpList P l.toArray Q (l.drop n) a w1) :
  (Code.region id l.toArray dr).wp P Q a0 w:=by
 have hd:Turned (fun c=>c=b) w w.drew:=Turned.of_below qzB.drew
 cases dr with
 | true=>
  have hB1:monoB l.toArray n a0.tmps.size=true:=hB
  refine zho (b:=b) n ps ns R hm hB1 hnd hpn ?_ (h0.keepB qzB.drew) (fun i v A B hi h _ ht=>hR i v A B hi h ht) (fun i o hi hip ho _ a w1 hdf hsz hx jb ja=>hops i o hi hip ho a w1 hdf hsz (hd.next hx) jb ja) (fun k i o hk ho _ a w1 hdf hsz hx hxp jb jg ja=>hcall k i o hk ho a w1 hdf hsz (hd.next hx) hxp jb jg ja) (fun a w1 hdf hsz hx hxp hval ja=>hend a w1 hdf hsz (hd.next hx) hxp hval ja)
  intro k p p' h1 h2 o ho
  have h:=ziT hch k p p' h1 h2
  rw[if_pos rfl,ho] at h
  rw[Array.any_eq_true'] at h
  obtain ⟨e,he,hb⟩:=h
  simp only[Bool.and_eq_true] at hb
  exact ⟨e,he,hb.1,by simpa using hb.2⟩
 | false=>
  have hB':(backB .any l.toArray&&(decide (n<=l.toArray.size)&&(slotsB l.toArray n a0.tmps.size&&guardsB .any l.toArray n a0.tmps.size [])))=true:=hB
  simp only[Bool.and_eq_true,decide_eq_true_eq] at hB'
  obtain ⟨hbk,hns,hsl,hgd⟩:=hB'
  have hnl:n<=l.length:=by simpa using hns
  refine wp_region_lit ?_
  have key:∀m k,m+k=n->∀a w1,a.defers=a0.defers->a.tmps.size=a0.tmps.size->Turned (fun c=>c=b) w w1->(∃q,q<=ps.length∧XP w1 b (ns q)∧∀j p,ps[j]?=some p->(p<k↔j<q))->(∀i o d,i<k->l.toArray[i]?=some o->o.dst=some d->R i (a.tmps.getD d undef) w1)->Rest l.toArray n a0 a->wpList P l.toArray Q (l.drop k) a w1:=by
   intro m
   induction m with
   | zero=>
    intro k hk a w1 hdf hsz ht ⟨q,hq,hxp,hpre⟩ hval ja
    obtain rfl:k=n:=by omega
    have hql:q=ps.length:=by
     rcases Nat.lt_or_ge q ps.length with h | h
     ·exfalso
      have hp:ps[q]?=some ps[q]:=List.getElem?_eq_getElem h
      have:=(hpre q _ hp).1 (hpn _ (List.getElem_mem h))
      omega
     ·omega
    subst hql
    exact hend a w1 hdf hsz ht hxp hval ja
   | succ m ih=>
    intro k hk a w1 hdf hsz ht ⟨q,hq,hxp,hpre⟩ hval ja
    have hkn:k<n:=by omega
    have hkl:k<l.length:=by omega
    have ho:l.toArray[k]?=some l[k]:=by simp[hkl]
    rw[List.drop_eq_getElem_cons hkl]
    have hg:=zaF hgd hkn ho
    have jb:∀j oj d,j<n->l.toArray[j]?=some oj->(∃e∈(l[k]).after,Region.binds .any e=true∧e.on=j)->oj.dst=some d->R j (a.tmps.getD d undef) w1:=fun j oj d hj hoj ⟨e,he,hb,hon⟩ hd=>hval j oj d (by have:=zg1 hbk ho he hb;omega) hoj hd
    unfold wpList
    rw[if_pos (by simp[Region.wanted,hg])]
    left
    have next:∀v w',R k v w'->Turned (fun c=>c=b) w1 w'->(∃q,q<=ps.length∧XP w' b (ns q)∧∀j p,ps[j]?=some p->(p<k+1↔j<q))->wpList P l.toArray Q (l.drop (k+1)) (a.put (l[k]).dst v) w':=by
     intro v w' hv hx hq'
     refine ih (k+1) (by omega) _ w' ?_ ?_ (ht.next hx) hq' ?_ ?_
     ·cases (l[k]).dst<;>exact hdf
     ·cases hdst:(l[k]).dst with
      | none=>exact hsz
      | some d=>simpa[Act.put] using hsz
     ·intro j oj d hj hoj hd
      by_cases e:k=j
      ·subst e
       obtain rfl:oj=l[k]:=Option.some.inj (hoj.symm.trans ho)
       have hd':=(zaV hsl hkn hkn ho ho hd hd).1
       rw[hd,zaO (by rw[hsz];exact hd'),if_pos rfl]
       exact hv
      ·have hold:=hval j oj d (by omega) hoj hd
       have hsame:(a.put (l[k]).dst v).tmps.getD d undef=a.tmps.getD d undef:=by
        cases hdo:(l[k]).dst with
        | none=>rfl
        | some d'=>
         obtain ⟨hd',hne⟩:=zaV hsl hkn (show j<n by omega) ho hoj hdo hd
         rw[zaO (by rw[hsz];exact hd'),if_neg (hne.resolve_left e)]
       rw[hsame]
       exact hR j _ _ _ (by omega) hold hx
     ·intro t hnt
      cases hdst:(l[k]).dst with
      | none=>exact ja t hnt
      | some d'=>
       have hd':=(zaV hsl hkn hkn ho ho hdst hdst).1
       rw[zaO (by rw[hsz];exact hd'),if_neg ?_]
       ·exact ja t hnt
       ·rintro rfl;exact hnt k _ hkn ho hdst
    by_cases hip:k∈ps
    ·obtain ⟨j,hj⟩:=List.getElem?_of_mem hip
     have hjq:j=q:=by
      have h1:¬j<q:=fun h=>by have:=(hpre j k hj).2 h;omega
      rcases Nat.lt_or_ge q j with h | h
      ·exfalso
       obtain ⟨j',rfl⟩:∃j',j=j'+1:=⟨j-1,by omega⟩
       have hjl:=(List.getElem?_eq_some_iff.1 hj).1
       have hp:ps[j']?=some ps[j']:=List.getElem?_eq_getElem (by omega)
       have h2:=ziT hch j' _ k hp hj
       simp only[Bool.false_eq_true,if_false,decide_eq_true_eq] at h2
       have:=(hpre j' _ hp).1 h2
       omega
      ·omega
     subst hjq
     refine Oper.wp_mono ?_ (hcall j k _ hj ho a w1 hdf hsz ht hxp jb (fun j' i' o' d' hj' hi' ho' hd'=>hval i' o' d' ((hpre j' i' hi').2 hj') ho' hd') ja)
     rintro a' w' ⟨v,rfl,hv,hx,hxp'⟩
     refine next v w' hv hx ⟨j+1,(List.getElem?_eq_some_iff.1 hj).1,hxp',fun j2 p hp=>?_⟩
     by_cases e:k=p
     ·subst e
      have:j2=j:=(List.getElem?_inj (List.getElem?_eq_some_iff.1 hp).1 hnd).1 (hp.trans hj.symm)
      subst this
      simp
     ·have h1:=hpre j2 p hp
      have:j2≠j:=fun h=>e (by subst h;rw[hj] at hp;exact Option.some.inj hp)
      omega
    ·refine Oper.wp_mono ?_ (hops k _ hkn hip ho a w1 hdf hsz ht jb ja)
     rintro a' w' ⟨v,rfl,hv,hx⟩
     refine next v w' hv (Turned.of_below hx) ⟨q,hq,hxp.keepB hx,fun j p hp=>?_⟩
     have h1:=hpre j p hp
     have:p≠k:=fun h=>hip (by subst h;exact List.mem_of_getElem? hp)
     omega
  have hz:∀j p,ps[j]?=some p->(p<0↔j<0):=fun j p _=>by omega
  have:=key n 0 rfl a0 w rfl rfl (Turned.refl _ _) ⟨0,Nat.zero_le _,h0,hz⟩ (fun i o d hi=>by omega) (fun _ _=>rfl)
  simpa using this
theorem Sp.at {ops:Array Oper} {n:Nat} {a0 a:Act} {S:Nat->Prop} {b:Nat} {sp:Sp} {W w1:World} (hr:Rest ops n a0 a) (k:Nat) (hB:restB ops n k=true) (h:sp.holds S (a0.tmps.getD k undef) W) (hb:S b) (ht:Turned (fun c=>c=b) W w1):sp.holds S (a.tmps.getD k undef) w1:=by
 rw[hr.at k hB]
 exact Sp.turned h hb ht
theorem Sp.dep {ops:Array Oper} {n:Nat} {o:Oper} {sps:List Sp} {S:Nat->Prop} {a:Act} {w1:World} (h:∀j oj d,j<n->ops[j]?=some oj->(∃e∈o.after,Region.binds .any e=true∧e.on=j)->oj.dst=some d->(sps.getD j .any).holds S (a.tmps.getD d undef) w1) (j d:Nat) (hB:depB ops n o j d=true):(sps.getD j .any).holds S (a.tmps.getD d undef) w1:=
 zaX (R:=fun j v w=>(sps.getD j .any).holds S v w) h j d hB
theorem zad {id:Nat} {dr:Bool} {Q:Exit->Act->World->Prop} {a0:Act} {l:List Oper} {S:Nat->Prop} {b H:Nat} {w W:World} (n:Nat) (ps:List Nat) (ns:Nat->Nat) (sps:List Sp) (hst:XS S b H (ns 0) w W) (hB:zB dr l.toArray n a0.tmps.size=true)
  (hnd:ps.Nodup) (hpn:∀p∈ps,p<n) (hch:chB dr l.toArray ps=true)
  (hops:∀i o,i<n->¬i∈ps->l.toArray[i]?=some o->∀(a:Act) (w1:World),a.defers=a0.defers->(∀c,S1 S H c->c<w1.heap.size)->Turned (fun c=>c=b) W w1->(∀j oj d,j<n->l.toArray[j]?=some oj->(∃e∈o.after,Region.binds .any e=true∧e.on=j)->oj.dst=some d->(sps.getD j .any).holds (S1 S H) (a.tmps.getD d undef) w1)->Rest l.toArray n a0 a ->
   o.wp prog a w1 (SpK (S1 S H) (sps.getD i .any) o a w1) Q)
  (hcall:∀k i o,ps[k]?=some i->l.toArray[i]?=some o->∀(a:Act) (w1:World),a.defers=a0.defers->XS S b H (ns k) w w1->Turned (fun c=>c=b) W w1->(∀j oj d,j<n->l.toArray[j]?=some oj->(∃e∈o.after,Region.binds .any e=true∧e.on=j)->oj.dst=some d->(sps.getD j .any).holds (S1 S H) (a.tmps.getD d undef) w1)->(∀j i' o' d',j<k->ps[j]?=some i'->l.toArray[i']?=some o'->o'.dst=some d'->(sps.getD i' .any).holds (S1 S H) (a.tmps.getD d' undef) w1)->Rest l.toArray n a0 a ->
   o.wp prog a w1 (SpX (S1 S H) b (ns (k+1)) (sps.getD i .any) o a w1) Q)
  (hend:∀a w1,a.defers=a0.defers->a.tmps.size=a0.tmps.size->XS S b H (ns ps.length) w w1->Turned (fun c=>c=b) W w1->(∀i o d,i<n->l.toArray[i]?=some o->o.dst=some d->(sps.getD i .any).holds (S1 S H) (a.tmps.getD d undef) w1)->Rest l.toArray n a0 a->wpList prog l.toArray Q (l.drop n) a w1) :
  (Code.region id l.toArray dr).wp prog Q a0 W:=by
 refine zed (b:=b) n ps ns (fun i v w1=>(sps.getD i .any).holds (S1 S H) v w1) (by kernel_rfl) hB hnd hpn hch hst.hx (fun i v A B _ h ht=>Sp.turned h (.inl hst.own) ht) ?_ ?_ ?_
 ·intro i o hi hip ho a w1 hdf hsz ht jb ja
  exact hops i o hi hip ho a w1 hdf (fun c hc=>qzM (hst.lt c hc) ht.size) ht jb ja
 ·intro k i o hk ho a w1 hdf hsz ht hxp jb jg ja
  exact hcall k i o hk ho a w1 hdf (hst.next ht hxp) ht jb jg ja
 ·intro a w1 hdf hsz ht hxp hval ja
  exact hend a w1 hdf hsz (hst.next ht hxp) ht hval ja
namespace Sy
theorem bnd_split {α β:Type} {m:M α} {k:α->M β} {n:Nat} {r:Option (β × Nat)} (h:bnd m k n=some r):∃p,m n=some p∧(p=none->r=none)∧(∀y n',p=some (y,n')->k y n'=some r):=by
 unfold bnd at h
 cases hm:m n with
 | none=>rw[hm] at h;cases h
 | some p=>
  rw[hm] at h
  refine ⟨p,rfl,fun hp=>?_,fun y n' hp=>?_⟩
  ·subst hp;exact (Option.some.inj h).symm
  ·subst hp;exact h
theorem bnd_next {α β γ:Type} {p:Option (α × Nat)} {m2:α->M β} {k:α->β->M γ} {r:Option (γ × Nat)} (h0:p=none->r=none) (h:∀y n',p=some (y,n')->bnd (m2 y) (k y) n'=some r):∃q:Option (β × Nat),(∀y n',p=some (y,n')->m2 y n'=some q)∧(p=none->q=none)∧(q=none->r=none)∧(∀y n' z n'',p=some (y,n')->q=some (z,n'')->k y z n''=some r):=by
 match p,h0,h with
 | none,h0,_=>exact ⟨none,fun _ _ h=>(by cases h),fun _=>rfl,fun _=>h0 rfl,fun _ _ _ _ h=>(by cases h)⟩
 | some (y,n'),_,h=>
  obtain ⟨q,h1,h2,h3⟩:=bnd_split (h y n' rfl)
  refine ⟨q,fun y2 n2 hp=>?_,fun hp=>(by cases hp),h2,fun y2 n2 z n'' hp hq=>?_⟩
  ·obtain ⟨rfl,rfl⟩:=Prod.mk.inj (Option.some.inj hp);exact h1
  ·obtain ⟨rfl,rfl⟩:=Prod.mk.inj (Option.some.inj hp);exact h3 z n'' hq
theorem need_split {α:Type} {c:Bool} {m:M α} {n:Nat} {r:Option (α × Nat)} (h:need c m n=some r):(c=false->r=none)∧(c=true->m n=some r):=by
 unfold need at h
 refine ⟨fun hc=>?_,fun hc=>?_⟩
 ·subst hc;exact (Option.some.inj h).symm
 ·subst hc;exact h
theorem bad_split {α:Type} {n:Nat} {r:Option (α × Nat)} (h:(bad:M α) n=some r):r=none:=(Option.some.inj h).symm
theorem ret_split {α:Type} {x:α} {n:Nat} {r:Option (α × Nat)} (h:ret x n=some r):r=some (x,n):=(Option.some.inj h).symm
end Sy
theorem zaw {S:Nat->Prop} {b n:Nat} {w:World} (hS:∀c,S c->c<w.heap.size) (hb:S b) (hx:XP w b n) (hE:Env w):∃W0,w.alloc (.cells #[.int .i64 0,.int .i64 0,.int .i64 0,.string ⟨#[]⟩,.slice none 0 0] 26)=W0∧XS S b w.heap.size n w W0:=⟨_,rfl,zfx hS hb hx hE⟩
theorem zbu {S:Nat->Prop} {b n:Nat} {w:World} {x1:Dat} {k1 m1 d1:Int} {s1:ByteArray} {o1:Option Addr} {len1 cap1:Nat} (hS:∀c,S c->c<w.heap.size) (hb:S b) (hx:XP w b n) (hE:Env w) (hx1:RepD (hide w S) w.heap.size x1 (.agg #[.int .i64 k1,.int .i64 m1,.int .i64 d1,.string s1,.slice o1 len1 cap1])):∃W0,(w.alloc (.cells #[.int .i64 k1,.int .i64 m1,.int .i64 d1,.string s1,.slice o1 len1 cap1] 26)).alloc (.cells #[.int .i64 0,.int .i64 0,.int .i64 0,.string ⟨#[]⟩,.slice none 0 0] 26)=W0∧XS S b (w.heap.size+1) n w W0∧(Sp.elm (some x1)).holds (S1 S (w.heap.size+1)) (.pointer (some ⟨w.heap.size,0,none⟩)) W0:=⟨_,rfl,zhI hS hb hx hE hx1⟩
theorem zkg {S:Nat->Prop} {b n:Nat} {w:World} {x1:Dat} {k1 m1 d1:Int} {s1:ByteArray} {o1:Option Addr} {len1 cap1:Nat} {x2:Dat} {k2 m2 d2:Int} {s2:ByteArray} {o2:Option Addr} {len2 cap2:Nat} (hS:∀c,S c->c<w.heap.size) (hb:S b) (hx:XP w b n) (hE:Env w) (hx1:RepD (hide w S) w.heap.size x1 (.agg #[.int .i64 k1,.int .i64 m1,.int .i64 d1,.string s1,.slice o1 len1 cap1])) (hx2:RepD (hide w S) w.heap.size x2 (.agg #[.int .i64 k2,.int .i64 m2,.int .i64 d2,.string s2,.slice o2 len2 cap2])):∃W0,((w.alloc (.cells #[.int .i64 k1,.int .i64 m1,.int .i64 d1,.string s1,.slice o1 len1 cap1] 26)).alloc (.cells #[.int .i64 k2,.int .i64 m2,.int .i64 d2,.string s2,.slice o2 len2 cap2] 26)).alloc (.cells #[.int .i64 0,.int .i64 0,.int .i64 0,.string ⟨#[]⟩,.slice none 0 0] 26)=W0∧XS S b (w.heap.size+2) n w W0∧(Sp.elm (some x1)).holds (S1 S (w.heap.size+2)) (.pointer (some ⟨w.heap.size,0,none⟩)) W0∧(Sp.elm (some x2)).holds (S1 S (w.heap.size+2)) (.pointer (some ⟨w.heap.size+1,0,none⟩)) W0:=⟨_,rfl,zlf hS hb hx hE hx1 hx2⟩
theorem fin_s {S:Nat->Prop} {b H m:Nat} {w w8:World} {o1:Option Dat} {r:Option (Dat × Nat)} {fn:Func} {a:Act} {l:List Oper} {n hs fs:Nat} {Q:Exit->Act->World->Prop} {ty:TypeId} {ps:String} {af:Array Edge}
  (hst:XS S b H m w w8) (hx:(Sp.dat o1).holds (S1 S H) (a.tmps.getD fs undef) w8) (hr:∀x,o1=some x->r=some (x,m)) (hp:a.tmps.getD hs undef=.pointer (some ⟨H,0,none⟩)) (hd:a.defers=[])
  (hl:l.drop n=[⟨none,.store 26 (.tmp hs) (.tmp fs),ty,ps,af,none⟩]) (hres:fn.results=#[.cell hs 26])
  (hQ:∀w',bodyPost prog fn (XRes S b r w) .ret a w'->Q .normal a w'):wpList prog l.toArray Q (l.drop n) a w8:=by
 obtain ⟨x,rfl,ji⟩:=hx
 obtain ⟨k,m',d,s,o',len,cap,hv⟩:=zae ji.unhide
 rw[hv] at ji
 rw[hr x rfl] at hQ
 rw[hl]
 refine wpList_plain rfl ?_
 have hev1:a.eval (.tmp hs)=.pointer (some ⟨H,0,none⟩):=hp
 have hev2:a.eval (.tmp fs)=.agg #[.int .i64 k,.int .i64 m',.int .i64 d,.string s,.slice o' len cap]:=hv
 obtain ⟨p0,p1,p2,p3,p4⟩:=hst.box.cells
 obtain ⟨z0,z1,z2,z3,z4⟩:=hst.box.free
 have pl:=hst.box.lt
 obtain ⟨r0,r1,r2,r3,r4⟩:=(hst.box.set (.int .i64 k) (.int .i64 m') (.int .i64 d) (.string s) (.slice o' len cap)).cells
 have hend:bodyPost prog fn (XRes S b (some (x,m)) w) .ret a (set5 w8 H (.int .i64 k) (.int .i64 m') (.int .i64 d) (.string s) (.slice o' len cap)):=by
  refine bodyPost_ret (v:=.agg #[.int .i64 k,.int .i64 m',.int .i64 d,.string s,.slice o' len cap]) ?_ hd (hst.fin ji)
  have hp2:=hp
  simp only[Array.getD_eq_getD_getElem?] at hp2
  simp[results,hres,go_sem,hp2,r0,r1,r2,r3,r4]
 have hq:=hQ _ hend
 unfold Oper.wp execOp
 simp only[hev1,hev2]
 clear hr ji hv hend hQ hst r0 r1 r2 r3 r4
 go_simp
 intro K hK
 exact hK _ _ hq
theorem zaN {S:Nat->Prop} {o:Oper} {a:Act} {w:World} {Q:Exit->Act->World->Prop} {f:FuncId} {t0 t1:Nat} {ts:Array TypeId} {v0:Value} {b:Nat} {p:Option (Dat × Nat)} (ho:o.op=.call { callee:=.value (.func f),args:=#[.tmp t0,.tmp t1],argTypes:=ts }) (h0:a.tmps.getD t0 undef=v0) (hf:∀args w,(callFunc f args).run prog w=.ok (.enter f args) w) (hc:Calls prog f #[v0,a.tmps.getD t1 undef] w (XRes S b p w)) (hbad:p=none->∀w',Turned (fun c=>c=b) w w'->Q (.panic badE) a w'):o.wp prog a w (SpX S b (cnt p) (.dat (p.map (·.1))) o a w) Q:=
 zaI ho (by simp only[List.map_toArray,List.map_cons,List.map_nil];rw[<-h0];rfl) hf hc hbad
theorem zfJ {S:Nat->Prop} {o:Oper} {a:Act} {w:World} {Q:Exit->Act->World->Prop} {f:FuncId} {t0 t1:Nat} {ts:Array TypeId} {v0:Value} {b:Nat} {p:Option (List Dat × Nat)} (ho:o.op=.call { callee:=.value (.func f),args:=#[.tmp t0,.tmp t1],argTypes:=ts }) (h0:a.tmps.getD t0 undef=v0) (hf:∀args w,(callFunc f args).run prog w=.ok (.enter f args) w) (hc:Calls prog f #[v0,a.tmps.getD t1 undef] w (XAll S b p w)) (hbad:p=none->∀w',Turned (fun c=>c=b) w w'->Q (.panic badE) a w'):o.wp prog a w (SpX S b (cnt p) (.row (p.map (·.1))) o a w) Q:=
 zhP ho (by simp only[List.map_toArray,List.map_cons,List.map_nil];rw[<-h0];rfl) hf hc hbad
end
end Go.Proofs.YtnbjhmafnigefaaGreatDoor
