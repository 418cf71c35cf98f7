/- .. -/
import Derived.Test.YtnbjhmafnigefaaGreatDoorSckA11
open Go.Proofs.Tryz
set_option maxRecDepth 100000
set_option maxHeartbeats 16000000
namespace Go.Proofs.YtnbjhmafnigefaaGreatDoor
section
open Go Go.RowKit
theorem zkm (S:Nat->Prop) (b n:Nat) (sl:Value) (w:World) (r:Option (Dat × Nat)) (hr:Sy.ret (Sy.truth 1) n=some r) (hS:∀c,S c->c<w.heap.size) (hb:S b) (hx:XP w b n) (hV:Env w) (hv:RepS (hide w S) w.heap.size [] sl) :
  Calls prog 110 #[.pointer (some ⟨b,0,none⟩),.string ⟨#[97,110,100]⟩,sl] w (XRes S b r w):=by
 obtain ⟨o,len,cap,rfl,hln,hcp⟩:=Sp.slice (Sp.ofS hv)
 obtain ⟨W0,hW0,hst⟩:=zaw hS hb hx hV
 have HST:=zh hst
 have HW0:=zh hW0
 obtain rfl:len=0:=by rw[hln];rfl
 have HLV:=zh (hst.first (Sp.ofS hv))
 have HR:=zh hr
 clear hst hW0 hv hS hb hx hV hr hln hcp
 go_enter func110,ntmps110
 go_upto_region 1 with fail
 rw[HW0.out]
 go_upto_region 4 with fail
 refine zad (dr:=false) (S:=S) (b:=b) (H:=w.heap.size) 1 [] (fun j=>[n].getD j 0) [.dat (some (Sy.truth 1))] HST.out (by show zB _ _ 1 146=true;kernel_rfl) (by decide) (by decide) (by kernel_rfl) ?hops ?hcall ?hend
 case hops=>
  intro i o8 hi hip ho a8 w8 hdf jd ht8 jb ja
  match i,hi,hip with
  | 0,_,_=>cases ho;exact zdC rfl (by omega) jd
  | i+1,hi,_=>exact absurd hi (by omega)
 case hcall=>
  intro j i o8 hj ho a8 w8 hdf jc ht8 jb jg ja
  simp at hj
 case hend=>
  intro a8 w8 hdf hsz jc ht8 hval ja
  refine fin_s (r:=r) jc (hval 0 _ 15 (by omega) rfl rfl) (fun x8 hx8=>?_) ((ja.at 6 (by kernel_rfl)).trans rfl) hdf rfl results110 fun w9 h9=>?_
  ·clear hval ja hdf hsz jc ht8
   cases hx8
   exact Sy.ret_split HR.out
  ·go_wp2_with fail
theorem zkO {E:Dat->Sy.M Dat} (hE:EOk E) (x:Dat) (S:Nat->Prop) (b n:Nat) (sl:Value) (w:World) (r:Option (Dat × Nat)) (hr:E x n=some r) (hS:∀c,S c->c<w.heap.size) (hb:S b) (hx:XP w b n) (hV:Env w) (hv:RepS (hide w S) w.heap.size [x] sl) :
  Calls prog 110 #[.pointer (some ⟨b,0,none⟩),.string ⟨#[97,110,100]⟩,sl] w (XRes S b r w):=by
 obtain ⟨o,len,cap,rfl,hln,hcp⟩:=Sp.slice (Sp.ofS hv)
 obtain ⟨W0,hW0,hst⟩:=zaw hS hb hx hV
 have HST:=zh hst
 have HW0:=zh hW0
 obtain rfl:len=1:=by rw[hln];rfl
 have HLV:=zh (hst.first (Sp.ofS hv))
 have HR:=zh hr
 have HE:=zh hE
 clear hst hW0 hv hS hb hx hV hr hln hcp hE
 go_enter func110,ntmps110
 go_upto_region 1 with fail
 rw[HW0.out]
 go_upto_region 7 with fail
 obtain ⟨p1,hp1⟩:∃p1,r=p1:=⟨_,rfl⟩
 have HP1:=zh (show E x n=some p1 from by rw[<-hp1];exact HR.out)
 have jh:=zh (show p1=none->r=none from fun h=>by rw[hp1];exact h)
 have HRF:=zh hp1
 clear hp1
 refine zad (dr:=false) (S:=S) (b:=b) (H:=w.heap.size) 5 [4] (fun j=>[n,cnt p1].getD j 0) [.val (.pointer (some ⟨b,0,none⟩)),.row (some (x::[])),.elm (some (x)),.dat (some (x)),.dat (p1.map (·.1))] HST.out (by show zB _ _ 5 146=true;kernel_rfl) (by decide) (by decide) (by kernel_rfl) ?hops ?hcall ?hend
 case hops=>
  intro i o8 hi hip ho a8 w8 hdf jd ht8 jb ja
  match i,hi,hip with
  | 0,_,_=>cases ho;exact zac rfl (Sp.at ja 0 (by kernel_rfl) (rfl) (.inl HST.out.own) ht8)
  | 1,_,_=>cases ho;exact zac rfl (Sp.at ja 2 (by kernel_rfl) (HLV.out) (.inl HST.out.own) ht8)
  | 2,_,_=>cases ho;exact zas (k:=0) rfl (Sp.dep jb 1 33 (by kernel_rfl)) rfl (by decide)
  | 3,_,_=>cases ho;exact zal rfl (Sp.dep jb 2 34 (by kernel_rfl))
  | 4,_,h=>exact absurd (by decide) h
  | i+5,hi,_=>exact absurd hi (by omega)
 case hcall=>
  intro j i o8 hj ho a8 w8 hdf jc ht8 jb jg ja
  match j,hj with
  | 0,hj=>
   cases hj;cases ho
   refine zaN (p:=p1) rfl (Sp.dep jb 0 32 (by kernel_rfl)) (fun _ _=>rfl) (HE.out (S1 S w.heap.size) b (_) x _ w8 p1 (HP1.out) jc.lt (.inl jc.own) jc.hx jc.hE (Sp.datum (Sp.dep jb 3 35 (by kernel_rfl)))) fun hp w9 ht9=>?_
   cases jh.out hp;exact ⟨hdf,jc.bad' ht9⟩
  | _+1,hj=>simp at hj
 case hend=>
  intro a8 w8 hdf hsz jc ht8 hval ja
  refine fin_s (r:=r) jc (hval 4 _ 36 (by omega) rfl rfl) (fun x8 hx8=>?_) ((ja.at 6 (by kernel_rfl)).trans rfl) hdf rfl results110 fun w9 h9=>?_
  ·clear hval ja hdf hsz jc ht8
   rcases p1 with _ | ⟨y1,n1⟩
   ·simp at hx8
   cases hx8
   exact HRF.out
  ·go_wp2_with fail
theorem zka {E:Dat->Sy.M Dat} (hE:EOk E) (x y:Dat) (t:List Dat) (ih:∀(S:Nat->Prop) (b n:Nat) (sl:Value) (w:World) (r:Option (Dat × Nat)),Sy.andF E (y::t) n=some r->(∀c,S c->c<w.heap.size)->S b->XP w b n->Env w->RepS (hide w S) w.heap.size (y::t) sl->Calls prog 110 #[.pointer (some ⟨b,0,none⟩),.string ⟨#[97,110,100]⟩,sl] w (XRes S b r w)) (S:Nat->Prop) (b n:Nat) (sl:Value) (w:World) (r:Option (Dat × Nat)) (hr:Sy.andF E (x::y::t) n=some r) (hS:∀c,S c->c<w.heap.size) (hb:S b) (hx:XP w b n) (hV:Env w) (hv:RepS (hide w S) w.heap.size (x::y::t) sl) :
  Calls prog 110 #[.pointer (some ⟨b,0,none⟩),.string ⟨#[97,110,100]⟩,sl] w (XRes S b r w):=by
 obtain ⟨o,len,cap,rfl,hln,hcp⟩:=Sp.slice (Sp.ofS hv)
 obtain ⟨W0,hW0,hst⟩:=zaw hS hb hx hV
 have HST:=zh hst
 have HW0:=zh hW0
 have hge:2<=len:=by rw[hln];simp
 have ht0a:((len:Int)==0)=false:=by simp;omega
 have ht0b:¬len=0:=by omega
 have ht1a:((len:Int)==1)=false:=by simp;omega
 have ht1b:¬len=1:=by omega
 have ht9a:decide ((len:Int) > 1)=true:=by simp;omega
 have ht9b:1<len:=by omega
 have ht9c:((1:Int)<len):=by omega
 have HLV:=zh (hst.first (Sp.ofS hv))
 have HR:=zh hr
 have HE:=zh hE
 have IH:=zh ih
 clear hst hW0 hv hS hb hx hV hr hln hcp hge hE ih
 go_enter func110,ntmps110
 go_upto_region 1 with fail
 rw[HW0.out]
 go_upto_region 6 with fail
 obtain ⟨p1,hp1,hn1,hk1⟩:=Sy.bnd_split (show Sy.bnd (E x) (fun a=>Sy.bnd (Sy.andF E (y::t)) fun b=>Sy.ret (Sy.form Sy.ifB [a,b,Sy.truth 0])) n=some r from HR.out)
 obtain ⟨p2,hp2,hq2,hn2,hk2⟩:=Sy.bnd_next hn1 hk1
 have HP1:=zh hp1
 have jh:=zh hn1
 have HP2:=zh (show ∀u7 n7,p1=some (u7,n7)->Sy.andF E (y::t) n7=some p2 from hp2)
 have HNp2:=zh hn2
 have HRF:=zh hk2
 clear hp1 hn1 hk1 hp2 hq2 hn2 hk2
 refine zad (dr:=true) (S:=S) (b:=b) (H:=w.heap.size) 13 [4,9] (fun j=>[n,cnt p1,cnt p2].getD j 0) [.val (.pointer (some ⟨b,0,none⟩)),.row (some (x::y::t)),.elm (some (x)),.dat (some (x)),.dat (p1.map (·.1)),.val (.pointer (some ⟨b,0,none⟩)),.val (.string ⟨#[97,110,100]⟩),.row (some (x::y::t)),.row (some (y::t)),.dat (p2.map (·.1)),.dat (some (Sy.truth 0)),.row ((p1.map (·.1)).bind fun u0_30=>(p2.map (·.1)).bind fun u1_30=>(some (Sy.truth 0)).bind fun u2_30=>some [u0_30,u1_30,u2_30]),.dat (((p1.map (·.1)).bind fun u0_30=>(p2.map (·.1)).bind fun u1_30=>(some (Sy.truth 0)).bind fun u2_30=>some [u0_30,u1_30,u2_30]).map (Sy.form ⟨#[105,102]⟩))] HST.out (by show zB _ _ 13 146=true;kernel_rfl) (by decide) (by decide) (by kernel_rfl) ?hops ?hcall ?hend
 case hops=>
  intro i o8 hi hip ho a8 w8 hdf jd ht8 jb ja
  match i,hi,hip with
  | 0,_,_=>cases ho;exact zac rfl (Sp.at ja 0 (by kernel_rfl) (rfl) (.inl HST.out.own) ht8)
  | 1,_,_=>cases ho;exact zac rfl (Sp.at ja 2 (by kernel_rfl) (HLV.out) (.inl HST.out.own) ht8)
  | 2,_,_=>cases ho;exact zas (k:=0) rfl (Sp.dep jb 1 20 (by kernel_rfl)) rfl (by decide)
  | 3,_,_=>cases ho;exact zal rfl (Sp.dep jb 2 21 (by kernel_rfl))
  | 4,_,h=>exact absurd (by decide) h
  | 5,_,_=>cases ho;exact zac rfl (Sp.at ja 0 (by kernel_rfl) (rfl) (.inl HST.out.own) ht8)
  | 6,_,_=>cases ho;exact zac rfl (Sp.at ja 1 (by kernel_rfl) (rfl) (.inl HST.out.own) ht8)
  | 7,_,_=>cases ho;exact zac rfl (Sp.at ja 2 (by kernel_rfl) (HLV.out) (.inl HST.out.own) ht8)
  | 8,_,_=>cases ho;exact zaD (k:=1) rfl (Sp.dep jb 7 26 (by kernel_rfl)) (by decide) (by simp) (by decide)
  | 9,_,h=>exact absurd (by decide) h
  | 10,_,_=>cases ho;exact zdC rfl (by omega) jd
  | 11,_,_=>cases ho;exact zbX rfl (Sp.dep jb 4 23 (by kernel_rfl)) (Sp.dep jb 9 28 (by kernel_rfl)) (Sp.dep jb 10 29 (by kernel_rfl)) jd
  | 12,_,_=>cases ho;exact za9 rfl (Sp.dep jb 11 30 (by kernel_rfl)) (by decide) (rowlen3) jd
  | i+13,hi,_=>exact absurd hi (by omega)
 case hcall=>
  intro j i o8 hj ho a8 w8 hdf jc ht8 jb jg ja
  match j,hj with
  | 0,hj=>
   cases hj;cases ho
   refine zaN (p:=p1) rfl (Sp.dep jb 0 19 (by kernel_rfl)) (fun _ _=>rfl) (HE.out (S1 S w.heap.size) b (_) x _ w8 p1 (HP1.out) jc.lt (.inl jc.own) jc.hx jc.hE (Sp.datum (Sp.dep jb 3 22 (by kernel_rfl)))) fun hp w9 ht9=>?_
   cases jh.out hp;exact ⟨hdf,jc.bad' ht9⟩
  | 1,hj=>
   cases hj;cases ho
   obtain ⟨y1,m1,hq1,hy1⟩:=Sp.got (Sp.dep jb 4 23 (by kernel_rfl))
   have hv0:a8.tmps.getD 24 undef=.pointer (some ⟨b,0,none⟩):=(Sp.dep jb 5 24 (by kernel_rfl))
   have hv1:a8.tmps.getD 25 undef=.string ⟨#[97,110,100]⟩:=(Sp.dep jb 6 25 (by kernel_rfl))
   refine zaI (p:=p2) (vals:=#[.pointer (some ⟨b,0,none⟩),.string ⟨#[97,110,100]⟩,a8.tmps.getD 27 undef]) rfl (by simp only[List.map_toArray,List.map_cons,List.map_nil];rw[<-hv0];rw[<-hv1];rfl) (fun _ _=>rfl) (IH.out (S1 S w.heap.size) b (cnt p1) _ w8 p2 (by rw[hq1];exact HP2.out y1 m1 hq1) jc.lt (.inl jc.own) jc.hx jc.hE (Sp.data (Sp.dep jb 8 27 (by kernel_rfl)))) fun hp w9 ht9=>?_
   have hrn:=HNp2.out hp
   subst hrn
   exact ⟨hdf,jc.bad' ht9⟩
  | _+2,hj=>simp at hj
 case hend=>
  intro a8 w8 hdf hsz jc ht8 hval ja
  refine fin_s (r:=r) jc (hval 12 _ 31 (by omega) rfl rfl) (fun x8 hx8=>?_) ((ja.at 6 (by kernel_rfl)).trans rfl) hdf rfl results110 fun w9 h9=>?_
  ·clear hval ja hdf hsz jc ht8
   rcases p2 with _ | ⟨y2,n2⟩
   ·simp at hx8
   rcases p1 with _ | ⟨y1,n1⟩
   ·simp at hx8
   cases hx8
   exact Sy.ret_split (HRF.out _ _ _ _ rfl rfl)
  ·go_wp2_with fail
theorem zhJ {E:Dat->Sy.M Dat} (hE:EOk E):∀(l:List Dat) (S:Nat->Prop) (b n:Nat) (sl:Value) (w:World) (r:Option (Dat × Nat)),Sy.andF E l n=some r->(∀c,S c->c<w.heap.size)->S b->XP w b n->Env w->RepS (hide w S) w.heap.size l sl->Calls prog 110 #[.pointer (some ⟨b,0,none⟩),.string ⟨#[97,110,100]⟩,sl] w (XRes S b r w)
 | [],S,b,n,sl,w,r,hr,hS,hb,hx,hV,hv=>zkm S b n sl w r hr hS hb hx hV hv
 | [x],S,b,n,sl,w,r,hr,hS,hb,hx,hV,hv=>zkO hE x S b n sl w r hr hS hb hx hV hv
 | x::y::t,S,b,n,sl,w,r,hr,hS,hb,hx,hV,hv=>zka hE x y t (zhJ hE (y::t)) S b n sl w r hr hS hb hx hV hv
theorem zll (S:Nat->Prop) (b n:Nat) (sl:Value) (w:World) (r:Option (Dat × Nat)) (hr:Sy.ret (Sy.truth 0) n=some r) (hS:∀c,S c->c<w.heap.size) (hb:S b) (hx:XP w b n) (hV:Env w) (hv:RepS (hide w S) w.heap.size [] sl) :
  Calls prog 110 #[.pointer (some ⟨b,0,none⟩),.string ⟨#[111,114]⟩,sl] w (XRes S b r w):=by
 obtain ⟨o,len,cap,rfl,hln,hcp⟩:=Sp.slice (Sp.ofS hv)
 obtain ⟨W0,hW0,hst⟩:=zaw hS hb hx hV
 have HST:=zh hst
 have HW0:=zh hW0
 obtain rfl:len=0:=by rw[hln];rfl
 have HLV:=zh (hst.first (Sp.ofS hv))
 have HR:=zh hr
 clear hst hW0 hv hS hb hx hV hr hln hcp
 go_enter func110,ntmps110
 go_upto_region 1 with fail
 rw[HW0.out]
 go_upto_region 10 with fail
 refine zad (dr:=false) (S:=S) (b:=b) (H:=w.heap.size) 1 [] (fun j=>[n].getD j 0) [.dat (some (Sy.truth 0))] HST.out (by show zB _ _ 1 146=true;kernel_rfl) (by decide) (by decide) (by kernel_rfl) ?hops ?hcall ?hend
 case hops=>
  intro i o8 hi hip ho a8 w8 hdf jd ht8 jb ja
  match i,hi,hip with
  | 0,_,_=>cases ho;exact zdC rfl (by omega) jd
  | i+1,hi,_=>exact absurd hi (by omega)
 case hcall=>
  intro j i o8 hj ho a8 w8 hdf jc ht8 jb jg ja
  simp at hj
 case hend=>
  intro a8 w8 hdf hsz jc ht8 hval ja
  refine fin_s (r:=r) jc (hval 0 _ 42 (by omega) rfl rfl) (fun x8 hx8=>?_) ((ja.at 6 (by kernel_rfl)).trans rfl) hdf rfl results110 fun w9 h9=>?_
  ·clear hval ja hdf hsz jc ht8
   cases hx8
   exact Sy.ret_split HR.out
  ·go_wp2_with fail
theorem zlA {E:Dat->Sy.M Dat} (hE:EOk E) (x:Dat) (S:Nat->Prop) (b n:Nat) (sl:Value) (w:World) (r:Option (Dat × Nat)) (hr:E x n=some r) (hS:∀c,S c->c<w.heap.size) (hb:S b) (hx:XP w b n) (hV:Env w) (hv:RepS (hide w S) w.heap.size [x] sl) :
  Calls prog 110 #[.pointer (some ⟨b,0,none⟩),.string ⟨#[111,114]⟩,sl] w (XRes S b r w):=by
 obtain ⟨o,len,cap,rfl,hln,hcp⟩:=Sp.slice (Sp.ofS hv)
 obtain ⟨W0,hW0,hst⟩:=zaw hS hb hx hV
 have HST:=zh hst
 have HW0:=zh hW0
 obtain rfl:len=1:=by rw[hln];rfl
 have HLV:=zh (hst.first (Sp.ofS hv))
 have HR:=zh hr
 have HE:=zh hE
 clear hst hW0 hv hS hb hx hV hr hln hcp hE
 go_enter func110,ntmps110
 go_upto_region 1 with fail
 rw[HW0.out]
 go_upto_region 14 with fail
 obtain ⟨p1,hp1⟩:∃p1,r=p1:=⟨_,rfl⟩
 have HP1:=zh (show E x n=some p1 from by rw[<-hp1];exact HR.out)
 have jh:=zh (show p1=none->r=none from fun h=>by rw[hp1];exact h)
 have HRF:=zh hp1
 clear hp1
 refine zad (dr:=false) (S:=S) (b:=b) (H:=w.heap.size) 5 [4] (fun j=>[n,cnt p1].getD j 0) [.val (.pointer (some ⟨b,0,none⟩)),.row (some (x::[])),.elm (some (x)),.dat (some (x)),.dat (p1.map (·.1))] HST.out (by show zB _ _ 5 146=true;kernel_rfl) (by decide) (by decide) (by kernel_rfl) ?hops ?hcall ?hend
 case hops=>
  intro i o8 hi hip ho a8 w8 hdf jd ht8 jb ja
  match i,hi,hip with
  | 0,_,_=>cases ho;exact zac rfl (Sp.at ja 0 (by kernel_rfl) (rfl) (.inl HST.out.own) ht8)
  | 1,_,_=>cases ho;exact zac rfl (Sp.at ja 2 (by kernel_rfl) (HLV.out) (.inl HST.out.own) ht8)
  | 2,_,_=>cases ho;exact zas (k:=0) rfl (Sp.dep jb 1 64 (by kernel_rfl)) rfl (by decide)
  | 3,_,_=>cases ho;exact zal rfl (Sp.dep jb 2 65 (by kernel_rfl))
  | 4,_,h=>exact absurd (by decide) h
  | i+5,hi,_=>exact absurd hi (by omega)
 case hcall=>
  intro j i o8 hj ho a8 w8 hdf jc ht8 jb jg ja
  match j,hj with
  | 0,hj=>
   cases hj;cases ho
   refine zaN (p:=p1) rfl (Sp.dep jb 0 63 (by kernel_rfl)) (fun _ _=>rfl) (HE.out (S1 S w.heap.size) b (_) x _ w8 p1 (HP1.out) jc.lt (.inl jc.own) jc.hx jc.hE (Sp.datum (Sp.dep jb 3 66 (by kernel_rfl)))) fun hp w9 ht9=>?_
   cases jh.out hp;exact ⟨hdf,jc.bad' ht9⟩
  | _+1,hj=>simp at hj
 case hend=>
  intro a8 w8 hdf hsz jc ht8 hval ja
  refine fin_s (r:=r) jc (hval 4 _ 67 (by omega) rfl rfl) (fun x8 hx8=>?_) ((ja.at 6 (by kernel_rfl)).trans rfl) hdf rfl results110 fun w9 h9=>?_
  ·clear hval ja hdf hsz jc ht8
   rcases p1 with _ | ⟨y1,n1⟩
   ·simp at hx8
   cases hx8
   exact HRF.out
  ·go_wp2_with fail
theorem zk1 {E:Dat->Sy.M Dat} (hE:EOk E) (x y:Dat) (t:List Dat) (ih:∀(S:Nat->Prop) (b n:Nat) (sl:Value) (w:World) (r:Option (Dat × Nat)),Sy.orF E (y::t) n=some r->(∀c,S c->c<w.heap.size)->S b->XP w b n->Env w->RepS (hide w S) w.heap.size (y::t) sl->Calls prog 110 #[.pointer (some ⟨b,0,none⟩),.string ⟨#[111,114]⟩,sl] w (XRes S b r w)) (S:Nat->Prop) (b n:Nat) (sl:Value) (w:World) (r:Option (Dat × Nat)) (hr:Sy.orF E (x::y::t) n=some r) (hS:∀c,S c->c<w.heap.size) (hb:S b) (hx:XP w b n) (hV:Env w) (hv:RepS (hide w S) w.heap.size (x::y::t) sl) :
  Calls prog 110 #[.pointer (some ⟨b,0,none⟩),.string ⟨#[111,114]⟩,sl] w (XRes S b r w):=by
 obtain ⟨o,len,cap,rfl,hln,hcp⟩:=Sp.slice (Sp.ofS hv)
 obtain ⟨W0,hW0,hst⟩:=zaw hS hb hx hV
 have HST:=zh hst
 have HW0:=zh hW0
 have hge:2<=len:=by rw[hln];simp
 have ht0a:((len:Int)==0)=false:=by simp;omega
 have ht0b:¬len=0:=by omega
 have ht1a:((len:Int)==1)=false:=by simp;omega
 have ht1b:¬len=1:=by omega
 have ht9a:decide ((len:Int) > 1)=true:=by simp;omega
 have ht9b:1<len:=by omega
 have ht9c:((1:Int)<len):=by omega
 have HLV:=zh (hst.first (Sp.ofS hv))
 have HR:=zh hr
 have HE:=zh hE
 have IH:=zh ih
 clear hst hW0 hv hS hb hx hV hr hln hcp hge hE ih
 go_enter func110,ntmps110
 go_upto_region 1 with fail
 rw[HW0.out]
 obtain ⟨hfn,hr2⟩:=Sy.fresh_split (show Sy.bnd Sy.fresh (fun v=>Sy.bnd (Sy.orF E (y::t)) fun d=>Sy.over E v (Sy.form Sy.ifB [v,v,d]) x) n=some r from HR.out)
 have HFN:=zh hfn
 have HR2:=zh hr2
 clear hfn hr2
 have HFR:=zh (zbP (S1 S w.heap.size) b n W0 HST.out.lt (.inl HST.out.own) HST.out.hx HST.out.hE HFN.out)
 go_upto_region 13 with (first | (go_at_call 147;refine HFR.out.mono ?_;rintro e' w5 ⟨v5,rfl,hr5,ht5,hx5⟩;obtain ⟨k9,m9,d9,s9,o9,len9,cap9,rfl⟩:=zae hr5.unhide) | fail)
 obtain ⟨W6,hW6⟩:∃W6,w5.alloc (.cells #[.int .i64 k9,.int .i64 m9,.int .i64 d9,.string s9,.slice o9 len9 cap9] 26)=W6:=⟨_,rfl⟩
 obtain ⟨hst6,hel6,ht6⟩:=HST.out.stored ht5 hx5 hr5 hW6
 rw[hW6]
 have HST6:=zh hst6
 have HEL6:=zh hel6
 have HLV6:=zh (HST.out.keep HLV.out ht6)
 clear hst6 hel6 ht6 ht5 hx5 hr5 hW6
 obtain ⟨p1,hp1,hn1,hk⟩:=Sy.bnd_split HR2.out
 obtain ⟨p2,hp2⟩:∃p2,r=p2:=⟨_,rfl⟩
 have HP1:=zh hp1
 have jh:=zh hn1
 have HP2:=zh (show ∀u7 n7,p1=some (u7,n7)->Sy.over E (Sy.freshD (n+1)) (Sy.form Sy.ifB [Sy.freshD (n+1),Sy.freshD (n+1),u7]) x n7=some p2 from by rw[<-hp2];exact hk)
 have HNp2:=zh (show p2=none->r=none from fun h=>by rw[hp2];exact h)
 have HRF:=zh hp2
 clear hp1 hn1 hk hp2
 refine zad (dr:=true) (S:=S) (b:=b) (H:=w.heap.size) 15 [8,14] (fun j=>[(n+1),cnt p1,cnt p2].getD j 0) [.val (.pointer (some ⟨b,0,none⟩)),.dat (some (Sy.freshD (n+1))),.dat (some (Sy.freshD (n+1))),.dat (some (Sy.freshD (n+1))),.val (.pointer (some ⟨b,0,none⟩)),.val (.string ⟨#[111,114]⟩),.row (some (x::y::t)),.row (some (y::t)),.dat (p1.map (·.1)),.row ((some (Sy.freshD (n+1))).bind fun u0_57=>(some (Sy.freshD (n+1))).bind fun u1_57=>(p1.map (·.1)).bind fun u2_57=>some [u0_57,u1_57,u2_57]),.dat (((some (Sy.freshD (n+1))).bind fun u0_57=>(some (Sy.freshD (n+1))).bind fun u1_57=>(p1.map (·.1)).bind fun u2_57=>some [u0_57,u1_57,u2_57]).map (Sy.form ⟨#[105,102]⟩)),.row (some (x::y::t)),.elm (some (x)),.dat (some (x)),.dat (p2.map (·.1))] HST6.out (by show zB _ _ 15 146=true;kernel_rfl) (by decide) (by decide) (by kernel_rfl) ?hops ?hcall ?hend
 case hops=>
  intro i o8 hi hip ho a8 w8 hdf jd ht8 jb ja
  match i,hi,hip with
  | 0,_,_=>cases ho;exact zac rfl (Sp.at ja 0 (by kernel_rfl) (rfl) (.inl HST6.out.own) ht8)
  | 1,_,_=>cases ho;exact zal rfl (Sp.at ja 7 (by kernel_rfl) (HEL6.out) (.inl HST6.out.own) ht8)
  | 2,_,_=>cases ho;exact zal rfl (Sp.at ja 7 (by kernel_rfl) (HEL6.out) (.inl HST6.out.own) ht8)
  | 3,_,_=>cases ho;exact zal rfl (Sp.at ja 7 (by kernel_rfl) (HEL6.out) (.inl HST6.out.own) ht8)
  | 4,_,_=>cases ho;exact zac rfl (Sp.at ja 0 (by kernel_rfl) (rfl) (.inl HST6.out.own) ht8)
  | 5,_,_=>cases ho;exact zac rfl (Sp.at ja 1 (by kernel_rfl) (rfl) (.inl HST6.out.own) ht8)
  | 6,_,_=>cases ho;exact zac rfl (Sp.at ja 2 (by kernel_rfl) (HLV6.out) (.inl HST6.out.own) ht8)
  | 7,_,_=>cases ho;exact zaD (k:=1) rfl (Sp.dep jb 6 54 (by kernel_rfl)) (by decide) (by simp) (by decide)
  | 8,_,h=>exact absurd (by decide) h
  | 9,_,_=>cases ho;exact zbX rfl (Sp.dep jb 2 50 (by kernel_rfl)) (Sp.dep jb 3 51 (by kernel_rfl)) (Sp.dep jb 8 56 (by kernel_rfl)) jd
  | 10,_,_=>cases ho;exact za9 rfl (Sp.dep jb 9 57 (by kernel_rfl)) (by decide) (rowlen3) jd
  | 11,_,_=>cases ho;exact zac rfl (Sp.at ja 2 (by kernel_rfl) (HLV6.out) (.inl HST6.out.own) ht8)
  | 12,_,_=>cases ho;exact zas (k:=0) rfl (Sp.dep jb 11 59 (by kernel_rfl)) rfl (by decide)
  | 13,_,_=>cases ho;exact zal rfl (Sp.dep jb 12 60 (by kernel_rfl))
  | 14,_,h=>exact absurd (by decide) h
  | i+15,hi,_=>exact absurd hi (by omega)
 case hcall=>
  intro j i o8 hj ho a8 w8 hdf jc ht8 jb jg ja
  match j,hj with
  | 0,hj=>
   cases hj;cases ho
   have hv0:a8.tmps.getD 52 undef=.pointer (some ⟨b,0,none⟩):=(Sp.dep jb 4 52 (by kernel_rfl))
   have hv1:a8.tmps.getD 53 undef=.string ⟨#[111,114]⟩:=(Sp.dep jb 5 53 (by kernel_rfl))
   refine zaI (p:=p1) (vals:=#[.pointer (some ⟨b,0,none⟩),.string ⟨#[111,114]⟩,a8.tmps.getD 55 undef]) rfl (by simp only[List.map_toArray,List.map_cons,List.map_nil];rw[<-hv0];rw[<-hv1];rfl) (fun _ _=>rfl) (IH.out (S1 S w.heap.size) b _ _ w8 p1 HP1.out jc.lt (.inl jc.own) jc.hx jc.hE (Sp.data (Sp.dep jb 7 55 (by kernel_rfl)))) fun hp w9 ht9=>?_
   have hrn:=jh.out hp
   subst hrn
   exact ⟨hdf,jc.bad' ht9⟩
  | 1,hj=>
   cases hj;cases ho
   obtain ⟨y1,m1,hq1⟩:∃y m,p1=some (y,m):=by
    have h:=(Sp.dep jb 10 58 (by kernel_rfl))
    obtain ⟨_,h,_⟩:=h
    rcases p1 with _ | ⟨y,m⟩
    ·simp at h
    ·exact ⟨y,m,rfl⟩
   have hv0:a8.tmps.getD 48 undef=.pointer (some ⟨b,0,none⟩):=(Sp.dep jb 0 48 (by kernel_rfl))
   refine zaI (p:=p2) (vals:=#[.pointer (some ⟨b,0,none⟩),a8.tmps.getD 49 undef,a8.tmps.getD 58 undef,a8.tmps.getD 61 undef]) rfl (by simp only[List.map_toArray,List.map_cons,List.map_nil];rw[<-hv0];rfl) (fun _ _=>rfl) (zb6 HE.out (S1 S w.heap.size) b (cnt p1) (Sy.freshD (n+1)) (Sy.form Sy.ifB [Sy.freshD (n+1),Sy.freshD (n+1),y1]) x _ _ _ w8 p2 (by rw[hq1];exact HP2.out y1 m1 hq1) jc.lt (.inl jc.own) jc.hx jc.hE (Sp.datum (Sp.dep jb 1 49 (by kernel_rfl))) (Sp.datum (x:=Sy.form Sy.ifB [Sy.freshD (n+1),Sy.freshD (n+1),y1]) (by have h:=(Sp.dep jb 10 58 (by kernel_rfl));subst hq1;exact h)) (Sp.datum (Sp.dep jb 13 61 (by kernel_rfl)))) fun hp w9 ht9=>?_
   have hrn:=HNp2.out hp
   subst hrn
   exact ⟨hdf,jc.bad' ht9⟩
  | _+2,hj=>simp at hj
 case hend=>
  intro a8 w8 hdf hsz jc ht8 hval ja
  refine fin_s (r:=r) jc (hval 14 _ 62 (by omega) rfl rfl) (fun x8 hx8=>?_) ((ja.at 6 (by kernel_rfl)).trans rfl) hdf rfl results110 fun w9 h9=>?_
  ·clear hval ja hdf hsz jc ht8
   rcases p2 with _ | ⟨y2,n2⟩
   ·simp at hx8
   rcases p1 with _ | ⟨y1,n1⟩
   ·exact absurd (HRF.out.symm.trans (jh.out rfl)) (by simp)
   cases hx8
   exact HRF.out
  ·go_wp2_with fail
theorem zjQ {E:Dat->Sy.M Dat} (hE:EOk E):∀(l:List Dat) (S:Nat->Prop) (b n:Nat) (sl:Value) (w:World) (r:Option (Dat × Nat)),Sy.orF E l n=some r->(∀c,S c->c<w.heap.size)->S b->XP w b n->Env w->RepS (hide w S) w.heap.size l sl->Calls prog 110 #[.pointer (some ⟨b,0,none⟩),.string ⟨#[111,114]⟩,sl] w (XRes S b r w)
 | [],S,b,n,sl,w,r,hr,hS,hb,hx,hV,hv=>zll S b n sl w r hr hS hb hx hV hv
 | [x],S,b,n,sl,w,r,hr,hS,hb,hx,hV,hv=>zlA hE x S b n sl w r hr hS hb hx hV hv
 | x::y::t,S,b,n,sl,w,r,hr,hS,hb,hx,hV,hv=>zk1 hE x y t (zjQ hE (y::t)) S b n sl w r hr hS hb hx hV hv
end
section
open Go Go.RowKit
theorem zcI (S:Nat->Prop) (x:Dat) (v:Value) (B:Nat) (w:World) (hS:∀b,S b->b<w.heap.size) (hv:RepD (hide w S) B x v) (hB:B<=w.heap.size) (hsh:Dat.shaped x=true) (hal:Dat.all x<=100000) :
  Calls prog 79 #[v] w (BindPost S (Sy.binds x) w):=by
 obtain ⟨k,n,d,st,o,len,cap,rfl⟩:=zae hv.unhide
 obtain ⟨W0,hW0⟩:∃W0,w.alloc (.cells #[.int .i64 k,.int .i64 n,.int .i64 d,.string st,.slice o len cap] 26)=W0:=⟨_,rfl⟩
 have hb:Box5 W0 w.heap.size 26 (.int .i64 k) (.int .i64 n) (.int .i64 d) (.string st) (.slice o len cap):=by rw[<-hW0];exact Box5.new w _ _ _ _ _ _
 have hbl:Below w.heap.size w W0:=by rw[<-hW0];exact Below.one _ _
 obtain ⟨r,hr⟩:∃r,((Sy.split x).2.kind==4)=r:=⟨_,rfl⟩
 have hS0:=(fun b h=>qzM (hS b h) hbl.size:∀b,S b->b<W0.heap.size)
 have hc:=ritemsG S x (.agg #[.int .i64 k,.int .i64 n,.int .i64 d,.string st,.slice o len cap]) B W0 r hr hS0 (hv.kept (zbp (hbl.mono hB))) (Nat.le_trans hB hbl.size) hsh hal
 have HPT:=zh (Sy.split_parts x hsh).1
 have HLE:=zh (zaY x)
 obtain ⟨L,hL⟩:∃L,(Sy.split x).1=L:=⟨_,rfl⟩
 have hR:Sy.binds x=if r=true then Sy.bindsL L else none:=by
  unfold Sy.binds
  rw[<-hL,<-hr]
  simp only[beq_iff_eq]
 rw[hL] at hc HPT HLE
 have HS0:=zh hS0
 have HAL:=zh hal
 obtain ⟨p0,p1,p2,p3,p4⟩:=hb.cells
 have pl:=hb.lt
 have HBL:=zh hbl
 have HW0:=zh hW0
 clear hb hbl hW0 hv hsh hr hS hL hal hS0
 cases r with
 | false=>
  have HR:=zh (show Sy.binds x=none from by rw[hR];rfl)
  have HC:=zh hc
  clear hc hR
  go_enter func79,ntmps79
  go_upto_region 1 with fail
  rw[HW0.out]
  go_wp2_with (first | (go_at_call 55;refine HC.out.mono ?_;rintro e' w1 ⟨o',len',cap',rfl,hg1,hl1,hb1⟩) | fail)
  refine bodyPost_ret (v:=.tuple #[.slice none 0 0,.slice none 0 0,.bool false]) (by simp[results,results79,go_sem]) rfl ?_
  have hbw:=Below.next HBL.out hb1
  have hlt:∀b,SR S (.slice none 0 0) b->b<w1.heap.size:=fun b h=>h.elim (fun h=>qzM (HS0.out b h) hb1.size) fun h=>by simp[Value.ownBlock] at h
  exact ⟨[],[],_,_,false,rfl,GrownS.nil _ hlt hbw.size,GrownS.nil _ hlt hbw.size,hbw,fun h=>absurd h (by decide),fun _=>HR.out,Nat.zero_le _⟩
 | true=>
  have HR:=zh (show Sy.binds x=Sy.bindsL L from by rw[hR];rfl)
  have HC:=zh hc
  clear hc hR
  go_enter func79,ntmps79
  go_upto_region 1 with fail
  rw[HW0.out]
  go_upto_region 2 with (first | (go_at_call 55;refine HC.out.mono ?_;rintro e' w1 ⟨o',len',cap',rfl,hg1,hl1,hb1⟩;have HLN:=zh hl1;clear hl1) | fail)
  have HL1:=zh hg1.rep
  have HB1:=zh hb1
  have hS1:∀b,S b->b<w1.heap.size:=fun b h=>qzM (HS0.out b h) hb1.size
  have HI0:=zh (show BiI S L w1 L.length (.slice none 0 0) (.slice none 0 0) (.int .i64 0) w1 from
   zh ⟨0,[],[],rfl,rfl,Nat.zero_le _,rfl,rfl,GrownS.nil _ (fun b h=>h.elim (hS1 b) fun h=>by simp[Value.ownBlock] at h) qzL,GrownS.nil _ (fun b h=>h.elim (hS1 b) fun h=>by simp[Value.ownBlock] at h) qzL,qzB,by simp⟩)
  have HS1:=zh hS1
  have hlb:len'<=100000:=by have:=HLE.out;have:=HAL.out;have:=HLN.out;omega
  clear hg1 hb1 hS1 p0 p1 p2 p3 p4 pl
  go_wp2_with fail
  go_loopg [7,8,9] L.length (fun g vn vv iv wr=>BiI S L w1 g vn vv iv wr)
  case atStart=>exact HI0.out
  case round=>
   obtain ⟨i,dn,dv,rfl,rfl,hi,hln,hlv,hgn,hgv,hbl,hbd⟩:=hrel.out
   clear hrel HI0
   by_cases hlt:i<len'
   ·have hd:decide ((i:Int)<(len':Int))=true:=by simp;omega
    obtain ⟨y,hy⟩:∃y,L[i]?=some y:=⟨_,List.getElem?_eq_getElem (by rw[<-HLN.out];exact hlt)⟩
    have hlw:=sr_lt hgn qzL
    have HT:=zh (HL1.out.shown (S':=SR (SR S u8) u7) (W':=wr) (fun c o' u hc hu=>by
     have hcl:=zai hu
     refine ⟨fun h=>?_,(hbl.cell (p:=⟨c,o',none⟩) hcl).trans hu⟩
     rcases h with (h | h) | h
     ·exact hc h
     ·have:=(hgv.block h).1;omega
     ·have:=(hgn.block h).1;omega) hbl.size)
    obtain ⟨hysh,hyal⟩:=HPT.out y (List.mem_of_getElem? hy)
    obtain ⟨o6,len6,cap6,he6,hl6,hc6,hm6,hr6⟩:=HT.out
    simp only[Value.slice.injEq] at he6
    obtain ⟨rfl,rfl,rfl⟩:=he6
    obtain ⟨b1,off1,k1,n1,d1,s1,l1,o1,len1,cap1,ho1,hx1,e0,e1,e2,e3,e4,er⟩:=zat hr6 qzB hy
    subst ho1
    replace e0:=(zaa e0).2
    replace e1:=(zaa e1).2
    replace e2:=(zaa e2).2
    replace e3:=(zaa e3).2
    replace e4:=(zaa e4).2
    obtain ⟨r2,hr2⟩:∃r2,((Sy.split y).2.kind==4)=r2:=⟨_,rfl⟩
    have HIT:=zh (ritemsG (SR (SR S u8) u7) y (.agg #[.int .i64 k1,.int .i64 n1,.int .i64 d1,.string s1,.slice o1 len1 cap1]) wr.heap.size wr r2 hr2 hlw (by rw[hx1];exact er) qzL hysh (Nat.le_trans hyal HAL.out))
    have hdrop:L.drop i=y::L.drop (i+1):=by
     rw[List.drop_eq_getElem_cons (show i<L.length from by rw[<-HLN.out];exact hlt)]
     congr 1
     exact (List.getElem?_eq_some_iff.1 hy).2
    have HBD:=zh (show Sy.bindsL L=(Sy.bindsL (y::L.drop (i+1))).map fun p=>(dn++p.1,dv++p.2) from by rw[<-hdrop];exact hbd)
    have HGN:=zh hgn
    have HGV:=zh hgv
    have HBR:=zh hbl
    have HR2:=zh hr2
    have hw:w.heap.size<=w1.heap.size:=Nat.le_trans HBL.out.size HB1.out.size
    have HBW:=zh (show Below w.heap.size w wr from (HBL.out.trans (HB1.out.mono HBL.out.size)).trans (hbl.mono hw))
    have hdnl:dn.length<=100000:=by omega
    have hdvl:dv.length<=100000:=by omega
    have HLE2:=zh (And.intro hdnl hdvl)
    have HLV:=zh (And.intro hln hlv)
    clear hbd hgn hgv hbl er hy hx1 hr2 hr6 hysh hyal hl6 hln hlv hlw hdrop hdnl hdvl hc6 hm6
    go_upto_region 10 with (first | (go_at_call 55;refine HIT.out.mono ?_;rintro e' w2 ⟨o7,len7,cap7,rfl,hg7,hl7,hb7⟩;have HL7:=zh hl7;clear hl7) | fail)
    have HG7:=zh hg7
    have HB7:=zh hb7
    have hnil:∀b,SR S (.slice none 0 0) b->b<w2.heap.size:=fun b h=>h.elim (fun h=>qzM (HS1.out b h) (Nat.le_trans HBR.out.size hb7.size)) fun h=>by simp[Value.ownBlock] at h
    have HNIL:=zh hnil
    clear hg7 hb7 hnil e0 e1 e2 e3 e4
    cases r2 with
    | false=>
     have HNN:=zh (show Sy.binds x=none from by
      rw[HR.out,HBD.out,Sy.bindsL]
      have:¬(Sy.split y).2.kind=4:=by simpa using HR2.out
      split
      ·rw[if_neg this];rfl
      ·rfl)
     go_wp2_with fail
     refine bodyPost_ret (v:=.tuple #[.slice none 0 0,.slice none 0 0,.bool false]) (by simp[results,results79,go_sem]) rfl ?_
     have hbw:=Below.next HBW.out HB7.out
     exact ⟨[],[],_,_,false,rfl,GrownS.nil _ HNIL.out hbw.size,GrownS.nil _ HNIL.out hbw.size,hbw,fun h=>absurd h (by decide),fun _=>HNN.out,Nat.zero_le _⟩
    | true=>
     by_cases h2:len7=2
     ·subst h2
      obtain ⟨a,c,hac⟩:∃a c,(Sy.split y).1=[a,c]:=by
       match h:(Sy.split y).1,(show (Sy.split y).1.length=2 from HL7.out.symm) with
       | [a,c],_=>exact ⟨a,c,rfl⟩
      have HBD3:=zh (show Sy.bindsL L=(Sy.bindsL (L.drop (i+1))).map fun p=>((dn++[a])++p.1,(dv++[c])++p.2) from by
       rw[HBD.out]
       simp only[Sy.bindsL,hac]
       rw[if_pos (by simpa using HR2.out),Option.map_map]
       simp[Function.comp_def])
      have hl7:=HG7.out.rep
      rw[hac] at hl7
      obtain ⟨o6,len6,cap6,he6,hl6,hc6,hm6,hr6⟩:=hl7
      simp only[Value.slice.injEq] at he6
      obtain ⟨rfl,rfl,rfl⟩:=he6
      obtain ⟨b7,off7,ka,na,da,sa,la,oa,lena,capa,ho7,hxa,f0,f1,f2,f3,f4,ea⟩:=zat hr6 qzB (show [a,c][0]?=some a from rfl)
      obtain ⟨b8,off8,kb,nb,db,sb,lb,ob,lenb,capb,ho8,hxb,g0,g1,g2,g3,g4,eb⟩:=zat hr6 qzB (show [a,c][1]?=some c from rfl)
      subst ho7
      simp only[Option.some.injEq,Addr.mk.injEq,and_true] at ho8
      obtain ⟨rfl,rfl⟩:=ho8
      have HNB:=zh (zaa f0).1
      rw[<-hxa] at ea
      rw[<-hxb] at eb
      replace f0:=(zaa f0).2
      replace f1:=(zaa f1).2
      replace f2:=(zaa f2).2
      replace f3:=(zaa f3).2
      replace f4:=(zaa f4).2
      have HGC:=zh (And.intro (zaa g0).2 (And.intro (zaa g1).2 (And.intro (zaa g2).2 (And.intro (zaa g3).2 (zaa g4).2))))
      simp only[Nat.zero_mul,Nat.add_zero] at f0 f1 f2 f3 f4
      have HEB:=zh eb
      have hbb:=zai f0
      have HN2:=zh (HGN.out.below HB7.out)
      have HV2:=zh (HGV.out.below HB7.out)
      have hlw2:=sr_lt HN2.out qzL
      have HK:=zh (zax (x:=a) hlw2 ea)
      have je:Below w2.heap.size w2 (w2.alloc (.cells #[.int .i64 ka,.int .i64 na,.int .i64 da,.string sa,.slice oa lena capa] 26)):=Below.one _ _
      have HN3:=zh (HN2.out.below je)
      have HV3:=zh (HV2.out.below je)
      have HONE:=zh je
      have HBR2:=zh (show w1.heap.size<=w2.heap.size from Nat.le_trans HBR.out.size HB7.out.size)
      clear g0 g1 g2 g3 g4 ea eb hxa hxb hr6 hl6 hac hlw2 je hc6 hm6
      go_upto_region 13 with (first | (at_builtin;go_loud (refine zaj rfl fun K hK=>zav (S:=SR S u8) (.tmp 40) (.tmp 44) rfl w1.heap.size u7 (.slice (some ⟨w2.heap.size,0,none⟩) 1 1) dn [a] rfl HN3 rfl HK (by have:=HLE2.out.1;simp;omega) fun o9 len9 cap9 w3 h7 h8 h9 h10=>hK _ _ ?_)) | fail)
      have hz3:w2.heap.size<w3.heap.size:=by have:=h9.out.size;simp only[World.size_alloc] at this;omega
      have hcl:∀i u,w2.cell? ⟨b7,i,none⟩=some u->w3.cell? ⟨b7,i,none⟩=some u:=fun i u hu=>(h10.out b7 i u HNB.out ((World.cell?_alloc_past _ _ _ (zai hu)).trans hu)).2
      have g0:=hcl _ _ HGC.out.1
      have g1:=hcl _ _ HGC.out.2.1
      have g2:=hcl _ _ HGC.out.2.2.1
      have g3:=hcl _ _ HGC.out.2.2.2.1
      have g4:=hcl _ _ HGC.out.2.2.2.2
      have gl:=zai g0
      simp only[Nat.one_mul] at g0 g1 g2 g3 g4
      have hshw:=(Shown.below (S:=SR (SR S u8) u7) HONE.out).trans h10.out
      have hebr:=HEB.out.shown (hshw.trans (Shown.flip w3)) (Nat.le_of_lt hz3)
      have HV4:=zh (HV3.out.other h7.out h9.out h10.out)
      have hone3:Below w3.heap.size w3 (w3.alloc (.cells #[.int .i64 kb,.int .i64 nb,.int .i64 db,.string sb,.slice ob lenb capb] 26)):=Below.one _ _
      have HK2:=zh (zax (x:=c) (sr_lt HV4.out qzL) hebr)
      have HV5:=zh (HV4.out.below hone3)
      have HN5:=zh (h7.out.below hone3)
      have HB3:=zh (show Below w1.heap.size w1 w3 from HBR.out.trans ((HB7.out.mono HBR.out.size).trans ((HONE.out.mono HBR2.out).trans h8.out)))
      have HONE3:=zh hone3
      clear hcl hshw hebr hone3 f0 f1 f2 f3 f4
      go_wp2_with (first | (at_builtin;go_loud (refine zaj rfl fun K hK=>zav (S:=SR S (.slice o9 len9 cap9)) (.tmp 46) (.tmp 50) rfl w1.heap.size u8 (.slice (some ⟨w3.heap.size,0,none⟩) 1 1) dv [c] rfl HV5 rfl HK2 (by have:=HLE2.out.2;simp;omega) fun oA lenA capA w4 hA hB' hC hD=>hK _ _ ?_)) | fail)
      go_roundg (L.length-(i+1))
      case measure=>have:=HLN.out;omega
      case rel=>exact zh ⟨i+1,dn++[a],dv++[c],by go_num,rfl,by have:=HLN.out;omega,by simp[HLV.out.1],by simp[HLV.out.2],HN5.out.other hA.out hC.out hD.out,hA.out,HB3.out.trans (((HONE3.out.mono HB3.out.size)).trans (hB'.out)),HBD3.out⟩
     ·have h2':((len7:Int) != 2)=true:=bne_iff_ne.2 (by omega)
      have HNN:=zh (show Sy.binds x=none from by
       rw[HR.out,HBD.out,Sy.bindsL]
       split
       ·rename_i a c hac
        exact absurd (by rw[HL7.out,hac];rfl) h2
       ·rfl)
      go_wp2_with fail
      refine bodyPost_ret (v:=.tuple #[.slice none 0 0,.slice none 0 0,.bool false]) (by simp[results,results79,go_sem]) rfl ?_
      have hbw:=Below.next HBW.out HB7.out
      exact ⟨[],[],_,_,false,rfl,GrownS.nil _ HNIL.out hbw.size,GrownS.nil _ HNIL.out hbw.size,hbw,fun h=>absurd h (by decide),fun _=>HNN.out,Nat.zero_le _⟩
   ·have hd:decide ((i:Int)<(len':Int))=false:=by simp;omega
    have hE:Sy.bindsL L=some (dn,dv):=by rw[hbd,List.drop_of_length_le (by rw[<-HLN.out];omega)];simp[Sy.bindsL]
    have hdl:dv.length<=100000:=by have:=HLN.out;omega
    have HE:=zh hE
    have HGN:=zh hgn
    have HGV:=zh hgv
    have HBR:=zh hbl
    clear hln hlv hgn hgv hbl hbd hE
    go_wp2_with fail
    refine bodyPost_ret (v:=.tuple #[u7,u8,.bool true]) (by simp[results,results79,go_sem]) rfl ?_
    have hw:w.heap.size<=w1.heap.size:=Nat.le_trans HBL.out.size HB1.out.size
    exact ⟨dn,dv,u7,u8,true,rfl,HGN.out.less (fun _ h=>h) hw,HGV.out.less (fun _ h=>h) hw,(HBL.out.trans (HB1.out.mono HBL.out.size)).trans (HBR.out.mono hw),fun _=>by rw[HR.out,HE.out],fun h=>absurd h (by decide),hdl⟩
end
section
open Go Go.RowKit
theorem XS.clause_some {S:Nat->Prop} {b H n:Nat} {w W:World} (hst:XS S b H n w W) (x:Dat) (r:List Dat) (sl:Value) (least:Nat) (c:List Dat) (last:Bool) (hc:Sy.clause x r least=some (c,last)) (hv:(Sp.row (some (x::r))).holds (S1 S H) sl W) (hsm:Sy.small x=true) (hle:1<=least) (hl2:least<=1000) (hrl:r.length<=1000000):Calls prog 163 #[sl,.int .i64 least] W fun e w'=>∃(o:Option Addr) (len cap:Nat),e=.returned (.tuple #[.slice o len cap,.bool last])∧(Sp.row (some c)).holds (S1 S H) (.slice o len cap) w'∧len=c.length∧Below W.heap.size W w':=by
 obtain ⟨h1,h2⟩:=Sy.small_iff.1 hsm
 refine (zdW (S1 S H) x r sl least W.heap.size W hst.lt (Sp.data hv) qzL h1 h2 hle hl2 hrl).mono ?_
 rintro e w' ⟨hb,h⟩
 rw[hc] at h
 obtain ⟨o,len,cap,rfl,hr⟩:=h
 exact ⟨o,len,cap,rfl,Sp.ofS hr,(zbd hr).1,hb⟩
theorem XS.clause_none {S:Nat->Prop} {b H n:Nat} {w W:World} (hst:XS S b H n w W) (x:Dat) (r:List Dat) (sl:Value) (least:Nat) (hc:Sy.clause x r least=none) (hv:(Sp.row (some (x::r))).holds (S1 S H) sl W) (hsm:Sy.small x=true) (hle:1<=least) (hl2:least<=1000) (hrl:r.length<=1000000):Calls prog 163 #[sl,.int .i64 least] W fun e w'=>e=.panicked badE∧Below W.heap.size W w':=by
 obtain ⟨h1,h2⟩:=Sy.small_iff.1 hsm
 refine (zdW (S1 S H) x r sl least W.heap.size W hst.lt (Sp.data hv) qzL h1 h2 hle hl2 hrl).mono ?_
 rintro e w' ⟨hb,h⟩
 rw[hc] at h
 exact ⟨h,hb⟩
theorem zkb (S:Nat->Prop) (b n:Nat) (sl:Value) (w:World) (r:Option (Dat × Nat)) (hr:Sy.ret Sy.void n=some r) (hS:∀c,S c->c<w.heap.size) (hb:S b) (hx:XP w b n) (hV:Env w) (hv:RepS (hide w S) w.heap.size [] sl) :
  Calls prog 148 #[.pointer (some ⟨b,0,none⟩),sl] w (XRes S b r w):=by
 obtain ⟨o,len,cap,rfl,hln,hcp⟩:=Sp.slice (Sp.ofS hv)
 obtain ⟨W0,hW0,hst⟩:=zaw hS hb hx hV
 have HST:=zh hst
 have HW0:=zh hW0
 obtain rfl:len=0:=by rw[hln];rfl
 have HLV:=zh (hst.first (Sp.ofS hv))
 have HR:=zh hr
 clear hst hW0 hv hS hb hx hV hr hln hcp
 go_enter func148,ntmps148
 go_upto_region 1 with fail
 rw[HW0.out]
 go_upto_region 2 with fail
 refine zad (dr:=false) (S:=S) (b:=b) (H:=w.heap.size) 1 [] (fun j=>[n].getD j 0) [.dat (some (Sy.void))] HST.out (by show zB _ _ 1 97=true;kernel_rfl) (by decide) (by decide) (by kernel_rfl) ?hops ?hcall ?hend
 case hops=>
  intro i o8 hi hip ho a8 w8 hdf jd ht8 jb ja
  match i,hi,hip with
  | 0,_,_=>cases ho;exact zeb rfl jd
  | i+1,hi,_=>exact absurd hi (by omega)
 case hcall=>
  intro j i o8 hj ho a8 w8 hdf jc ht8 jb jg ja
  simp at hj
 case hend=>
  intro a8 w8 hdf hsz jc ht8 hval ja
  refine fin_s (r:=r) jc (hval 0 _ 15 (by omega) rfl rfl) (fun x8 hx8=>?_) ((ja.at 4 (by kernel_rfl)).trans rfl) hdf rfl results148 fun w9 h9=>?_
  ·clear hval ja hdf hsz jc ht8
   cases hx8
   exact Sy.ret_split HR.out
  ·go_wp2_with fail
theorem zib (x:Dat) (t:List Dat) (hsx:Sy.small x=true) (htl:t.length<=100000) (hcl:Sy.clause x t 1=none) (S:Nat->Prop) (b n:Nat) (sl:Value) (w:World) (r:Option (Dat × Nat)) (hr:(Sy.bad:Sy.M Dat) n=some r) (hS:∀c,S c->c<w.heap.size) (hb:S b) (hx:XP w b n) (hV:Env w) (hv:RepS (hide w S) w.heap.size (x::t) sl) :
  Calls prog 148 #[.pointer (some ⟨b,0,none⟩),sl] w (XRes S b r w):=by
 obtain ⟨o,len,cap,rfl,hln,hcp⟩:=Sp.slice (Sp.ofS hv)
 obtain ⟨W0,hW0,hst⟩:=zaw hS hb hx hV
 have HST:=zh hst
 have HW0:=zh hW0
 have hge:1<=len:=by rw[hln];simp
 have ht0a:((len:Int)==0)=false:=by simp;omega
 have ht0b:¬len=0:=by omega
 have ht9a:decide ((len:Int) > 0)=true:=by simp;omega
 have ht9b:0<len:=by omega
 have ht9c:((0:Int)<len):=by omega
 have HLV:=zh (hst.first (Sp.ofS hv))
 have HR:=zh hr
 have HC:=zh (hst.clause_none x t (.slice o len cap) 1 hcl (hst.first (Sp.ofS hv)) hsx (by omega) (by omega) (by omega))
 have HSX:=zh hsx
 have HTL:=zh htl
 clear hst hW0 hv hS hb hx hV hr hln hcp hge hsx htl
 go_enter func148,ntmps148
 go_upto_region 1 with fail
 rw[HW0.out]
 have hrn:=Sy.bad_split HR.out
 subst hrn
 go_wp2_with (first | (go_at_call 163;refine HC.out.mono ?_;rintro e' w1 ⟨rfl,hb1⟩) | fail)
 exact ⟨rfl,HST.out.bad' (Turned.of_below hb1)⟩
theorem zij {E:Dat->Sy.M Dat} (hE:EOk E) (x:Dat) (t:List Dat) (hsx:Sy.small x=true) (htl:t.length<=100000) (a:Dat) (c:List Dat) (hcl:Sy.clause x t 1=some (a::c,true)) (hcl2:c.length<=100000) (S:Nat->Prop) (b n:Nat) (sl:Value) (w:World) (r:Option (Dat × Nat)) (hr:Sy.begin E c n=some r) (hS:∀c,S c->c<w.heap.size) (hb:S b) (hx:XP w b n) (hV:Env w) (hv:RepS (hide w S) w.heap.size (x::t) sl) :
  Calls prog 148 #[.pointer (some ⟨b,0,none⟩),sl] w (XRes S b r w):=by
 obtain ⟨o,len,cap,rfl,hln,hcp⟩:=Sp.slice (Sp.ofS hv)
 obtain ⟨W0,hW0,hst⟩:=zaw hS hb hx hV
 have HST:=zh hst
 have HW0:=zh hW0
 have hge:1<=len:=by rw[hln];simp
 have ht0a:((len:Int)==0)=false:=by simp;omega
 have ht0b:¬len=0:=by omega
 have ht9a:decide ((len:Int) > 0)=true:=by simp;omega
 have ht9b:0<len:=by omega
 have ht9c:((0:Int)<len):=by omega
 have HLV:=zh (hst.first (Sp.ofS hv))
 have HR:=zh hr
 have HC:=zh (hst.clause_some x t (.slice o len cap) 1 _ _ hcl (hst.first (Sp.ofS hv)) hsx (by omega) (by omega) (by omega))
 have HCL:=zh hcl2
 clear hcl2
 have HE:=zh hE
 have HSX:=zh hsx
 have HTL:=zh htl
 clear hst hW0 hv hS hb hx hV hr hln hcp hge hE hsx htl
 go_enter func148,ntmps148
 go_upto_region 1 with fail
 rw[HW0.out]
 go_upto_region 5 with (first | (go_at_call 163;refine HC.out.mono ?_;rintro e' w1 ⟨oc,lenc,capc,rfl,hg1,hl1,hb1⟩;have HG1:=zh hg1;have HL1:=zh hl1;have HB1:=zh hb1;clear hg1 hl1 hb1) | fail)
 have HST1:=zh (HST.out.below HB1.out)
 have HLV1:=zh (Sp.below HLV.out HB1.out)
 obtain ⟨p1,hp1⟩:∃p1,r=p1:=⟨_,rfl⟩
 have HP1:=zh (show Sy.begin E c n=some p1 from by rw[<-hp1];exact HR.out)
 have jh:=zh (show p1=none->r=none from fun h=>by rw[hp1];exact h)
 have HRF:=zh hp1
 clear hp1
 refine zad (dr:=false) (S:=S) (b:=b) (H:=w.heap.size) 4 [3] (fun j=>[n,cnt p1].getD j 0) [.val (.pointer (some ⟨b,0,none⟩)),.row (some (a::c)),.row (some (c)),.dat (p1.map (·.1))] HST1.out (by show zB _ _ 4 97=true;kernel_rfl) (by decide) (by decide) (by kernel_rfl) ?hops ?hcall ?hend
 case hops=>
  intro i o8 hi hip ho a8 w8 hdf jd ht8 jb ja
  match i,hi,hip with
  | 0,_,_=>cases ho;exact zac rfl (Sp.at ja 0 (by kernel_rfl) (rfl) (.inl HST1.out.own) ht8)
  | 1,_,_=>cases ho;exact zac rfl (Sp.at ja 5 (by kernel_rfl) (HG1.out) (.inl HST1.out.own) ht8)
  | 2,_,_=>cases ho;exact zaD (k:=1) rfl (Sp.dep jb 1 24 (by kernel_rfl)) (by decide) (by simp) (by decide)
  | 3,_,h=>exact absurd (by decide) h
  | i+4,hi,_=>exact absurd hi (by omega)
 case hcall=>
  intro j i o8 hj ho a8 w8 hdf jc ht8 jb jg ja
  match j,hj with
  | 0,hj=>
   cases hj;cases ho
   refine zaN (p:=p1) rfl (Sp.dep jb 0 23 (by kernel_rfl)) (fun _ _=>rfl) (zaU HE.out (S1 S w.heap.size) b _ c _ w8 p1 HP1.out jc.lt (.inl jc.own) jc.hx jc.hE (Sp.data (Sp.dep jb 2 25 (by kernel_rfl))) HCL.out) fun hp w9 ht9=>?_
   cases jh.out hp;exact ⟨hdf,jc.bad' ht9⟩
  | _+1,hj=>simp at hj
 case hend=>
  intro a8 w8 hdf hsz jc ht8 hval ja
  refine fin_s (r:=r) jc (hval 3 _ 26 (by omega) rfl rfl) (fun x8 hx8=>?_) ((ja.at 4 (by kernel_rfl)).trans rfl) hdf rfl results148 fun w9 h9=>?_
  ·clear hval ja hdf hsz jc ht8
   rcases p1 with _ | ⟨y1,n1⟩
   ·simp at hx8
   cases hx8
   exact HRF.out
  ·go_wp2_with fail
theorem zkf {E:Dat->Sy.M Dat} (hE:EOk E) (x:Dat) (t:List Dat) (hsx:Sy.small x=true) (htl:t.length<=100000) (a:Dat) (hcl:Sy.clause x t 1=some ([a],false)) (ih:∀(S:Nat->Prop) (b n:Nat) (sl:Value) (w:World) (r:Option (Dat × Nat)),Sy.condF E t n=some r->(∀c,S c->c<w.heap.size)->S b->XP w b n->Env w->RepS (hide w S) w.heap.size t sl->Calls prog 148 #[.pointer (some ⟨b,0,none⟩),sl] w (XRes S b r w)) (S:Nat->Prop) (b n:Nat) (sl:Value) (w:World) (r:Option (Dat × Nat)) (hr:Sy.bnd Sy.fresh (fun v=>Sy.bnd (Sy.condF E t) fun d=>Sy.over E v (Sy.form Sy.ifB [v,v,d]) a) n=some r) (hS:∀c,S c->c<w.heap.size) (hb:S b) (hx:XP w b n) (hV:Env w) (hv:RepS (hide w S) w.heap.size (x::t) sl) :
  Calls prog 148 #[.pointer (some ⟨b,0,none⟩),sl] w (XRes S b r w):=by
 obtain ⟨o,len,cap,rfl,hln,hcp⟩:=Sp.slice (Sp.ofS hv)
 obtain ⟨W0,hW0,hst⟩:=zaw hS hb hx hV
 have HST:=zh hst
 have HW0:=zh hW0
 have hge:1<=len:=by rw[hln];simp
 have ht0a:((len:Int)==0)=false:=by simp;omega
 have ht0b:¬len=0:=by omega
 have ht9a:decide ((len:Int) > 0)=true:=by simp;omega
 have ht9b:0<len:=by omega
 have ht9c:((0:Int)<len):=by omega
 have HLV:=zh (hst.first (Sp.ofS hv))
 have HR:=zh hr
 have HC:=zh (hst.clause_some x t (.slice o len cap) 1 _ _ hcl (hst.first (Sp.ofS hv)) hsx (by omega) (by omega) (by omega))
 have HE:=zh hE
 have HSX:=zh hsx
 have HTL:=zh htl
 have IH:=zh ih
 clear hst hW0 hv hS hb hx hV hr hln hcp hge hE hsx htl ih
 go_enter func148,ntmps148
 go_upto_region 1 with fail
 rw[HW0.out]
 obtain ⟨hfn,hr2⟩:=Sy.fresh_split HR.out
 have HFN:=zh hfn
 have HR2:=zh hr2
 clear hfn hr2
 go_upto_region 4 with (first | (go_at_call 163;refine HC.out.mono ?_;rintro e' w1 ⟨oc,lenc,capc,rfl,hg1,hl1,hb1⟩;have HG1:=zh hg1;have HL1:=zh hl1;have HB1:=zh hb1;clear hg1 hl1 hb1) | fail)
 have HST1:=zh (HST.out.below HB1.out)
 have HLV1:=zh (Sp.below HLV.out HB1.out)
 obtain rfl:lenc=1:=HL1.out
 have HFR:=zh (zbP (S1 S w.heap.size) b n w1 HST1.out.lt (.inl HST1.out.own) HST1.out.hx HST1.out.hE HFN.out)
 go_upto_region 8 with (first | (go_at_call 147;refine HFR.out.mono ?_;rintro e' w5 ⟨v5,rfl,hr5,ht5,hx5⟩;obtain ⟨k9,m9,d9,s9,o9,len9,cap9,rfl⟩:=zae hr5.unhide) | fail)
 obtain ⟨W6,hW6⟩:∃W6,w5.alloc (.cells #[.int .i64 k9,.int .i64 m9,.int .i64 d9,.string s9,.slice o9 len9 cap9] 26)=W6:=⟨_,rfl⟩
 obtain ⟨hst6,hel6,ht6⟩:=HST1.out.stored ht5 hx5 hr5 hW6
 rw[hW6]
 have HST6:=zh hst6
 have HEL6:=zh hel6
 have HLV6:=zh (HST1.out.keep HLV1.out ht6)
 have HG6:=zh (HST1.out.keep HG1.out ht6)
 clear hst6 hel6 ht6 ht5 hx5 hr5 hW6
 obtain ⟨p1,hp1,hn1,hk⟩:=Sy.bnd_split HR2.out
 obtain ⟨p2,hp2⟩:∃p2,r=p2:=⟨_,rfl⟩
 have HP1:=zh hp1
 have jh:=zh hn1
 have HP2:=zh (show ∀u7 n7,p1=some (u7,n7)->Sy.over E (Sy.freshD (n+1)) (Sy.form Sy.ifB [Sy.freshD (n+1),Sy.freshD (n+1),u7]) a n7=some p2 from by rw[<-hp2];exact hk)
 have HNp2:=zh (show p2=none->r=none from fun h=>by rw[hp2];exact h)
 have HRF:=zh hp2
 clear hp1 hn1 hk hp2
 refine zad (dr:=true) (S:=S) (b:=b) (H:=w.heap.size) 14 [7,13] (fun j=>[(n+1),cnt p1,cnt p2].getD j 0) [.val (.pointer (some ⟨b,0,none⟩)),.dat (some (Sy.freshD (n+1))),.dat (some (Sy.freshD (n+1))),.dat (some (Sy.freshD (n+1))),.val (.pointer (some ⟨b,0,none⟩)),.row (some (x::t)),.row (some (t)),.dat (p1.map (·.1)),.row ((some (Sy.freshD (n+1))).bind fun u0_41=>(some (Sy.freshD (n+1))).bind fun u1_41=>(p1.map (·.1)).bind fun u2_41=>some [u0_41,u1_41,u2_41]),.dat (((some (Sy.freshD (n+1))).bind fun u0_41=>(some (Sy.freshD (n+1))).bind fun u1_41=>(p1.map (·.1)).bind fun u2_41=>some [u0_41,u1_41,u2_41]).map (Sy.form ⟨#[105,102]⟩)),.row (some (a::[])),.elm (some (a)),.dat (some (a)),.dat (p2.map (·.1))] HST6.out (by show zB _ _ 14 97=true;kernel_rfl) (by decide) (by decide) (by kernel_rfl) ?hops ?hcall ?hend
 case hops=>
  intro i o8 hi hip ho a8 w8 hdf jd ht8 jb ja
  match i,hi,hip with
  | 0,_,_=>cases ho;exact zac rfl (Sp.at ja 0 (by kernel_rfl) (rfl) (.inl HST6.out.own) ht8)
  | 1,_,_=>cases ho;exact zal rfl (Sp.at ja 7 (by kernel_rfl) (HEL6.out) (.inl HST6.out.own) ht8)
  | 2,_,_=>cases ho;exact zal rfl (Sp.at ja 7 (by kernel_rfl) (HEL6.out) (.inl HST6.out.own) ht8)
  | 3,_,_=>cases ho;exact zal rfl (Sp.at ja 7 (by kernel_rfl) (HEL6.out) (.inl HST6.out.own) ht8)
  | 4,_,_=>cases ho;exact zac rfl (Sp.at ja 0 (by kernel_rfl) (rfl) (.inl HST6.out.own) ht8)
  | 5,_,_=>cases ho;exact zac rfl (Sp.at ja 1 (by kernel_rfl) (HLV6.out) (.inl HST6.out.own) ht8)
  | 6,_,_=>cases ho;exact zaD (k:=1) rfl (Sp.dep jb 5 38 (by kernel_rfl)) (by decide) (by simp) (by decide)
  | 7,_,h=>exact absurd (by decide) h
  | 8,_,_=>cases ho;exact zbX rfl (Sp.dep jb 2 35 (by kernel_rfl)) (Sp.dep jb 3 36 (by kernel_rfl)) (Sp.dep jb 7 40 (by kernel_rfl)) jd
  | 9,_,_=>cases ho;exact za9 rfl (Sp.dep jb 8 41 (by kernel_rfl)) (by decide) (rowlen3) jd
  | 10,_,_=>cases ho;exact zac rfl (Sp.at ja 5 (by kernel_rfl) (HG6.out) (.inl HST6.out.own) ht8)
  | 11,_,_=>cases ho;exact zas (k:=0) rfl (Sp.dep jb 10 43 (by kernel_rfl)) rfl (by decide)
  | 12,_,_=>cases ho;exact zal rfl (Sp.dep jb 11 44 (by kernel_rfl))
  | 13,_,h=>exact absurd (by decide) h
  | i+14,hi,_=>exact absurd hi (by omega)
 case hcall=>
  intro j i o8 hj ho a8 w8 hdf jc ht8 jb jg ja
  match j,hj with
  | 0,hj=>
   cases hj;cases ho
   refine zaN (p:=p1) rfl (Sp.dep jb 4 37 (by kernel_rfl)) (fun _ _=>rfl) (IH.out (S1 S w.heap.size) b _ _ w8 p1 HP1.out jc.lt (.inl jc.own) jc.hx jc.hE (Sp.data (Sp.dep jb 6 39 (by kernel_rfl)))) fun hp w9 ht9=>?_
   cases jh.out hp;exact ⟨hdf,jc.bad' ht9⟩
  | 1,hj=>
   cases hj;cases ho
   obtain ⟨y1,m1,hq1⟩:∃y m,p1=some (y,m):=by
    have h:=(Sp.dep jb 9 42 (by kernel_rfl))
    obtain ⟨_,h,_⟩:=h
    rcases p1 with _ | ⟨y,m⟩
    ·simp at h
    ·exact ⟨y,m,rfl⟩
   have hv0:a8.tmps.getD 33 undef=.pointer (some ⟨b,0,none⟩):=(Sp.dep jb 0 33 (by kernel_rfl))
   refine zaI (p:=p2) (vals:=#[.pointer (some ⟨b,0,none⟩),a8.tmps.getD 34 undef,a8.tmps.getD 42 undef,a8.tmps.getD 45 undef]) rfl (by simp only[List.map_toArray,List.map_cons,List.map_nil];rw[<-hv0];rfl) (fun _ _=>rfl) (zb6 HE.out (S1 S w.heap.size) b (cnt p1) (Sy.freshD (n+1)) (Sy.form Sy.ifB [Sy.freshD (n+1),Sy.freshD (n+1),y1]) a _ _ _ w8 p2 (by rw[hq1];exact HP2.out y1 m1 hq1) jc.lt (.inl jc.own) jc.hx jc.hE (Sp.datum (Sp.dep jb 1 34 (by kernel_rfl))) (Sp.datum (x:=Sy.form Sy.ifB [Sy.freshD (n+1),Sy.freshD (n+1),y1]) (by have h:=(Sp.dep jb 9 42 (by kernel_rfl));subst hq1;exact h)) (Sp.datum (Sp.dep jb 12 45 (by kernel_rfl)))) fun hp w9 ht9=>?_
   have hrn:=HNp2.out hp
   subst hrn
   exact ⟨hdf,jc.bad' ht9⟩
  | _+2,hj=>simp at hj
 case hend=>
  intro a8 w8 hdf hsz jc ht8 hval ja
  refine fin_s (r:=r) jc (hval 13 _ 46 (by omega) rfl rfl) (fun x8 hx8=>?_) ((ja.at 4 (by kernel_rfl)).trans rfl) hdf rfl results148 fun w9 h9=>?_
  ·clear hval ja hdf hsz jc ht8
   rcases p2 with _ | ⟨y2,n2⟩
   ·simp at hx8
   rcases p1 with _ | ⟨y1,n1⟩
   ·exact absurd (HRF.out.symm.trans (jh.out rfl)) (by simp)
   cases hx8
   exact HRF.out
  ·go_wp2_with fail
theorem zct (x:Dat) (t:List Dat) (hsx:Sy.small x=true) (htl:t.length<=100000) (a y:Dat) (c:List Dat) (hcl:Sy.clause x t 1=some (a::y::c,false)) (hnm:Sy.isNm y Sy.arrowB=true) (hc3:c.length≠1) (S:Nat->Prop) (b n:Nat) (sl:Value) (w:World) (r:Option (Dat × Nat)) (hr:(Sy.bad:Sy.M Dat) n=some r) (hS:∀c,S c->c<w.heap.size) (hb:S b) (hx:XP w b n) (hV:Env w) (hv:RepS (hide w S) w.heap.size (x::t) sl) :
  Calls prog 148 #[.pointer (some ⟨b,0,none⟩),sl] w (XRes S b r w):=by
 obtain ⟨o,len,cap,rfl,hln,hcp⟩:=Sp.slice (Sp.ofS hv)
 obtain ⟨W0,hW0,hst⟩:=zaw hS hb hx hV
 have HST:=zh hst
 have HW0:=zh hW0
 have hge:1<=len:=by rw[hln];simp
 have ht0a:((len:Int)==0)=false:=by simp;omega
 have ht0b:¬len=0:=by omega
 have ht9a:decide ((len:Int) > 0)=true:=by simp;omega
 have ht9b:0<len:=by omega
 have ht9c:((0:Int)<len):=by omega
 have HLV:=zh (hst.first (Sp.ofS hv))
 have HR:=zh hr
 have HC:=zh (hst.clause_some x t (.slice o len cap) 1 _ _ hcl (hst.first (Sp.ofS hv)) hsx (by omega) (by omega) (by omega))
 have HSX:=zh hsx
 have HTL:=zh htl
 clear hst hW0 hv hS hb hx hV hr hln hcp hge hsx htl
 go_enter func148,ntmps148
 go_upto_region 1 with fail
 rw[HW0.out]
 go_upto_region 4 with (first | (go_at_call 163;refine HC.out.mono ?_;rintro e' w1 ⟨oc,lenc,capc,rfl,hg1,hl1,hb1⟩;have HG1:=zh hg1;have HL1:=zh hl1;have HB1:=zh hb1;clear hg1 hl1 hb1) | fail)
 have HST1:=zh (HST.out.below HB1.out)
 have HLV1:=zh (Sp.below HLV.out HB1.out)
 have hlc:lenc=c.length+2:=HL1.out
 have hn1a:((lenc:Int)==1)=false:=by simp;omega
 have hn1b:¬lenc=1:=by omega
 have hn3a:((lenc:Int)==3)=false:=by simp;omega
 have hn3b:¬lenc=3:=by omega
 have hbk1:1<lenc:=by omega
 have hbk2:(1:Int)<lenc:=by omega
 clear hlc
 obtain ⟨c1,off1,rfl,hel⟩:=Sp.nth (j:=1) HG1.out rfl
 obtain ⟨k3,m3,d3,st3,o3,len3,cap3,hxr,e0,e1,e2,e3,e4,el⟩:=Sp.cells hel
 simp only[Nat.one_mul] at e0 e1 e2 e3 e4
 have HIS:=zh (fun w=>zdr (w:=w) y _ Sy.arrowB hxr)
 rw[hnm] at HIS
 clear hel hxr
 have hrn:=Sy.bad_split HR.out
 subst hrn
 go_wp2_with (first | (go_at_call 74;refine (HIS.out _).mono ?_;rintro e' w2 ⟨rfl,hb2⟩;have HB2:=zh hb2;clear hb2) | (go_at_call 30;refine (zaf _).mono ?_;rintro e' wN ⟨rfl,rfl⟩) | fail)
 exact ⟨rfl,HST1.out.bad' (Turned.of_below HB2.out)⟩
theorem zhn {E:Dat->Sy.M Dat} (hE:EOk E) (x:Dat) (t:List Dat) (hsx:Sy.small x=true) (htl:t.length<=100000) (a y g:Dat) (hcl:Sy.clause x t 1=some (a::y::[g],false)) (hnm:Sy.isNm y Sy.arrowB=true) (ih:∀(S:Nat->Prop) (b n:Nat) (sl:Value) (w:World) (r:Option (Dat × Nat)),Sy.condF E t n=some r->(∀c,S c->c<w.heap.size)->S b->XP w b n->Env w->RepS (hide w S) w.heap.size t sl->Calls prog 148 #[.pointer (some ⟨b,0,none⟩),sl] w (XRes S b r w)) (S:Nat->Prop) (b n:Nat) (sl:Value) (w:World) (r:Option (Dat × Nat)) (hr:Sy.bnd Sy.fresh (fun v=>Sy.bnd (E g) fun f=>Sy.bnd (Sy.condF E t) fun d=>Sy.over E v (Sy.form Sy.ifB [v,Dat.list [f,v],d]) a) n=some r) (hS:∀c,S c->c<w.heap.size) (hb:S b) (hx:XP w b n) (hV:Env w) (hv:RepS (hide w S) w.heap.size (x::t) sl) :
  Calls prog 148 #[.pointer (some ⟨b,0,none⟩),sl] w (XRes S b r w):=by
 obtain ⟨o,len,cap,rfl,hln,hcp⟩:=Sp.slice (Sp.ofS hv)
 obtain ⟨W0,hW0,hst⟩:=zaw hS hb hx hV
 have HST:=zh hst
 have HW0:=zh hW0
 have hge:1<=len:=by rw[hln];simp
 have ht0a:((len:Int)==0)=false:=by simp;omega
 have ht0b:¬len=0:=by omega
 have ht9a:decide ((len:Int) > 0)=true:=by simp;omega
 have ht9b:0<len:=by omega
 have ht9c:((0:Int)<len):=by omega
 have HLV:=zh (hst.first (Sp.ofS hv))
 have HR:=zh hr
 have HC:=zh (hst.clause_some x t (.slice o len cap) 1 _ _ hcl (hst.first (Sp.ofS hv)) hsx (by omega) (by omega) (by omega))
 have HE:=zh hE
 have HSX:=zh hsx
 have HTL:=zh htl
 have IH:=zh ih
 clear hst hW0 hv hS hb hx hV hr hln hcp hge hE hsx htl ih
 go_enter func148,ntmps148
 go_upto_region 1 with fail
 rw[HW0.out]
 obtain ⟨hfn,hr2⟩:=Sy.fresh_split HR.out
 have HFN:=zh hfn
 have HR2:=zh hr2
 clear hfn hr2
 go_upto_region 4 with (first | (go_at_call 163;refine HC.out.mono ?_;rintro e' w1 ⟨oc,lenc,capc,rfl,hg1,hl1,hb1⟩;have HG1:=zh hg1;have HL1:=zh hl1;have HB1:=zh hb1;clear hg1 hl1 hb1) | fail)
 have HST1:=zh (HST.out.below HB1.out)
 have HLV1:=zh (Sp.below HLV.out HB1.out)
 obtain rfl:lenc=3:=HL1.out
 obtain ⟨c1,off1,rfl,hel⟩:=Sp.nth (j:=1) HG1.out rfl
 obtain ⟨k3,m3,d3,st3,o3,len3,cap3,hxr,e0,e1,e2,e3,e4,el⟩:=Sp.cells hel
 simp only[Nat.one_mul] at e0 e1 e2 e3 e4
 have HIS:=zh (fun w=>zdr (w:=w) y _ Sy.arrowB hxr)
 rw[hnm] at HIS
 clear hel hxr
 go_upto_region 11 with (first | (go_at_call 74;refine (HIS.out _).mono ?_;rintro e' w2 ⟨rfl,hb2⟩;have HB2:=zh hb2;clear hb2) | (go_at_call 30;refine (zah _).mono ?_;rintro e' wN ⟨⟨vN,rfl⟩,rfl⟩) | fail)
 have jj:=zh (HST1.out.below HB2.out)
 have HLV2:=zh (Sp.below HLV1.out HB2.out)
 have HG2:=zh (Sp.below HG1.out HB2.out)
 clear e0 e1 e2 e3 e4 el
 have HFR:=zh (zbP (S1 S w.heap.size) b n wN jj.out.lt (.inl jj.out.own) jj.out.hx jj.out.hE HFN.out)
 go_upto_region 12 with (first | (go_at_call 147;refine HFR.out.mono ?_;rintro e' w5 ⟨v5,rfl,hr5,ht5,hx5⟩;obtain ⟨k9,m9,d9,s9,o9,len9,cap9,rfl⟩:=zae hr5.unhide) | fail)
 obtain ⟨W6,hW6⟩:∃W6,w5.alloc (.cells #[.int .i64 k9,.int .i64 m9,.int .i64 d9,.string s9,.slice o9 len9 cap9] 26)=W6:=⟨_,rfl⟩
 obtain ⟨hst6,hel6,ht6⟩:=jj.out.stored ht5 hx5 hr5 hW6
 rw[hW6]
 have HST6:=zh hst6
 have HEL6:=zh hel6
 have HLV6:=zh (jj.out.keep HLV2.out ht6)
 have HG6:=zh (jj.out.keep HG2.out ht6)
 clear hst6 hel6 ht6 ht5 hx5 hr5 hW6
 obtain ⟨p1,hp1,hn1,hk⟩:=Sy.bnd_split HR2.out
 have HP1:=zh hp1
 have jh:=zh hn1
 have HK:=zh hk
 clear hp1 hn1 hk
 refine zad (dr:=false) (S:=S) (b:=b) (H:=w.heap.size) 5 [4] (fun j=>[(n+1),cnt p1].getD j 0) [.val (.pointer (some ⟨b,0,none⟩)),.row (some (a::y::g::[])),.elm (some (g)),.dat (some (g)),.dat (p1.map (·.1))] HST6.out (by show zB _ _ 5 97=true;kernel_rfl) (by decide) (by decide) (by kernel_rfl) ?hops ?hcall ?hend
 case hops=>
  intro i o8 hi hip ho a8 w8 hdf jd ht8 jb ja
  match i,hi,hip with
  | 0,_,_=>cases ho;exact zac rfl (Sp.at ja 0 (by kernel_rfl) (rfl) (.inl HST6.out.own) ht8)
  | 1,_,_=>cases ho;exact zac rfl (Sp.at ja 5 (by kernel_rfl) (HG6.out) (.inl HST6.out.own) ht8)
  | 2,_,_=>cases ho;exact zas (k:=2) rfl (Sp.dep jb 1 59 (by kernel_rfl)) rfl (by decide)
  | 3,_,_=>cases ho;exact zal rfl (Sp.dep jb 2 60 (by kernel_rfl))
  | 4,_,h=>exact absurd (by decide) h
  | i+5,hi,_=>exact absurd hi (by omega)
 case hcall=>
  intro j i o8 hj ho a8 w8 hdf jc ht8 jb jg ja
  match j,hj with
  | 0,hj=>
   cases hj;cases ho
   refine zaN (p:=p1) rfl (Sp.dep jb 0 58 (by kernel_rfl)) (fun _ _=>rfl) (HE.out (S1 S w.heap.size) b _ g _ w8 p1 HP1.out jc.lt (.inl jc.own) jc.hx jc.hE (Sp.datum (Sp.dep jb 3 61 (by kernel_rfl)))) fun hp w9 ht9=>?_
   cases jh.out hp;exact ⟨hdf,jc.bad' ht9⟩
  | _+1,hj=>simp at hj
 case hend=>
  intro a8 w8 hdf hsz jc ht8 hval ja
  obtain ⟨x8,hx8,hr8⟩:∃x8,p1.map (·.1)=some x8∧RepD (hide w8 (S1 S w.heap.size)) w8.heap.size x8 (a8.tmps.getD 62 undef):=hval 4 _ 62 (by omega) rfl rfl
  rcases p1 with _ | ⟨y1,n1⟩
  ·simp at hx8
  have hx9:some (y1)=some x8:=hx8
  obtain rfl:=Option.some.inj hx9
  obtain ⟨f8,ha,hf8⟩:=zaq [false,false,false,false,false,false,false,false,false,false,false,false,false,false,false,false,false,false,false,false,false,false,false,false,false,false,false,false,false,false,false,false,false,false,false,false,false,false,false,false,false,false,false,false,false,false,false,false,false,false,false,false,false,false,false,false,false,false,true,true,true,true,true] (by kernel_rfl) hdf hsz ja
  rw[<-hf8] at hr8
  subst ha
  obtain ⟨k8,m8,d8,s8,o8,len8,cap8,h8⟩:=zae hr8.unhide
  rw[h8] at hr8
  obtain ⟨W8,hW8⟩:∃W8,w8.alloc (.cells #[.int .i64 k8,.int .i64 m8,.int .i64 d8,.string s8,.slice o8 len8 cap8] 26)=W8:=⟨_,rfl⟩
  obtain ⟨hst9,hel9,ht9⟩:=(show XS S b w.heap.size n1 w w8 from jc).stored (Turned.refl _ _) jc.hx hr8 hW8
  have HST7:=zh hst9
  have HEL7:=zh hel9
  have HW8:=zh hW8
  have HLV7:=zh (HST6.out.keep (HLV6.out) (ht8.next ht9))
  have HG7:=zh (HST6.out.keep (HG6.out) (ht8.next ht9))
  have HEL8:=zh (HST6.out.keep (HEL6.out) (ht8.next ht9))
  clear hval ja hf8 hdf hsz hr8 jc ht8 hx8 hx9 hst9 hel9 ht9 hW8
  simp only[spellH,List.drop_succ_cons,List.drop_zero,h8]
  go_upto_region 13 with fail
  rw[HW8.out]
  clear HW8
  have HR3:=zh (HK.out y1 n1 rfl)
  clear HP1 jh HK
  obtain ⟨p1,hp1,hn1,hk⟩:=Sy.bnd_split HR3.out
  obtain ⟨p2,hp2⟩:∃p2,r=p2:=⟨_,rfl⟩
  have HP1:=zh hp1
  have jh:=zh hn1
  have HP2:=zh (show ∀u7 n7,p1=some (u7,n7)->Sy.over E (Sy.freshD (n+1)) (Sy.form Sy.ifB [Sy.freshD (n+1),Dat.list [y1,Sy.freshD (n+1)],u7]) a n7=some p2 from by rw[<-hp2];exact hk)
  have HNp2:=zh (show p2=none->r=none from fun h=>by rw[hp2];exact h)
  have HRF:=zh hp2
  clear hp1 hn1 hk hp2
  refine zad (dr:=true) (S:=S) (b:=b) (H:=w.heap.size) 17 [10,16] (fun j=>[n1,cnt p1,cnt p2].getD j 0) [.val (.pointer (some ⟨b,0,none⟩)),.dat (some (Sy.freshD (n+1))),.dat (some (Sy.freshD (n+1))),.dat (some (y1)),.dat (some (Sy.freshD (n+1))),.row ((some (y1)).bind fun u0_68=>(some (Sy.freshD (n+1))).bind fun u1_68=>some [u0_68,u1_68]),.dat (((some (y1)).bind fun u0_68=>(some (Sy.freshD (n+1))).bind fun u1_68=>some [u0_68,u1_68]).map Dat.list),.val (.pointer (some ⟨b,0,none⟩)),.row (some (x::t)),.row (some (t)),.dat (p1.map (·.1)),.row ((some (Sy.freshD (n+1))).bind fun u0_74=>(((some (y1)).bind fun u0_68=>(some (Sy.freshD (n+1))).bind fun u1_68=>some [u0_68,u1_68]).map Dat.list).bind fun u1_74=>(p1.map (·.1)).bind fun u2_74=>some [u0_74,u1_74,u2_74]),.dat (((some (Sy.freshD (n+1))).bind fun u0_74=>(((some (y1)).bind fun u0_68=>(some (Sy.freshD (n+1))).bind fun u1_68=>some [u0_68,u1_68]).map Dat.list).bind fun u1_74=>(p1.map (·.1)).bind fun u2_74=>some [u0_74,u1_74,u2_74]).map (Sy.form ⟨#[105,102]⟩)),.row (some (a::y::g::[])),.elm (some (a)),.dat (some (a)),.dat (p2.map (·.1))] HST7.out (by show zB _ _ 17 97=true;kernel_rfl) (by decide) (by decide) (by kernel_rfl) ?hops ?hcall ?hend
  case hops=>
   intro i o8 hi hip ho a8 w8 hdf jd ht8 jb ja
   match i,hi,hip with
   | 0,_,_=>cases ho;exact zac rfl (Sp.at ja 0 (by kernel_rfl) (rfl) (.inl HST7.out.own) ht8)
   | 1,_,_=>cases ho;exact zal rfl (Sp.at ja 8 (by kernel_rfl) (HEL8.out) (.inl HST7.out.own) ht8)
   | 2,_,_=>cases ho;exact zal rfl (Sp.at ja 8 (by kernel_rfl) (HEL8.out) (.inl HST7.out.own) ht8)
   | 3,_,_=>cases ho;exact zal rfl (Sp.at ja 9 (by kernel_rfl) (HEL7.out) (.inl HST7.out.own) ht8)
   | 4,_,_=>cases ho;exact zal rfl (Sp.at ja 8 (by kernel_rfl) (HEL8.out) (.inl HST7.out.own) ht8)
   | 5,_,_=>cases ho;exact zdp rfl (Sp.dep jb 3 66 (by kernel_rfl)) (Sp.dep jb 4 67 (by kernel_rfl)) jd
   | 6,_,_=>cases ho;exact zcc rfl (Sp.dep jb 5 68 (by kernel_rfl)) jd
   | 7,_,_=>cases ho;exact zac rfl (Sp.at ja 0 (by kernel_rfl) (rfl) (.inl HST7.out.own) ht8)
   | 8,_,_=>cases ho;exact zac rfl (Sp.at ja 1 (by kernel_rfl) (HLV7.out) (.inl HST7.out.own) ht8)
   | 9,_,_=>cases ho;exact zaD (k:=1) rfl (Sp.dep jb 8 71 (by kernel_rfl)) (by decide) (by simp) (by decide)
   | 10,_,h=>exact absurd (by decide) h
   | 11,_,_=>cases ho;exact zbX rfl (Sp.dep jb 2 65 (by kernel_rfl)) (Sp.dep jb 6 69 (by kernel_rfl)) (Sp.dep jb 10 73 (by kernel_rfl)) jd
   | 12,_,_=>cases ho;exact za9 rfl (Sp.dep jb 11 74 (by kernel_rfl)) (by decide) (rowlen3) jd
   | 13,_,_=>cases ho;exact zac rfl (Sp.at ja 5 (by kernel_rfl) (HG7.out) (.inl HST7.out.own) ht8)
   | 14,_,_=>cases ho;exact zas (k:=0) rfl (Sp.dep jb 13 76 (by kernel_rfl)) rfl (by decide)
   | 15,_,_=>cases ho;exact zal rfl (Sp.dep jb 14 77 (by kernel_rfl))
   | 16,_,h=>exact absurd (by decide) h
   | i+17,hi,_=>exact absurd hi (by omega)
  case hcall=>
   intro j i o8 hj ho a8 w8 hdf jc ht8 jb jg ja
   match j,hj with
   | 0,hj=>
    cases hj;cases ho
    refine zaN (p:=p1) rfl (Sp.dep jb 7 70 (by kernel_rfl)) (fun _ _=>rfl) (IH.out (S1 S w.heap.size) b _ _ w8 p1 HP1.out jc.lt (.inl jc.own) jc.hx jc.hE (Sp.data (Sp.dep jb 9 72 (by kernel_rfl)))) fun hp w9 ht9=>?_
    cases jh.out hp;exact ⟨hdf,jc.bad' ht9⟩
   | 1,hj=>
    cases hj;cases ho
    obtain ⟨y3,m1,hq1⟩:∃y m,p1=some (y,m):=by
     have h:=(Sp.dep jb 12 75 (by kernel_rfl))
     obtain ⟨_,h,_⟩:=h
     rcases p1 with _ | ⟨y,m⟩
     ·simp at h
     ·exact ⟨y,m,rfl⟩
    have hv0:a8.tmps.getD 63 undef=.pointer (some ⟨b,0,none⟩):=(Sp.dep jb 0 63 (by kernel_rfl))
    refine zaI (p:=p2) (vals:=#[.pointer (some ⟨b,0,none⟩),a8.tmps.getD 64 undef,a8.tmps.getD 75 undef,a8.tmps.getD 78 undef]) rfl (by simp only[List.map_toArray,List.map_cons,List.map_nil];rw[<-hv0];rfl) (fun _ _=>rfl) (zb6 HE.out (S1 S w.heap.size) b (cnt p1) (Sy.freshD (n+1)) (Sy.form Sy.ifB [Sy.freshD (n+1),Dat.list [y1,Sy.freshD (n+1)],y3]) a _ _ _ w8 p2 (by rw[hq1];exact HP2.out y3 m1 hq1) jc.lt (.inl jc.own) jc.hx jc.hE (Sp.datum (Sp.dep jb 1 64 (by kernel_rfl))) (Sp.datum (x:=Sy.form Sy.ifB [Sy.freshD (n+1),Dat.list [y1,Sy.freshD (n+1)],y3]) (by have h:=(Sp.dep jb 12 75 (by kernel_rfl));subst hq1;exact h)) (Sp.datum (Sp.dep jb 15 78 (by kernel_rfl)))) fun hp w9 ht9=>?_
    have hrn:=HNp2.out hp
    subst hrn
    exact ⟨hdf,jc.bad' ht9⟩
   | _+2,hj=>simp at hj
  case hend=>
   intro a8 w8 hdf hsz jc ht8 hval ja
   refine fin_s (r:=r) jc (hval 16 _ 79 (by omega) rfl rfl) (fun x8 hx8=>?_) ((ja.at 4 (by kernel_rfl)).trans rfl) hdf rfl results148 fun w9 h9=>?_
   ·clear hval ja hdf hsz jc ht8
    rcases p2 with _ | ⟨y2,n2⟩
    ·simp at hx8
    rcases p1 with _ | ⟨y3,n3⟩
    ·exact absurd (HRF.out.symm.trans (jh.out rfl)) (by simp)
    cases hx8
    exact HRF.out
   ·go_wp2_with fail
theorem zkp {E:Dat->Sy.M Dat} (hE:EOk E) (x:Dat) (t:List Dat) (hsx:Sy.small x=true) (htl:t.length<=100000) (a y:Dat) (c:List Dat) (hcl:Sy.clause x t 1=some (a::y::c,false)) (hcl2:c.length<=99997) (hnm:Sy.isNm y Sy.arrowB=false) (ih:∀(S:Nat->Prop) (b n:Nat) (sl:Value) (w:World) (r:Option (Dat × Nat)),Sy.condF E t n=some r->(∀c,S c->c<w.heap.size)->S b->XP w b n->Env w->RepS (hide w S) w.heap.size t sl->Calls prog 148 #[.pointer (some ⟨b,0,none⟩),sl] w (XRes S b r w)) (S:Nat->Prop) (b n:Nat) (sl:Value) (w:World) (r:Option (Dat × Nat)) (hr:Sy.bnd (E a) (fun y7=>Sy.bnd (Sy.begin E (y::c)) fun z=>Sy.bnd (Sy.condF E t) fun d=>Sy.ret (Sy.form Sy.ifB [y7,z,d])) n=some r) (hS:∀c,S c->c<w.heap.size) (hb:S b) (hx:XP w b n) (hV:Env w) (hv:RepS (hide w S) w.heap.size (x::t) sl) :
  Calls prog 148 #[.pointer (some ⟨b,0,none⟩),sl] w (XRes S b r w):=by
 obtain ⟨o,len,cap,rfl,hln,hcp⟩:=Sp.slice (Sp.ofS hv)
 obtain ⟨W0,hW0,hst⟩:=zaw hS hb hx hV
 have HST:=zh hst
 have HW0:=zh hW0
 have hge:1<=len:=by rw[hln];simp
 have ht0a:((len:Int)==0)=false:=by simp;omega
 have ht0b:¬len=0:=by omega
 have ht9a:decide ((len:Int) > 0)=true:=by simp;omega
 have ht9b:0<len:=by omega
 have ht9c:((0:Int)<len):=by omega
 have HLV:=zh (hst.first (Sp.ofS hv))
 have HR:=zh hr
 have HC:=zh (hst.clause_some x t (.slice o len cap) 1 _ _ hcl (hst.first (Sp.ofS hv)) hsx (by omega) (by omega) (by omega))
 have HCL:=zh hcl2
 clear hcl2
 have HE:=zh hE
 have HSX:=zh hsx
 have HTL:=zh htl
 have IH:=zh ih
 clear hst hW0 hv hS hb hx hV hr hln hcp hge hE hsx htl ih
 go_enter func148,ntmps148
 go_upto_region 1 with fail
 rw[HW0.out]
 go_upto_region 4 with (first | (go_at_call 163;refine HC.out.mono ?_;rintro e' w1 ⟨oc,lenc,capc,rfl,hg1,hl1,hb1⟩;have HG1:=zh hg1;have HL1:=zh hl1;have HB1:=zh hb1;clear hg1 hl1 hb1) | fail)
 have HST1:=zh (HST.out.below HB1.out)
 have HLV1:=zh (Sp.below HLV.out HB1.out)
 have hlc:lenc=c.length+2:=HL1.out
 have hn1a:((lenc:Int)==1)=false:=by simp;omega
 have hn1b:¬lenc=1:=by omega
 have hbk1:1<lenc:=by omega
 have hbk2:(1:Int)<lenc:=by omega
 clear hlc
 obtain ⟨c1,off1,rfl,hel⟩:=Sp.nth (j:=1) HG1.out rfl
 obtain ⟨k3,m3,d3,st3,o3,len3,cap3,hxr,e0,e1,e2,e3,e4,el⟩:=Sp.cells hel
 simp only[Nat.one_mul] at e0 e1 e2 e3 e4
 have HIS:=zh (fun w=>zdr (w:=w) y _ Sy.arrowB hxr)
 rw[hnm] at HIS
 clear hel hxr
 go_upto_region 14 with (first | (go_at_call 74;refine (HIS.out _).mono ?_;rintro e' w2 ⟨rfl,hb2⟩;have HB2:=zh hb2;clear hb2) | fail)
 have jj:=zh (HST1.out.below HB2.out)
 have HLV2:=zh (Sp.below HLV1.out HB2.out)
 have HG2:=zh (Sp.below HG1.out HB2.out)
 clear e0 e1 e2 e3 e4 el
 obtain ⟨p1,hp1,hn1,hk⟩:=Sy.bnd_split HR.out
 have HP1:=zh hp1
 have jh:=zh hn1
 have HK:=zh hk
 clear hp1 hn1 hk
 refine zad (dr:=false) (S:=S) (b:=b) (H:=w.heap.size) 5 [4] (fun j=>[n,cnt p1].getD j 0) [.val (.pointer (some ⟨b,0,none⟩)),.row (some (a::y::c)),.elm (some (a)),.dat (some (a)),.dat (p1.map (·.1))] jj.out (by show zB _ _ 5 97=true;kernel_rfl) (by decide) (by decide) (by kernel_rfl) ?hops ?hcall ?hend
 case hops=>
  intro i o8 hi hip ho a8 w8 hdf jd ht8 jb ja
  match i,hi,hip with
  | 0,_,_=>cases ho;exact zac rfl (Sp.at ja 0 (by kernel_rfl) (rfl) (.inl jj.out.own) ht8)
  | 1,_,_=>cases ho;exact zac rfl (Sp.at ja 5 (by kernel_rfl) (HG2.out) (.inl jj.out.own) ht8)
  | 2,_,_=>cases ho;exact zas (k:=0) rfl (Sp.dep jb 1 81 (by kernel_rfl)) rfl (by decide)
  | 3,_,_=>cases ho;exact zal rfl (Sp.dep jb 2 82 (by kernel_rfl))
  | 4,_,h=>exact absurd (by decide) h
  | i+5,hi,_=>exact absurd hi (by omega)
 case hcall=>
  intro j i o8 hj ho a8 w8 hdf jc ht8 jb jg ja
  match j,hj with
  | 0,hj=>
   cases hj;cases ho
   refine zaN (p:=p1) rfl (Sp.dep jb 0 80 (by kernel_rfl)) (fun _ _=>rfl) (HE.out (S1 S w.heap.size) b _ a _ w8 p1 HP1.out jc.lt (.inl jc.own) jc.hx jc.hE (Sp.datum (Sp.dep jb 3 83 (by kernel_rfl)))) fun hp w9 ht9=>?_
   cases jh.out hp;exact ⟨hdf,jc.bad' ht9⟩
  | _+1,hj=>simp at hj
 case hend=>
  intro a8 w8 hdf hsz jc ht8 hval ja
  obtain ⟨x8,hx8,hr8⟩:∃x8,p1.map (·.1)=some x8∧RepD (hide w8 (S1 S w.heap.size)) w8.heap.size x8 (a8.tmps.getD 84 undef):=hval 4 _ 84 (by omega) rfl rfl
  rcases p1 with _ | ⟨y1,n1⟩
  ·simp at hx8
  have hx9:some (y1)=some x8:=hx8
  obtain rfl:=Option.some.inj hx9
  obtain ⟨f8,ha,hf8⟩:=zaq [false,false,false,false,false,false,false,false,false,false,false,false,false,false,false,false,false,false,false,false,false,false,false,false,false,false,false,false,false,false,false,false,false,false,false,false,false,false,false,false,false,false,false,false,false,false,false,false,false,false,false,false,false,false,false,false,false,false,false,false,false,false,false,false,false,false,false,false,false,false,false,false,false,false,false,false,false,false,false,false,true,true,true,true,true] (by kernel_rfl) hdf hsz ja
  rw[<-hf8] at hr8
  subst ha
  obtain ⟨k8,m8,d8,s8,o8,len8,cap8,h8⟩:=zae hr8.unhide
  rw[h8] at hr8
  obtain ⟨W8,hW8⟩:∃W8,w8.alloc (.cells #[.int .i64 k8,.int .i64 m8,.int .i64 d8,.string s8,.slice o8 len8 cap8] 26)=W8:=⟨_,rfl⟩
  obtain ⟨hst9,hel9,ht9⟩:=(show XS S b w.heap.size n1 w w8 from jc).stored (Turned.refl _ _) jc.hx hr8 hW8
  have HST7:=zh hst9
  have HEL7:=zh hel9
  have HW8:=zh hW8
  have HLV7:=zh (jj.out.keep (HLV2.out) (ht8.next ht9))
  have HG7:=zh (jj.out.keep (HG2.out) (ht8.next ht9))
  clear hval ja hf8 hdf hsz hr8 jc ht8 hx8 hx9 hst9 hel9 ht9 hW8
  simp only[spellH,List.drop_succ_cons,List.drop_zero,h8]
  go_upto_region 15 with fail
  rw[HW8.out]
  clear HW8
  have HR3:=zh (HK.out y1 n1 rfl)
  clear HP1 jh HK
  obtain ⟨p1,hp1,hn1,hk⟩:=Sy.bnd_split HR3.out
  have HP1:=zh hp1
  have jh:=zh hn1
  have HK:=zh hk
  clear hp1 hn1 hk
  refine zad (dr:=false) (S:=S) (b:=b) (H:=w.heap.size) 4 [3] (fun j=>[n1,cnt p1].getD j 0) [.val (.pointer (some ⟨b,0,none⟩)),.row (some (a::y::c)),.row (some (y::c)),.dat (p1.map (·.1))] HST7.out (by show zB _ _ 4 97=true;kernel_rfl) (by decide) (by decide) (by kernel_rfl) ?hops ?hcall ?hend
  case hops=>
   intro i o8 hi hip ho a8 w8 hdf jd ht8 jb ja
   match i,hi,hip with
   | 0,_,_=>cases ho;exact zac rfl (Sp.at ja 0 (by kernel_rfl) (rfl) (.inl HST7.out.own) ht8)
   | 1,_,_=>cases ho;exact zac rfl (Sp.at ja 5 (by kernel_rfl) (HG7.out) (.inl HST7.out.own) ht8)
   | 2,_,_=>cases ho;exact zaD (k:=1) rfl (Sp.dep jb 1 86 (by kernel_rfl)) (by decide) (by simp) (by decide)
   | 3,_,h=>exact absurd (by decide) h
   | i+4,hi,_=>exact absurd hi (by omega)
  case hcall=>
   intro j i o8 hj ho a8 w8 hdf jc ht8 jb jg ja
   match j,hj with
   | 0,hj=>
    cases hj;cases ho
    refine zaN (p:=p1) rfl (Sp.dep jb 0 85 (by kernel_rfl)) (fun _ _=>rfl) (zaU HE.out (S1 S w.heap.size) b _ (y::c) _ w8 p1 HP1.out jc.lt (.inl jc.own) jc.hx jc.hE (Sp.data (Sp.dep jb 2 87 (by kernel_rfl))) (by have:=HCL.out;simp only[qzN];omega)) fun hp w9 ht9=>?_
    cases jh.out hp;exact ⟨hdf,jc.bad' ht9⟩
   | _+1,hj=>simp at hj
  case hend=>
   intro a8 w8 hdf hsz jc ht8 hval ja
   obtain ⟨x8,hx8,hr8⟩:∃x8,p1.map (·.1)=some x8∧RepD (hide w8 (S1 S w.heap.size)) w8.heap.size x8 (a8.tmps.getD 88 undef):=hval 3 _ 88 (by omega) rfl rfl
   rcases p1 with _ | ⟨z1,n2⟩
   ·simp at hx8
   have hx9:some (z1)=some x8:=hx8
   obtain rfl:=Option.some.inj hx9
   obtain ⟨f8,ha,hf8⟩:=zaq [false,false,false,false,false,false,false,false,false,false,false,false,false,false,false,false,false,false,false,false,false,false,false,false,false,false,false,false,false,false,false,false,false,false,false,false,false,false,false,false,false,false,false,false,false,false,false,false,false,false,false,false,false,false,false,false,false,false,false,false,false,false,false,false,false,false,false,false,false,false,false,false,false,false,false,false,false,false,false,false,false,false,false,false,false,true,true,true,true] (by kernel_rfl) hdf hsz ja
   rw[<-hf8] at hr8
   subst ha
   obtain ⟨k8,m8,d8,s8,o8,len8,cap8,h8⟩:=zae hr8.unhide
   rw[h8] at hr8
   obtain ⟨W8,hW8⟩:∃W8,w8.alloc (.cells #[.int .i64 k8,.int .i64 m8,.int .i64 d8,.string s8,.slice o8 len8 cap8] 26)=W8:=⟨_,rfl⟩
   obtain ⟨hst9,hel9,ht9⟩:=(show XS S b w.heap.size n2 w w8 from jc).stored (Turned.refl _ _) jc.hx hr8 hW8
   have HST8:=zh hst9
   have HEL8:=zh hel9
   have HW8:=zh hW8
   have HLV8:=zh (HST7.out.keep (HLV7.out) (ht8.next ht9))
   have HEL9:=zh (HST7.out.keep (HEL7.out) (ht8.next ht9))
   clear hval ja hf8 hdf hsz hr8 jc ht8 hx8 hx9 hst9 hel9 ht9 hW8
   simp only[spellH,List.drop_succ_cons,List.drop_zero,h8]
   go_upto_region 16 with fail
   rw[HW8.out]
   clear HW8
   have HR5:=zh (HK.out z1 n2 rfl)
   clear HP1 jh HK
   obtain ⟨p1,hp1,hn1,hk⟩:=Sy.bnd_split HR5.out
   have HP1:=zh hp1
   have jh:=zh hn1
   have HRF:=zh hk
   clear hp1 hn1 hk
   refine zad (dr:=true) (S:=S) (b:=b) (H:=w.heap.size) 8 [5] (fun j=>[n2,cnt p1].getD j 0) [.dat (some (y1)),.dat (some (z1)),.val (.pointer (some ⟨b,0,none⟩)),.row (some (x::t)),.row (some (t)),.dat (p1.map (·.1)),.row ((some (y1)).bind fun u0_95=>(some (z1)).bind fun u1_95=>(p1.map (·.1)).bind fun u2_95=>some [u0_95,u1_95,u2_95]),.dat (((some (y1)).bind fun u0_95=>(some (z1)).bind fun u1_95=>(p1.map (·.1)).bind fun u2_95=>some [u0_95,u1_95,u2_95]).map (Sy.form ⟨#[105,102]⟩))] HST8.out (by show zB _ _ 8 97=true;kernel_rfl) (by decide) (by decide) (by kernel_rfl) ?hops ?hcall ?hend
   case hops=>
    intro i o8 hi hip ho a8 w8 hdf jd ht8 jb ja
    match i,hi,hip with
    | 0,_,_=>cases ho;exact zal rfl (Sp.at ja 10 (by kernel_rfl) (HEL9.out) (.inl HST8.out.own) ht8)
    | 1,_,_=>cases ho;exact zal rfl (Sp.at ja 11 (by kernel_rfl) (HEL8.out) (.inl HST8.out.own) ht8)
    | 2,_,_=>cases ho;exact zac rfl (Sp.at ja 0 (by kernel_rfl) (rfl) (.inl HST8.out.own) ht8)
    | 3,_,_=>cases ho;exact zac rfl (Sp.at ja 1 (by kernel_rfl) (HLV8.out) (.inl HST8.out.own) ht8)
    | 4,_,_=>cases ho;exact zaD (k:=1) rfl (Sp.dep jb 3 92 (by kernel_rfl)) (by decide) (by simp) (by decide)
    | 5,_,h=>exact absurd (by decide) h
    | 6,_,_=>cases ho;exact zbX rfl (Sp.dep jb 0 89 (by kernel_rfl)) (Sp.dep jb 1 90 (by kernel_rfl)) (Sp.dep jb 5 94 (by kernel_rfl)) jd
    | 7,_,_=>cases ho;exact za9 rfl (Sp.dep jb 6 95 (by kernel_rfl)) (by decide) (rowlen3) jd
    | i+8,hi,_=>exact absurd hi (by omega)
   case hcall=>
    intro j i o8 hj ho a8 w8 hdf jc ht8 jb jg ja
    match j,hj with
    | 0,hj=>
     cases hj;cases ho
     refine zaN (p:=p1) rfl (Sp.dep jb 2 91 (by kernel_rfl)) (fun _ _=>rfl) (IH.out (S1 S w.heap.size) b _ _ w8 p1 HP1.out jc.lt (.inl jc.own) jc.hx jc.hE (Sp.data (Sp.dep jb 4 93 (by kernel_rfl)))) fun hp w9 ht9=>?_
     cases jh.out hp;exact ⟨hdf,jc.bad' ht9⟩
    | _+1,hj=>simp at hj
   case hend=>
    intro a8 w8 hdf hsz jc ht8 hval ja
    refine fin_s (r:=r) jc (hval 7 _ 96 (by omega) rfl rfl) (fun x8 hx8=>?_) ((ja.at 4 (by kernel_rfl)).trans rfl) hdf rfl results148 fun w9 h9=>?_
    ·clear hval ja hdf hsz jc ht8
     rcases p1 with _ | ⟨y3,n3⟩
     ·simp at hx8
     cases hx8
     exact Sy.ret_split (HRF.out _ _ rfl)
    ·go_wp2_with fail
theorem zgi {E:Dat->Sy.M Dat} (hE:EOk E):∀(l:List Dat),(∀y∈l,Sy.small y=true)->l.length<=99999->∀(S:Nat->Prop) (b n:Nat) (sl:Value) (w:World) (r:Option (Dat × Nat)),Sy.condF E l n=some r->(∀c,S c->c<w.heap.size)->S b->XP w b n->Env w->RepS (hide w S) w.heap.size l sl->Calls prog 148 #[.pointer (some ⟨b,0,none⟩),sl] w (XRes S b r w)
 | [],_,_,S,b,n,sl,w,r,hr,hS,hb,hx,hV,hv=>zkb S b n sl w r hr hS hb hx hV hv
 | x::t,hsm,jk,S,b,n,sl,w,r,hr,hS,hb,hx,hV,hv=>by
  have ih:=zgi hE t (fun y hy=>hsm y (List.mem_cons_of_mem _ hy)) (by simp only[qzN] at jk;omega)
  have hsx:=hsm x List.mem_cons_self
  have htl:t.length<=100000:=by simp only[qzN] at jk;omega
  have hcl:∀c last,Sy.clause x t 1=some (c,last)->c.length<=99999∧1<=c.length:=fun c last h=>by
   unfold Sy.clause at h
   split at h
   ·rename_i h1
    split at h
    ·obtain ⟨rfl,_⟩:=Prod.mk.inj (Option.some.inj h)
     have:=zaY x
     have:=(Sy.small_iff.1 hsx).2
     exact ⟨by omega,h1.2⟩
    ·cases h
   ·cases h
  match hc:Sy.clause x t 1 with
  | none=>exact zib x t hsx htl hc S b n sl w r (by rw[Sy.condF,hc] at hr;exact hr) hS hb hx hV hv
  | some (a::c,true)=>exact zij hE x t hsx htl a c hc (by have:=(hcl _ _ hc).1;simp only[qzN] at this;omega) S b n sl w r (by rw[Sy.condF,hc] at hr;exact hr) hS hb hx hV hv
  | some ([],q)=>exfalso;have:=(hcl _ _ hc).2;simp at this
  | some ([a],false)=>exact zkf hE x t hsx htl a hc ih S b n sl w r (by rw[Sy.condF,hc] at hr;exact hr) hS hb hx hV hv
  | some (a::y::c,false)=>
   cases hnm:Sy.isNm y Sy.arrowB with
   | false=>exact zkp hE x t hsx htl a y c hc (by have:=(hcl _ _ hc).1;simp only[qzN] at this;omega) hnm ih S b n sl w r (by rw[Sy.condF,hc] at hr;simp only[hnm,Bool.false_eq_true,if_false] at hr;exact hr) hS hb hx hV hv
   | true=>
    match c,hc with
    | [g],hc=>exact zhn hE x t hsx htl a y g hc hnm ih S b n sl w r (by rw[Sy.condF,hc] at hr;simp only[hnm,if_true] at hr;exact hr) hS hb hx hV hv
    | [],hc=>exact zct x t hsx htl a y [] hc hnm (by simp) S b n sl w r (by rw[Sy.condF,hc] at hr;simp only[hnm,if_true] at hr;exact hr) hS hb hx hV hv
    | _::_::_,hc=>exact zct x t hsx htl a y _ hc hnm (by simp) S b n sl w r (by rw[Sy.condF,hc] at hr;simp only[hnm,if_true] at hr;exact hr) hS hb hx hV hv
end
end Go.Proofs.YtnbjhmafnigefaaGreatDoor
