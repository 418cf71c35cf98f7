/- .. -/
import Derived.RangeFuncNested
import Derived.RangeFuncLeaves
import Derived.Test.YtnbjhmafnigefaaGreatDoorSckA14
open Go.Proofs.Tryz
set_option maxRecDepth 100000
set_option maxHeartbeats 16000000
namespace Go.Proofs.YtnbjhmafnigefaaGreatDoor
section
open Go Go.RowKit
theorem ziZ {E:Dat->Sy.M Dat} {L:Dat->List Dat->Sy.M Dat} (hE:EOk E) (hL:LOk L) (hD:DvOk E):FmOk E L:=by
 intro key l S b n sl w r hr hkz hsm hll hS hb hx hV hv
 unfold Sy.formF at hr
 by_cases h1:key=Sy.quoteB
 ·subst h1
  rw[if_pos rfl] at hr
  match l,hr,hsm,hll,hv with
  | [x],hr,hsm,hll,hv=>exact zhj x S b n sl w r (Sy.ret_split hr) hS hb hx hV hv
  | [],hr,hsm,hll,hv=>obtain rfl:=Sy.bad_split hr;exact zcu [] (by simp) S b n sl w hS hb hx hV hv
  | x::y::t,hr,hsm,hll,hv=>obtain rfl:=Sy.bad_split hr;exact zcu (x::y::t) (by simp) S b n sl w hS hb hx hV hv
 rw[if_neg h1] at hr
 by_cases h2:key=Sy.ifB
 ·subst h2
  rw[if_pos rfl] at hr
  match l,hr,hsm,hll,hv with
  | [x,y],hr,hsm,hll,hv=>exact zkc hE x y S b n sl w r hr hS hb hx hV hv
  | [x,y,z],hr,hsm,hll,hv=>exact zjv hE x y z S b n sl w r hr hS hb hx hV hv
  | [],hr,hsm,hll,hv=>obtain rfl:=Sy.bad_split hr;exact zcF [] (by simp) S b n sl w hS hb hx hV hv
  | [x],hr,hsm,hll,hv=>obtain rfl:=Sy.bad_split hr;exact zcF [x] (by simp) S b n sl w hS hb hx hV hv
  | x::y::z::u::t,hr,hsm,hll,hv=>obtain rfl:=Sy.bad_split hr;exact zcF (x::y::z::u::t) (by simp) S b n sl w hS hb hx hV hv
 rw[if_neg h2] at hr
 by_cases h3:key=Sy.lambdaB
 ·subst h3
  rw[if_pos rfl] at hr
  match l,hr,hsm,hll,hv with
  | f::c::t,hr,hsm,hll,hv=>exact zf4 hL f c t S b n sl w r hr hS hb hx hV hv
  | [],hr,hsm,hll,hv=>obtain rfl:=Sy.bad_split hr;exact zcb [] (by simp) S b n sl w hS hb hx hV hv
  | [x],hr,hsm,hll,hv=>obtain rfl:=Sy.bad_split hr;exact zcb [x] (by simp) S b n sl w hS hb hx hV hv
 rw[if_neg h3] at hr
 by_cases h4:key=Sy.setB
 ·subst h4
  rw[if_pos rfl] at hr
  match l,hr,hsm,hll,hv with
  | [x,y],hr,hsm,hll,hv=>
   obtain ⟨i1,i2⟩:=Sy.need_split hr
   cases hvx:Sy.isVar x with
   | false=>obtain rfl:=i1 hvx;exact zhp x y hvx S b n sl w hS hb hx hV hv
   | true=>exact ziU hE x y hvx S b n sl w r (i2 hvx) hS hb hx hV hv
  | [],hr,hsm,hll,hv=>obtain rfl:=Sy.bad_split hr;exact zca [] (by simp) S b n sl w hS hb hx hV hv
  | [x],hr,hsm,hll,hv=>obtain rfl:=Sy.bad_split hr;exact zca [x] (by simp) S b n sl w hS hb hx hV hv
  | x::y::z::t,hr,hsm,hll,hv=>obtain rfl:=Sy.bad_split hr;exact zca (x::y::z::t) (by simp) S b n sl w hS hb hx hV hv
 rw[if_neg h4] at hr
 by_cases h5:key=Sy.beginB
 ·subst h5
  rw[if_pos rfl] at hr
  exact zg4 hE l (by omega) S b n sl w r hr hS hb hx hV hv
 rw[if_neg h5] at hr
 by_cases h6:key=Sy.letrecB
 ·subst h6
  rw[if_pos (.inl rfl)] at hr
  match l,hr,hsm,hll,hv with
  | x::c::t,hr,hsm,hll,hv=>
   have htl:t.length<=99998:=by simp only[qzN] at hll;omega
   simp only at hr
   match hbi:Sy.binds x with
   | none=>rw[hbi] at hr;obtain rfl:=Sy.bad_split (n:=n) hr;exact ze2 x c t S b n sl w hbi hsm htl hS hb hx hV hv
   | some (ns,vs)=>
    rw[hbi] at hr
    obtain ⟨i1,i2⟩:=Sy.need_split (show Sy.need (Sy.distinct ns) _ n=some r from hr)
    cases hdi:Sy.distinct ns with
    | false=>obtain rfl:=i1 hdi;exact zey x c t ns vs S b n sl w hbi hdi hsm htl hS hb hx hV hv
    | true=>exact zki hE hL x c t ns vs S b n sl w hbi hdi hsm htl r (i2 hdi) hS hb hx hV hv
  | [],hr,hsm,hll,hv=>obtain rfl:=Sy.bad_split hr;exact zdm [] (by simp) S b n sl w hS hb hx hV hv
  | [x],hr,hsm,hll,hv=>obtain rfl:=Sy.bad_split hr;exact zdm [x] (by simp) S b n sl w hS hb hx hV hv
 by_cases h7:key=Sy.letrecSB
 ·subst h7
  rw[if_pos (.inr rfl)] at hr
  match l,hr,hsm,hll,hv with
  | x::c::t,hr,hsm,hll,hv=>
   have htl:t.length<=99998:=by simp only[qzN] at hll;omega
   simp only at hr
   match hbi:Sy.binds x with
   | none=>rw[hbi] at hr;obtain rfl:=Sy.bad_split (n:=n) hr;exact zew x c t S b n sl w hbi hsm htl hS hb hx hV hv
   | some (ns,vs)=>
    rw[hbi] at hr
    obtain ⟨i1,i2⟩:=Sy.need_split (show Sy.need (Sy.distinct ns) _ n=some r from hr)
    cases hdi:Sy.distinct ns with
    | false=>obtain rfl:=i1 hdi;exact zd4 x c t ns vs S b n sl w hbi hdi hsm htl hS hb hx hV hv
    | true=>exact zip hE hL x c t ns vs S b n sl w hbi hdi hsm htl r (i2 hdi) hS hb hx hV hv
  | [],hr,hsm,hll,hv=>obtain rfl:=Sy.bad_split hr;exact zcR [] (by simp) S b n sl w hS hb hx hV hv
  | [x],hr,hsm,hll,hv=>obtain rfl:=Sy.bad_split hr;exact zcR [x] (by simp) S b n sl w hS hb hx hV hv
 rw[if_neg (by simp[h6,h7])] at hr
 by_cases h8:key=Sy.letSB
 ·subst h8
  rw[if_pos rfl] at hr
  match l,hr,hsm,hll,hv with
  | x::c::t,hr,hsm,hll,hv=>exact zgz hE hL x c t S b n sl w (hsm x (by simp)) r hr hS hb hx hV hv
  | [],hr,hsm,hll,hv=>obtain rfl:=Sy.bad_split hr;exact zcx [] (by simp) S b n sl w hS hb hx hV hv
  | [x],hr,hsm,hll,hv=>obtain rfl:=Sy.bad_split hr;exact zcx [x] (by simp) S b n sl w hS hb hx hV hv
 rw[if_neg h8] at hr
 by_cases h9:key=Sy.letB
 ·subst h9
  rw[if_pos rfl] at hr
  match l,hr,hsm,hll,hv with
  | [],hr,hsm,hll,hv=>obtain rfl:=Sy.bad_split hr;exact zds [] (by simp) S b n sl w hS hb hx hV hv
  | [x],hr,hsm,hll,hv=>obtain rfl:=Sy.bad_split hr;exact zds [x] (by simp) S b n sl w hS hb hx hV hv
  | x::c::t,hr,hsm,hll,hv=>
   simp only at hr
   cases hvx:Sy.isVar x with
   | false=>
    rw[hvx] at hr
    simp only[Bool.false_eq_true,if_false] at hr
    exact zji hE hL x c t hvx S b n sl w (hsm x (by simp)) r hr hS hb hx hV hv
   | true=>
    rw[hvx] at hr
    simp only[if_true] at hr
    match t,hr,hsm,hll,hv with
    | [],hr,hsm,hll,hv=>obtain rfl:=Sy.bad_split hr;exact zeo x c hvx S b n sl w hS hb hx hV hv
    | d::t,hr,hsm,hll,hv=>exact zgZ hE hL x c d t hvx S b n sl w (hsm c (by simp)) r hr hS hb hx hV hv
 rw[if_neg h9] at hr
 obtain ⟨T,hT⟩:∃T,key.data.toList=T:=⟨_,rfl⟩
 obtain rfl:key=⟨T.toArray⟩:=by rw[<-hT]
 exact zfp hD T l S b n sl w ⟨h1,h2,h3,h4,h5,h6,h7,h8,h9⟩ hsm hll r hr hS hb hx hV hv
end
section
open Go Go.RowKit
def ChOk (E:Dat->Sy.M Dat):Prop:=∀(v:Dat) (l:List Dat) (S:Nat->Prop) (b n:Nat) (vv sl:Value) (w:World) (r:Option (Dat × Nat)),Sy.choiceF E v l n=some r->(∀y∈l,Sy.small y=true)->l.length<=99999->(∀c,S c->c<w.heap.size)->S b->XP w b n->Env w->RepD (hide w S) w.heap.size v vv->RepS (hide w S) w.heap.size l sl ->
 Calls prog 149 #[.pointer (some ⟨b,0,none⟩),vv,sl] w (XRes S b r w)
def DoOk (E:Dat->Sy.M Dat):Prop:=∀(x t:Dat) (l:List Dat) (S:Nat->Prop) (b n:Nat) (xv tv sl:Value) (w:World) (r:Option (Dat × Nat)),Sy.doF E x t l n=some r->Sy.small x=true->Sy.small t=true->(∀y∈l,Sy.small y=true)->l.length<=99999->(∀c,S c->c<w.heap.size)->S b->XP w b n->Env w->RepD (hide w S) w.heap.size x xv->RepD (hide w S) w.heap.size t tv->RepS (hide w S) w.heap.size l sl ->
 Calls prog 150 #[.pointer (some ⟨b,0,none⟩),xv,tv,sl] w (XRes S b r w)
theorem zgb (l:List Dat) (hl:l.length<2) (S:Nat->Prop) (b n:Nat) (sl:Value) (w:World) (hS:∀c,S c->c<w.heap.size) (hb:S b) (hx:XP w b n) (hV:Env w) (hv:RepS (hide w S) w.heap.size l sl) :
  Calls prog 110 #[.pointer (some ⟨b,0,none⟩),.string ⟨#[119,104,101,110]⟩,sl] w (XRes S b none w):=by
 obtain ⟨o,len,cap,rfl,hln,hcp⟩:=Sp.slice (Sp.ofS hv)
 obtain ⟨W0,hW0,hst⟩:=zaw hS hb hx hV
 have HST:=zh hst
 have HW0:=zh hW0
 have hlq:=hln
 have hg1a:decide ((len:Int) > 1)=false:=by simp;omega
 have hg1b:¬1<len:=by omega
 have hg1c:¬(1:Int)<len:=by omega
 clear hlq
 have HLV:=zh (hst.first (Sp.ofS hv))
 clear hst hW0 hv hS hb hx hV hln hcp
 go_enter func110,ntmps110
 go_upto_region 1 with fail
 rw[HW0.out]
 go_wp2_with (first | (go_at_call 30;refine (zaf _).mono ?_;rintro e' wN ⟨rfl,rfl⟩) | fail)
 exact ⟨rfl,HST.out.bad⟩
theorem ziF {E:Dat->Sy.M Dat} (hE:EOk E) (x y:Dat) (t:List Dat) (htl:(y::t).length<=100000) (S:Nat->Prop) (b n:Nat) (sl:Value) (w:World) (r:Option (Dat × Nat)) (hr:Sy.bnd (E x) (fun a=>Sy.bnd (Sy.begin E (y::t)) fun b=>Sy.ret (Sy.form Sy.ifB [a,b,Sy.void])) n=some r) (hS:∀c,S c->c<w.heap.size) (hb:S b) (hx:XP w b n) (hV:Env w) (hv:RepS (hide w S) w.heap.size (x::y::t) sl) :
  Calls prog 110 #[.pointer (some ⟨b,0,none⟩),.string ⟨#[119,104,101,110]⟩,sl] w (XRes S b r w):=by
 obtain ⟨o,len,cap,rfl,hln,hcp⟩:=Sp.slice (Sp.ofS hv)
 obtain ⟨W0,hW0,hst⟩:=zaw hS hb hx hV
 have HST:=zh hst
 have HW0:=zh hW0
 have hge:2<=len:=by rw[hln];simp
 have hg1a:decide ((len:Int) > 1)=true:=by simp;omega
 have hg1b:1<len:=by omega
 have hg1c:(1:Int)<len:=by omega
 clear hge
 have HLV:=zh (hst.first (Sp.ofS hv))
 have HE:=zh hE
 have HR:=zh hr
 have HTL:=zh htl
 clear hst hW0 hv hS hb hx hV hln hcp hE hr htl
 go_enter func110,ntmps110
 go_upto_region 1 with fail
 rw[HW0.out]
 go_upto_region 17 with (first | (go_at_call 30;refine (zah _).mono ?_;rintro e' wN ⟨⟨vN,rfl⟩,rfl⟩) | fail)
 obtain ⟨p1,hp1,hn1,hk1⟩:=Sy.bnd_split (show Sy.bnd (E x) (fun a=>Sy.bnd (Sy.begin E (y::t)) fun b=>Sy.ret (Sy.form Sy.ifB [a,b,Sy.void])) n=some r from HR.out)
 obtain ⟨p2,hp2,hq2,hn2,hk2⟩:=Sy.bnd_next hn1 hk1
 have HP1:=zh hp1
 have jh:=zh hn1
 have HP2:=zh (show ∀u7 n7,p1=some (u7,n7)->Sy.begin E (y::t) n7=some p2 from hp2)
 have HNp2:=zh hn2
 have HRF:=zh hk2
 clear hp1 hn1 hk1 hp2 hq2 hn2 hk2
 refine zad (dr:=true) (S:=S) (b:=b) (H:=w.heap.size) 12 [4,8] (fun j=>[n,cnt p1,cnt p2].getD j 0) [.val (.pointer (some ⟨b,0,none⟩)),.row (some (x::y::t)),.elm (some (x)),.dat (some (x)),.dat (p1.map (·.1)),.val (.pointer (some ⟨b,0,none⟩)),.row (some (x::y::t)),.row (some (y::t)),.dat (p2.map (·.1)),.dat (some (Sy.void)),.row ((p1.map (·.1)).bind fun u0_84=>(p2.map (·.1)).bind fun u1_84=>(some (Sy.void)).bind fun u2_84=>some [u0_84,u1_84,u2_84]),.dat (((p1.map (·.1)).bind fun u0_84=>(p2.map (·.1)).bind fun u1_84=>(some (Sy.void)).bind fun u2_84=>some [u0_84,u1_84,u2_84]).map (Sy.form ⟨#[105,102]⟩))] HST.out (by show zB _ _ 12 146=true;kernel_rfl) (by decide) (by decide) (by kernel_rfl) ?hops ?hcall ?hend
 case hops=>
  intro i o8 hi hip ho a8 w8 hdf jd ht8 jb ja
  match i,hi,hip with
  | 0,_,_=>cases ho;exact zac rfl (Sp.at ja 0 (by kernel_rfl) (rfl) (.inl HST.out.own) ht8)
  | 1,_,_=>cases ho;exact zac rfl (Sp.at ja 2 (by kernel_rfl) (HLV.out) (.inl HST.out.own) ht8)
  | 2,_,_=>cases ho;exact zas (k:=0) rfl (Sp.dep jb 1 75 (by kernel_rfl)) rfl (by decide)
  | 3,_,_=>cases ho;exact zal rfl (Sp.dep jb 2 76 (by kernel_rfl))
  | 4,_,h=>exact absurd (by decide) h
  | 5,_,_=>cases ho;exact zac rfl (Sp.at ja 0 (by kernel_rfl) (rfl) (.inl HST.out.own) ht8)
  | 6,_,_=>cases ho;exact zac rfl (Sp.at ja 2 (by kernel_rfl) (HLV.out) (.inl HST.out.own) ht8)
  | 7,_,_=>cases ho;exact zaD (k:=1) rfl (Sp.dep jb 6 80 (by kernel_rfl)) (by decide) (by simp) (by decide)
  | 8,_,h=>exact absurd (by decide) h
  | 9,_,_=>cases ho;exact zeb rfl jd
  | 10,_,_=>cases ho;exact zbX rfl (Sp.dep jb 4 78 (by kernel_rfl)) (Sp.dep jb 8 82 (by kernel_rfl)) (Sp.dep jb 9 83 (by kernel_rfl)) jd
  | 11,_,_=>cases ho;exact za9 rfl (Sp.dep jb 10 84 (by kernel_rfl)) (by decide) (rowlen3) jd
  | i+12,hi,_=>exact absurd hi (by omega)
 case hcall=>
  intro j i o8 hj ho a8 w8 hdf jc ht8 jb jg ja
  match j,hj with
  | 0,hj=>
   cases hj;cases ho
   refine zaN (p:=p1) rfl (Sp.dep jb 0 74 (by kernel_rfl)) (fun _ _=>rfl) (HE.out (S1 S w.heap.size) b _ x _ w8 p1 HP1.out jc.lt (.inl jc.own) jc.hx jc.hE (Sp.datum (Sp.dep jb 3 77 (by kernel_rfl)))) fun hp w9 ht9=>?_
   cases jh.out hp;exact ⟨hdf,jc.bad' ht9⟩
  | 1,hj=>
   cases hj;cases ho
   obtain ⟨y1,m1,hq1,hy1⟩:=Sp.got (jg 0 _ _ 78 (by decide) rfl rfl rfl)
   refine zaN (p:=p2) rfl (Sp.dep jb 5 79 (by kernel_rfl)) (fun _ _=>rfl) (zaU HE.out (S1 S w.heap.size) b (cnt p1) (y::t) _ w8 p2 (by rw[hq1];exact HP2.out y1 m1 hq1) jc.lt (.inl jc.own) jc.hx jc.hE (Sp.data (Sp.dep jb 7 81 (by kernel_rfl))) HTL.out) fun hp w9 ht9=>?_
   cases HNp2.out hp;exact ⟨hdf,jc.bad' ht9⟩
  | _+2,hj=>simp at hj
 case hend=>
  intro a8 w8 hdf hsz jc ht8 hval ja
  refine fin_s (r:=r) jc (hval 11 _ 85 (by omega) rfl rfl) (fun x8 hx8=>?_) ((ja.at 6 (by kernel_rfl)).trans rfl) hdf rfl results110 fun w9 h9=>?_
  ·clear hval ja hdf hsz jc ht8
   rcases p2 with _ | ⟨y2,n2⟩
   ·simp at hx8
   rcases p1 with _ | ⟨y1,n1⟩
   ·simp at hx8
   cases hx8
   exact Sy.ret_split (HRF.out _ _ _ _ rfl rfl)
  ·go_wp2_with fail
theorem zd5 (l:List Dat) (hl:l.length<2) (S:Nat->Prop) (b n:Nat) (sl:Value) (w:World) (hS:∀c,S c->c<w.heap.size) (hb:S b) (hx:XP w b n) (hV:Env w) (hv:RepS (hide w S) w.heap.size l sl) :
  Calls prog 110 #[.pointer (some ⟨b,0,none⟩),.string ⟨#[117,110,108,101,115,115]⟩,sl] w (XRes S b none w):=by
 obtain ⟨o,len,cap,rfl,hln,hcp⟩:=Sp.slice (Sp.ofS hv)
 obtain ⟨W0,hW0,hst⟩:=zaw hS hb hx hV
 have HST:=zh hst
 have HW0:=zh hW0
 have hlq:=hln
 have hg1a:decide ((len:Int) > 1)=false:=by simp;omega
 have hg1b:¬1<len:=by omega
 have hg1c:¬(1:Int)<len:=by omega
 clear hlq
 have HLV:=zh (hst.first (Sp.ofS hv))
 clear hst hW0 hv hS hb hx hV hln hcp
 go_enter func110,ntmps110
 go_upto_region 1 with fail
 rw[HW0.out]
 go_wp2_with (first | (go_at_call 30;refine (zaf _).mono ?_;rintro e' wN ⟨rfl,rfl⟩) | fail)
 exact ⟨rfl,HST.out.bad⟩
theorem zgs {E:Dat->Sy.M Dat} (hE:EOk E) (x y:Dat) (t:List Dat) (htl:(y::t).length<=100000) (S:Nat->Prop) (b n:Nat) (sl:Value) (w:World) (r:Option (Dat × Nat)) (hr:Sy.bnd (E x) (fun a=>Sy.bnd (Sy.begin E (y::t)) fun b=>Sy.ret (Sy.form Sy.ifB [a,Sy.void,b])) n=some r) (hS:∀c,S c->c<w.heap.size) (hb:S b) (hx:XP w b n) (hV:Env w) (hv:RepS (hide w S) w.heap.size (x::y::t) sl) :
  Calls prog 110 #[.pointer (some ⟨b,0,none⟩),.string ⟨#[117,110,108,101,115,115]⟩,sl] w (XRes S b r w):=by
 obtain ⟨o,len,cap,rfl,hln,hcp⟩:=Sp.slice (Sp.ofS hv)
 obtain ⟨W0,hW0,hst⟩:=zaw hS hb hx hV
 have HST:=zh hst
 have HW0:=zh hW0
 have hge:2<=len:=by rw[hln];simp
 have hg1a:decide ((len:Int) > 1)=true:=by simp;omega
 have hg1b:1<len:=by omega
 have hg1c:(1:Int)<len:=by omega
 clear hge
 have HLV:=zh (hst.first (Sp.ofS hv))
 have HE:=zh hE
 have HR:=zh hr
 have HTL:=zh htl
 clear hst hW0 hv hS hb hx hV hln hcp hE hr htl
 go_enter func110,ntmps110
 go_upto_region 1 with fail
 rw[HW0.out]
 go_upto_region 20 with (first | (go_at_call 30;refine (zah _).mono ?_;rintro e' wN ⟨⟨vN,rfl⟩,rfl⟩) | fail)
 obtain ⟨p1,hp1,hn1,hk1⟩:=Sy.bnd_split (show Sy.bnd (E x) (fun a=>Sy.bnd (Sy.begin E (y::t)) fun b=>Sy.ret (Sy.form Sy.ifB [a,Sy.void,b])) n=some r from HR.out)
 obtain ⟨p2,hp2,hq2,hn2,hk2⟩:=Sy.bnd_next hn1 hk1
 have HP1:=zh hp1
 have jh:=zh hn1
 have HP2:=zh (show ∀u7 n7,p1=some (u7,n7)->Sy.begin E (y::t) n7=some p2 from hp2)
 have HNp2:=zh hn2
 have HRF:=zh hk2
 clear hp1 hn1 hk1 hp2 hq2 hn2 hk2
 refine zad (dr:=true) (S:=S) (b:=b) (H:=w.heap.size) 12 [4,9] (fun j=>[n,cnt p1,cnt p2].getD j 0) [.val (.pointer (some ⟨b,0,none⟩)),.row (some (x::y::t)),.elm (some (x)),.dat (some (x)),.dat (p1.map (·.1)),.dat (some (Sy.void)),.val (.pointer (some ⟨b,0,none⟩)),.row (some (x::y::t)),.row (some (y::t)),.dat (p2.map (·.1)),.row ((p1.map (·.1)).bind fun u0_102=>(some (Sy.void)).bind fun u1_102=>(p2.map (·.1)).bind fun u2_102=>some [u0_102,u1_102,u2_102]),.dat (((p1.map (·.1)).bind fun u0_102=>(some (Sy.void)).bind fun u1_102=>(p2.map (·.1)).bind fun u2_102=>some [u0_102,u1_102,u2_102]).map (Sy.form ⟨#[105,102]⟩))] HST.out (by show zB _ _ 12 146=true;kernel_rfl) (by decide) (by decide) (by kernel_rfl) ?hops ?hcall ?hend
 case hops=>
  intro i o8 hi hip ho a8 w8 hdf jd ht8 jb ja
  match i,hi,hip with
  | 0,_,_=>cases ho;exact zac rfl (Sp.at ja 0 (by kernel_rfl) (rfl) (.inl HST.out.own) ht8)
  | 1,_,_=>cases ho;exact zac rfl (Sp.at ja 2 (by kernel_rfl) (HLV.out) (.inl HST.out.own) ht8)
  | 2,_,_=>cases ho;exact zas (k:=0) rfl (Sp.dep jb 1 93 (by kernel_rfl)) rfl (by decide)
  | 3,_,_=>cases ho;exact zal rfl (Sp.dep jb 2 94 (by kernel_rfl))
  | 4,_,h=>exact absurd (by decide) h
  | 5,_,_=>cases ho;exact zeb rfl jd
  | 6,_,_=>cases ho;exact zac rfl (Sp.at ja 0 (by kernel_rfl) (rfl) (.inl HST.out.own) ht8)
  | 7,_,_=>cases ho;exact zac rfl (Sp.at ja 2 (by kernel_rfl) (HLV.out) (.inl HST.out.own) ht8)
  | 8,_,_=>cases ho;exact zaD (k:=1) rfl (Sp.dep jb 7 99 (by kernel_rfl)) (by decide) (by simp) (by decide)
  | 9,_,h=>exact absurd (by decide) h
  | 10,_,_=>cases ho;exact zbX rfl (Sp.dep jb 4 96 (by kernel_rfl)) (Sp.dep jb 5 97 (by kernel_rfl)) (Sp.dep jb 9 101 (by kernel_rfl)) jd
  | 11,_,_=>cases ho;exact za9 rfl (Sp.dep jb 10 102 (by kernel_rfl)) (by decide) (rowlen3) jd
  | i+12,hi,_=>exact absurd hi (by omega)
 case hcall=>
  intro j i o8 hj ho a8 w8 hdf jc ht8 jb jg ja
  match j,hj with
  | 0,hj=>
   cases hj;cases ho
   refine zaN (p:=p1) rfl (Sp.dep jb 0 92 (by kernel_rfl)) (fun _ _=>rfl) (HE.out (S1 S w.heap.size) b _ x _ w8 p1 HP1.out jc.lt (.inl jc.own) jc.hx jc.hE (Sp.datum (Sp.dep jb 3 95 (by kernel_rfl)))) fun hp w9 ht9=>?_
   cases jh.out hp;exact ⟨hdf,jc.bad' ht9⟩
  | 1,hj=>
   cases hj;cases ho
   obtain ⟨y1,m1,hq1,hy1⟩:=Sp.got (jg 0 _ _ 96 (by decide) rfl rfl rfl)
   refine zaN (p:=p2) rfl (Sp.dep jb 6 98 (by kernel_rfl)) (fun _ _=>rfl) (zaU HE.out (S1 S w.heap.size) b (cnt p1) (y::t) _ w8 p2 (by rw[hq1];exact HP2.out y1 m1 hq1) jc.lt (.inl jc.own) jc.hx jc.hE (Sp.data (Sp.dep jb 8 100 (by kernel_rfl))) HTL.out) fun hp w9 ht9=>?_
   cases HNp2.out hp;exact ⟨hdf,jc.bad' ht9⟩
  | _+2,hj=>simp at hj
 case hend=>
  intro a8 w8 hdf hsz jc ht8 hval ja
  refine fin_s (r:=r) jc (hval 11 _ 103 (by omega) rfl rfl) (fun x8 hx8=>?_) ((ja.at 6 (by kernel_rfl)).trans rfl) hdf rfl results110 fun w9 h9=>?_
  ·clear hval ja hdf hsz jc ht8
   rcases p2 with _ | ⟨y2,n2⟩
   ·simp at hx8
   rcases p1 with _ | ⟨y1,n1⟩
   ·simp at hx8
   cases hx8
   exact Sy.ret_split (HRF.out _ _ _ _ rfl rfl)
  ·go_wp2_with fail
theorem zjf {E:Dat->Sy.M Dat} (hE:EOk E) (l:List Dat) (S:Nat->Prop) (b n:Nat) (sl:Value) (w:World) (hsm:∀y∈l,Sy.small y=true) (hll:l.length<=99999) (r:Option (Dat × Nat)) (hr:Sy.condF E l n=some r) (hS:∀c,S c->c<w.heap.size) (hb:S b) (hx:XP w b n) (hV:Env w) (hv:RepS (hide w S) w.heap.size l sl) :
  Calls prog 110 #[.pointer (some ⟨b,0,none⟩),.string ⟨#[99,111,110,100]⟩,sl] w (XRes S b r w):=by
 obtain ⟨o,len,cap,rfl,hln,hcp⟩:=Sp.slice (Sp.ofS hv)
 obtain ⟨W0,hW0,hst⟩:=zaw hS hb hx hV
 have HST:=zh hst
 have HW0:=zh hW0
 have HLV:=zh (hst.first (Sp.ofS hv))
 have HE:=zh hE
 have HR:=zh hr
 have HSM:=zh hsm
 have HLL:=zh hll
 clear hst hW0 hv hS hb hx hV hln hcp hE hr hsm hll
 go_enter func110,ntmps110
 go_upto_region 1 with fail
 rw[HW0.out]
 go_upto_region 22 with fail
 obtain ⟨p1,hp1⟩:∃p1,r=p1:=⟨_,rfl⟩
 have HP1:=zh (show Sy.condF E l n=some p1 from by rw[<-hp1];exact HR.out)
 have jh:=zh (show p1=none->r=none from fun h=>by rw[hp1];exact h)
 have HRF:=zh hp1
 clear hp1
 refine zad (dr:=false) (S:=S) (b:=b) (H:=w.heap.size) 3 [2] (fun j=>[n,cnt p1].getD j 0) [.val (.pointer (some ⟨b,0,none⟩)),.row (some (l)),.dat (p1.map (·.1))] HST.out (by show zB _ _ 3 146=true;kernel_rfl) (by decide) (by decide) (by kernel_rfl) ?hops ?hcall ?hend
 case hops=>
  intro i o8 hi hip ho a8 w8 hdf jd ht8 jb ja
  match i,hi,hip with
  | 0,_,_=>cases ho;exact zac rfl (Sp.at ja 0 (by kernel_rfl) (rfl) (.inl HST.out.own) ht8)
  | 1,_,_=>cases ho;exact zac rfl (Sp.at ja 2 (by kernel_rfl) (HLV.out) (.inl HST.out.own) ht8)
  | 2,_,h=>exact absurd (by decide) h
  | i+3,hi,_=>exact absurd hi (by omega)
 case hcall=>
  intro j i o8 hj ho a8 w8 hdf jc ht8 jb jg ja
  match j,hj with
  | 0,hj=>
   cases hj;cases ho
   refine zaN (p:=p1) rfl (Sp.dep jb 0 106 (by kernel_rfl)) (fun _ _=>rfl) (zgi HE.out l HSM.out HLL.out (S1 S w.heap.size) b _ _ w8 p1 HP1.out jc.lt (.inl jc.own) jc.hx jc.hE (Sp.data (Sp.dep jb 1 107 (by kernel_rfl)))) fun hp w9 ht9=>?_
   cases jh.out hp;exact ⟨hdf,jc.bad' ht9⟩
  | _+1,hj=>simp at hj
 case hend=>
  intro a8 w8 hdf hsz jc ht8 hval ja
  refine fin_s (r:=r) jc (hval 2 _ 108 (by omega) rfl rfl) (fun x8 hx8=>?_) ((ja.at 6 (by kernel_rfl)).trans rfl) hdf rfl results110 fun w9 h9=>?_
  ·clear hval ja hdf hsz jc ht8
   rcases p1 with _ | ⟨y1,n1⟩
   ·simp at hx8
   cases hx8
   exact HRF.out
  ·go_wp2_with fail
theorem zjp (l:List Dat) (hl:l.length<1) (S:Nat->Prop) (b n:Nat) (sl:Value) (w:World) (hS:∀c,S c->c<w.heap.size) (hb:S b) (hx:XP w b n) (hV:Env w) (hv:RepS (hide w S) w.heap.size l sl) :
  Calls prog 110 #[.pointer (some ⟨b,0,none⟩),.string ⟨#[99,97,115,101]⟩,sl] w (XRes S b none w):=by
 obtain ⟨o,len,cap,rfl,hln,hcp⟩:=Sp.slice (Sp.ofS hv)
 obtain ⟨W0,hW0,hst⟩:=zaw hS hb hx hV
 have HST:=zh hst
 have HW0:=zh hW0
 have hlq:=hln
 have hg0a:decide ((len:Int) > 0)=false:=by simp;omega
 have hg0b:¬0<len:=by omega
 have hg0c:¬(0:Int)<len:=by omega
 clear hlq
 have HLV:=zh (hst.first (Sp.ofS hv))
 clear hst hW0 hv hS hb hx hV hln hcp
 go_enter func110,ntmps110
 go_upto_region 1 with fail
 rw[HW0.out]
 go_wp2_with (first | (go_at_call 30;refine (zaf _).mono ?_;rintro e' wN ⟨rfl,rfl⟩) | fail)
 exact ⟨rfl,HST.out.bad⟩
theorem ziI {E:Dat->Sy.M Dat} (hE:EOk E) (hC:ChOk E) (x:Dat) (t:List Dat) (htl:t.length<=99999) (hts:∀y∈t,Sy.small y=true) (S:Nat->Prop) (b n:Nat) (sl:Value) (w:World) (r:Option (Dat × Nat)) (hr:Sy.bnd Sy.fresh (fun v=>Sy.bnd (Sy.choiceF E v t) fun d=>Sy.over E v d x) n=some r) (hS:∀c,S c->c<w.heap.size) (hb:S b) (hx:XP w b n) (hV:Env w) (hv:RepS (hide w S) w.heap.size (x::t) sl) :
  Calls prog 110 #[.pointer (some ⟨b,0,none⟩),.string ⟨#[99,97,115,101]⟩,sl] w (XRes S b r w):=by
 obtain ⟨o,len,cap,rfl,hln,hcp⟩:=Sp.slice (Sp.ofS hv)
 obtain ⟨W0,hW0,hst⟩:=zaw hS hb hx hV
 have HST:=zh hst
 have HW0:=zh hW0
 have hge:1<=len:=by rw[hln];simp
 have hg0a:decide ((len:Int) > 0)=true:=by simp;omega
 have hg0b:0<len:=by omega
 have hg0c:(0:Int)<len:=by omega
 clear hge
 have HLV:=zh (hst.first (Sp.ofS hv))
 have HE:=zh hE
 have HR:=zh hr
 have HTL:=zh htl
 have HTS:=zh hts
 have HC:=zh hC
 clear hst hW0 hv hS hb hx hV hln hcp hE hr htl hts hC
 go_enter func110,ntmps110
 go_upto_region 1 with fail
 rw[HW0.out]
 obtain ⟨hfn,hr2⟩:=Sy.fresh_split (show Sy.bnd Sy.fresh (fun v=>Sy.bnd (Sy.choiceF E v t) fun d=>Sy.over E v d x) n=some r from HR.out)
 have HFN:=zh hfn
 have HR2:=zh hr2
 clear hfn hr2
 go_upto_region 25 with (first | (go_at_call 30;refine (zah _).mono ?_;rintro e' wN ⟨⟨vN,rfl⟩,rfl⟩) | fail)
 have HFR:=zh (zbP (S1 S w.heap.size) b n _ HST.out.lt (.inl HST.out.own) HST.out.hx HST.out.hE HFN.out)
 go_upto_region 26 with (first | (go_at_call 147;refine HFR.out.mono ?_;rintro e' w5 ⟨v5,rfl,hr5,ht5,hx5⟩;obtain ⟨k9,m9,d9,s9,o9,len9,cap9,rfl⟩:=zae hr5.unhide) | fail)
 obtain ⟨W6,hW6⟩:∃W6,w5.alloc (.cells #[.int .i64 k9,.int .i64 m9,.int .i64 d9,.string s9,.slice o9 len9 cap9] 26)=W6:=⟨_,rfl⟩
 obtain ⟨hst6,hel6,ht6⟩:=HST.out.stored ht5 hx5 hr5 hW6
 rw[hW6]
 have HST6:=zh hst6
 have HEL6:=zh hel6
 have HLV6:=zh (HST.out.keep HLV.out ht6)
 clear hst6 hel6 ht6 ht5 hx5 hr5 hW6
 obtain ⟨p1,hp1,hn1,hk⟩:=Sy.bnd_split HR2.out
 obtain ⟨p2,hp2⟩:∃p2,r=p2:=⟨_,rfl⟩
 have HP1:=zh hp1
 have jh:=zh hn1
 have HP2:=zh (show ∀u7 n7,p1=some (u7,n7)->Sy.over E (Sy.freshD (n+1)) u7 x n7=some p2 from by rw[<-hp2];exact hk)
 have HNp2:=zh (show p2=none->r=none from fun h=>by rw[hp2];exact h)
 have HRF:=zh hp2
 clear hp1 hn1 hk hp2
 refine zad (dr:=true) (S:=S) (b:=b) (H:=w.heap.size) 11 [6,10] (fun j=>[(n+1),cnt p1,cnt p2].getD j 0) [.val (.pointer (some ⟨b,0,none⟩)),.dat (some (Sy.freshD (n+1))),.val (.pointer (some ⟨b,0,none⟩)),.dat (some (Sy.freshD (n+1))),.row (some (x::t)),.row (some (t)),.dat (p1.map (·.1)),.row (some (x::t)),.elm (some (x)),.dat (some (x)),.dat (p2.map (·.1))] HST6.out (by show zB _ _ 11 146=true;kernel_rfl) (by decide) (by decide) (by kernel_rfl) ?hops ?hcall ?hend
 case hops=>
  intro i o8 hi hip ho a8 w8 hdf jd ht8 jb ja
  match i,hi,hip with
  | 0,_,_=>cases ho;exact zac rfl (Sp.at ja 0 (by kernel_rfl) (rfl) (.inl HST6.out.own) ht8)
  | 1,_,_=>cases ho;exact zal rfl (Sp.at ja 8 (by kernel_rfl) (HEL6.out) (.inl HST6.out.own) ht8)
  | 2,_,_=>cases ho;exact zac rfl (Sp.at ja 0 (by kernel_rfl) (rfl) (.inl HST6.out.own) ht8)
  | 3,_,_=>cases ho;exact zal rfl (Sp.at ja 8 (by kernel_rfl) (HEL6.out) (.inl HST6.out.own) ht8)
  | 4,_,_=>cases ho;exact zac rfl (Sp.at ja 2 (by kernel_rfl) (HLV6.out) (.inl HST6.out.own) ht8)
  | 5,_,_=>cases ho;exact zaD (k:=1) rfl (Sp.dep jb 4 121 (by kernel_rfl)) (by decide) (by simp) (by decide)
  | 6,_,h=>exact absurd (by decide) h
  | 7,_,_=>cases ho;exact zac rfl (Sp.at ja 2 (by kernel_rfl) (HLV6.out) (.inl HST6.out.own) ht8)
  | 8,_,_=>cases ho;exact zas (k:=0) rfl (Sp.dep jb 7 124 (by kernel_rfl)) rfl (by decide)
  | 9,_,_=>cases ho;exact zal rfl (Sp.dep jb 8 125 (by kernel_rfl))
  | 10,_,h=>exact absurd (by decide) h
  | i+11,hi,_=>exact absurd hi (by omega)
 case hcall=>
  intro j i o8 hj ho a8 w8 hdf jc ht8 jb jg ja
  match j,hj with
  | 0,hj=>
   cases hj;cases ho
   have hv0:a8.tmps.getD 119 undef=.pointer (some ⟨b,0,none⟩):=(Sp.dep jb 2 119 (by kernel_rfl))
   refine zaI (p:=p1) (vals:=#[.pointer (some ⟨b,0,none⟩),a8.tmps.getD 120 undef,a8.tmps.getD 122 undef]) rfl (by simp only[List.map_toArray,List.map_cons,List.map_nil];rw[<-hv0];rfl) (fun _ _=>rfl) (HC.out (Sy.freshD (n+1)) t (S1 S w.heap.size) b _ _ _ w8 p1 HP1.out HTS.out HTL.out jc.lt (.inl jc.own) jc.hx jc.hE (Sp.datum (Sp.dep jb 3 120 (by kernel_rfl))) (Sp.data (Sp.dep jb 5 122 (by kernel_rfl)))) fun hp w9 ht9=>?_
   have hrn:=jh.out hp
   subst hrn
   exact ⟨hdf,jc.bad' ht9⟩
  | 1,hj=>
   cases hj;cases ho
   obtain ⟨y1,m1,hq1,hy1⟩:=Sp.got (Sp.dep jb 6 123 (by kernel_rfl))
   have hv0:a8.tmps.getD 117 undef=.pointer (some ⟨b,0,none⟩):=(Sp.dep jb 0 117 (by kernel_rfl))
   refine zaI (p:=p2) (vals:=#[.pointer (some ⟨b,0,none⟩),a8.tmps.getD 118 undef,a8.tmps.getD 123 undef,a8.tmps.getD 126 undef]) rfl (by simp only[List.map_toArray,List.map_cons,List.map_nil];rw[<-hv0];rfl) (fun _ _=>rfl) (zb6 HE.out (S1 S w.heap.size) b (cnt p1) (Sy.freshD (n+1)) y1 x _ _ _ w8 p2 (by rw[hq1];exact HP2.out y1 m1 hq1) jc.lt (.inl jc.own) jc.hx jc.hE (Sp.datum (Sp.dep jb 1 118 (by kernel_rfl))) hy1 (Sp.datum (Sp.dep jb 9 126 (by kernel_rfl)))) fun hp w9 ht9=>?_
   have hrn:=HNp2.out hp
   subst hrn
   exact ⟨hdf,jc.bad' ht9⟩
  | _+2,hj=>simp at hj
 case hend=>
  intro a8 w8 hdf hsz jc ht8 hval ja
  refine fin_s (r:=r) jc (hval 10 _ 127 (by omega) rfl rfl) (fun x8 hx8=>?_) ((ja.at 6 (by kernel_rfl)).trans rfl) hdf rfl results110 fun w9 h9=>?_
  ·clear hval ja hdf hsz jc ht8
   rcases p2 with _ | ⟨y2,n2⟩
   ·simp at hx8
   rcases p1 with _ | ⟨y1,n1⟩
   ·exact absurd (HRF.out.symm.trans (jh.out rfl)) (by simp)
   cases hx8
   exact HRF.out
  ·go_wp2_with fail
theorem zjC (l:List Dat) (hl:l.length<2) (S:Nat->Prop) (b n:Nat) (sl:Value) (w:World) (hS:∀c,S c->c<w.heap.size) (hb:S b) (hx:XP w b n) (hV:Env w) (hv:RepS (hide w S) w.heap.size l sl) :
  Calls prog 110 #[.pointer (some ⟨b,0,none⟩),.string ⟨#[100,111]⟩,sl] w (XRes S b none w):=by
 obtain ⟨o,len,cap,rfl,hln,hcp⟩:=Sp.slice (Sp.ofS hv)
 obtain ⟨W0,hW0,hst⟩:=zaw hS hb hx hV
 have HST:=zh hst
 have HW0:=zh hW0
 have hlq:=hln
 have hg1a:decide ((len:Int) > 1)=false:=by simp;omega
 have hg1b:¬1<len:=by omega
 have hg1c:¬(1:Int)<len:=by omega
 clear hlq
 have HLV:=zh (hst.first (Sp.ofS hv))
 clear hst hW0 hv hS hb hx hV hln hcp
 go_enter func110,ntmps110
 go_upto_region 1 with fail
 rw[HW0.out]
 go_wp2_with (first | (go_at_call 30;refine (zaf _).mono ?_;rintro e' wN ⟨rfl,rfl⟩) | fail)
 exact ⟨rfl,HST.out.bad⟩
theorem zkQ {E:Dat->Sy.M Dat} (hD:DoOk E) (x y:Dat) (t:List Dat) (htl:t.length<=99999) (hts:∀z∈x::y::t,Sy.small z=true) (S:Nat->Prop) (b n:Nat) (sl:Value) (w:World) (r:Option (Dat × Nat)) (hr:Sy.doF E x y t n=some r) (hS:∀c,S c->c<w.heap.size) (hb:S b) (hx:XP w b n) (hV:Env w) (hv:RepS (hide w S) w.heap.size (x::y::t) sl) :
  Calls prog 110 #[.pointer (some ⟨b,0,none⟩),.string ⟨#[100,111]⟩,sl] w (XRes S b r w):=by
 obtain ⟨o,len,cap,rfl,hln,hcp⟩:=Sp.slice (Sp.ofS hv)
 obtain ⟨W0,hW0,hst⟩:=zaw hS hb hx hV
 have HST:=zh hst
 have HW0:=zh hW0
 have hge:2<=len:=by rw[hln];simp
 have hg1a:decide ((len:Int) > 1)=true:=by simp;omega
 have hg1b:1<len:=by omega
 have hg1c:(1:Int)<len:=by omega
 clear hge
 have HLV:=zh (hst.first (Sp.ofS hv))
 have HD:=zh hD
 have HR:=zh hr
 have HTL:=zh htl
 have HTS:=zh hts
 clear hst hW0 hv hS hb hx hV hln hcp hD hr htl hts
 go_enter func110,ntmps110
 go_upto_region 1 with fail
 rw[HW0.out]
 go_upto_region 29 with (first | (go_at_call 30;refine (zah _).mono ?_;rintro e' wN ⟨⟨vN,rfl⟩,rfl⟩) | fail)
 obtain ⟨p1,hp1⟩:∃p1,r=p1:=⟨_,rfl⟩
 have HP1:=zh (show Sy.doF E x y t n=some p1 from by rw[<-hp1];exact HR.out)
 have jh:=zh (show p1=none->r=none from fun h=>by rw[hp1];exact h)
 have HRF:=zh hp1
 clear hp1
 refine zad (dr:=true) (S:=S) (b:=b) (H:=w.heap.size) 10 [9] (fun j=>[n,cnt p1].getD j 0) [.val (.pointer (some ⟨b,0,none⟩)),.row (some (x::y::t)),.elm (some (x)),.dat (some (x)),.row (some (x::y::t)),.elm (some (y)),.dat (some (y)),.row (some (x::y::t)),.row (some (t)),.dat (p1.map (·.1))] HST.out (by show zB _ _ 10 146=true;kernel_rfl) (by decide) (by decide) (by kernel_rfl) ?hops ?hcall ?hend
 case hops=>
  intro i o8 hi hip ho a8 w8 hdf jd ht8 jb ja
  match i,hi,hip with
  | 0,_,_=>cases ho;exact zac rfl (Sp.at ja 0 (by kernel_rfl) (rfl) (.inl HST.out.own) ht8)
  | 1,_,_=>cases ho;exact zac rfl (Sp.at ja 2 (by kernel_rfl) (HLV.out) (.inl HST.out.own) ht8)
  | 2,_,_=>cases ho;exact zas (k:=0) rfl (Sp.dep jb 1 135 (by kernel_rfl)) rfl (by decide)
  | 3,_,_=>cases ho;exact zal rfl (Sp.dep jb 2 136 (by kernel_rfl))
  | 4,_,_=>cases ho;exact zac rfl (Sp.at ja 2 (by kernel_rfl) (HLV.out) (.inl HST.out.own) ht8)
  | 5,_,_=>cases ho;exact zas (k:=1) rfl (Sp.dep jb 4 138 (by kernel_rfl)) rfl (by decide)
  | 6,_,_=>cases ho;exact zal rfl (Sp.dep jb 5 139 (by kernel_rfl))
  | 7,_,_=>cases ho;exact zac rfl (Sp.at ja 2 (by kernel_rfl) (HLV.out) (.inl HST.out.own) ht8)
  | 8,_,_=>cases ho;exact zaD (k:=2) rfl (Sp.dep jb 7 141 (by kernel_rfl)) (by decide) (by simp) (by decide)
  | 9,_,h=>exact absurd (by decide) h
  | i+10,hi,_=>exact absurd hi (by omega)
 case hcall=>
  intro j i o8 hj ho a8 w8 hdf jc ht8 jb jg ja
  match j,hj with
  | 0,hj=>
   cases hj;cases ho
   have hv0:a8.tmps.getD 134 undef=.pointer (some ⟨b,0,none⟩):=(Sp.dep jb 0 134 (by kernel_rfl))
   refine zaI (p:=p1) (vals:=#[.pointer (some ⟨b,0,none⟩),a8.tmps.getD 137 undef,a8.tmps.getD 140 undef,a8.tmps.getD 142 undef]) rfl (by simp only[List.map_toArray,List.map_cons,List.map_nil];rw[<-hv0];rfl) (fun _ _=>rfl) (HD.out x y t (S1 S w.heap.size) b _ _ _ _ w8 p1 HP1.out (HTS.out x (by simp)) (HTS.out y (by simp)) (fun z hz=>HTS.out z (List.mem_cons_of_mem _ (List.mem_cons_of_mem _ hz))) HTL.out jc.lt (.inl jc.own) jc.hx jc.hE (Sp.datum (Sp.dep jb 3 137 (by kernel_rfl))) (Sp.datum (Sp.dep jb 6 140 (by kernel_rfl))) (Sp.data (Sp.dep jb 8 142 (by kernel_rfl)))) fun hp w9 ht9=>?_
   have hrn:=jh.out hp
   subst hrn
   exact ⟨hdf,jc.bad' ht9⟩
  | _+1,hj=>simp at hj
 case hend=>
  intro a8 w8 hdf hsz jc ht8 hval ja
  refine fin_s (r:=r) jc (hval 9 _ 143 (by omega) rfl rfl) (fun x8 hx8=>?_) ((ja.at 6 (by kernel_rfl)).trans rfl) hdf rfl results110 fun w9 h9=>?_
  ·clear hval ja hdf hsz jc ht8
   rcases p1 with _ | ⟨y1,n1⟩
   ·simp at hx8
   cases hx8
   exact HRF.out
  ·go_wp2_with fail
theorem zfw (T:List UInt8) (l:List Dat) (S:Nat->Prop) (b n:Nat) (sl:Value) (w:World) (hk:(⟨T.toArray⟩:ByteArray)≠Sy.andB∧(⟨T.toArray⟩:ByteArray)≠Sy.orB∧(⟨T.toArray⟩:ByteArray)≠Sy.whenB∧(⟨T.toArray⟩:ByteArray)≠Sy.unlessB∧(⟨T.toArray⟩:ByteArray)≠Sy.condB∧(⟨T.toArray⟩:ByteArray)≠Sy.caseB∧(⟨T.toArray⟩:ByteArray)≠Sy.doB) (hS:∀c,S c->c<w.heap.size) (hb:S b) (hx:XP w b n) (hV:Env w) (hv:RepS (hide w S) w.heap.size l sl) :
  Calls prog 110 #[.pointer (some ⟨b,0,none⟩),.string ⟨T.toArray⟩,sl] w (XRes S b none w):=by
 obtain ⟨o,len,cap,rfl,hln,hcp⟩:=Sp.slice (Sp.ofS hv)
 obtain ⟨W0,hW0,hst⟩:=zaw hS hb hx hV
 have HST:=zh hst
 have HW0:=zh hW0
 have hs0:(T==[97,110,100])=false:=beq_eq_false_iff_ne.2 fun h=>hk.1 (by rw[h];rfl)
 have hs1:(T==[111,114])=false:=beq_eq_false_iff_ne.2 fun h=>hk.2.1 (by rw[h];rfl)
 have hs2:(T==[119,104,101,110])=false:=beq_eq_false_iff_ne.2 fun h=>hk.2.2.1 (by rw[h];rfl)
 have hs3:(T==[117,110,108,101,115,115])=false:=beq_eq_false_iff_ne.2 fun h=>hk.2.2.2.1 (by rw[h];rfl)
 have hs4:(T==[99,111,110,100])=false:=beq_eq_false_iff_ne.2 fun h=>hk.2.2.2.2.1 (by rw[h];rfl)
 have hs5:(T==[99,97,115,101])=false:=beq_eq_false_iff_ne.2 fun h=>hk.2.2.2.2.2.1 (by rw[h];rfl)
 have hs6:(T==[100,111])=false:=beq_eq_false_iff_ne.2 fun h=>hk.2.2.2.2.2.2 (by rw[h];rfl)
 clear hk
 have HLV:=zh (hst.first (Sp.ofS hv))
 clear hst hW0 hv hS hb hx hV hln hcp
 go_enter func110,ntmps110
 go_upto_region 1 with fail
 rw[HW0.out]
 go_wp2_with fail
 exact ⟨rfl,HST.out.bad⟩
theorem zfK {E:Dat->Sy.M Dat} (hE:EOk E) (hC:ChOk E) (hD:DoOk E) (key:ByteArray) (l:List Dat) (S:Nat->Prop) (b n:Nat) (sl:Value) (w:World) (r:Option (Dat × Nat)) (hr:Sy.derivedF E key l n=some r) (hsm:∀y∈l,Sy.small y=true) (hll:l.length<=99999) (hS:∀c,S c->c<w.heap.size) (hb:S b) (hx:XP w b n) (hV:Env w) (hv:RepS (hide w S) w.heap.size l sl) :
  Calls prog 110 #[.pointer (some ⟨b,0,none⟩),.string key,sl] w (XRes S b r w):=by
 unfold Sy.derivedF at hr
 by_cases h1:key=Sy.andB
 ·subst h1;rw[if_pos rfl] at hr;exact zhJ hE l S b n sl w r hr hS hb hx hV hv
 rw[if_neg h1] at hr
 by_cases h2:key=Sy.orB
 ·subst h2;rw[if_pos rfl] at hr;exact zjQ hE l S b n sl w r hr hS hb hx hV hv
 rw[if_neg h2] at hr
 by_cases h3:key=Sy.whenB
 ·subst h3
  rw[if_pos rfl] at hr
  match l,hr,hsm,hll,hv with
  | x::y::t,hr,hsm,hll,hv=>exact ziF hE x y t (by simp only[qzN] at *;omega) S b n sl w r hr hS hb hx hV hv
  | [],hr,hsm,hll,hv=>obtain rfl:=Sy.bad_split hr;exact zgb [] (by simp) S b n sl w hS hb hx hV hv
  | [x],hr,hsm,hll,hv=>obtain rfl:=Sy.bad_split hr;exact zgb [x] (by simp) S b n sl w hS hb hx hV hv
 rw[if_neg h3] at hr
 by_cases h4:key=Sy.unlessB
 ·subst h4
  rw[if_pos rfl] at hr
  match l,hr,hsm,hll,hv with
  | x::y::t,hr,hsm,hll,hv=>exact zgs hE x y t (by simp only[qzN] at *;omega) S b n sl w r hr hS hb hx hV hv
  | [],hr,hsm,hll,hv=>obtain rfl:=Sy.bad_split hr;exact zd5 [] (by simp) S b n sl w hS hb hx hV hv
  | [x],hr,hsm,hll,hv=>obtain rfl:=Sy.bad_split hr;exact zd5 [x] (by simp) S b n sl w hS hb hx hV hv
 rw[if_neg h4] at hr
 by_cases h5:key=Sy.condB
 ·subst h5;rw[if_pos rfl] at hr;exact zjf hE l S b n sl w hsm hll r hr hS hb hx hV hv
 rw[if_neg h5] at hr
 by_cases h6:key=Sy.caseB
 ·subst h6
  rw[if_pos rfl] at hr
  match l,hr,hsm,hll,hv with
  | x::t,hr,hsm,hll,hv=>exact ziI hE hC x t (by simp only[qzN] at *;omega) (fun y hy=>hsm y (List.mem_cons_of_mem _ hy)) S b n sl w r hr hS hb hx hV hv
  | [],hr,hsm,hll,hv=>obtain rfl:=Sy.bad_split hr;exact zjp [] (by simp) S b n sl w hS hb hx hV hv
 rw[if_neg h6] at hr
 by_cases h7:key=Sy.doB
 ·subst h7
  rw[if_pos rfl] at hr
  match l,hr,hsm,hll,hv with
  | x::y::t,hr,hsm,hll,hv=>exact zkQ hD x y t (by simp only[qzN] at *;omega) hsm S b n sl w r hr hS hb hx hV hv
  | [],hr,hsm,hll,hv=>obtain rfl:=Sy.bad_split hr;exact zjC [] (by simp) S b n sl w hS hb hx hV hv
  | [x],hr,hsm,hll,hv=>obtain rfl:=Sy.bad_split hr;exact zjC [x] (by simp) S b n sl w hS hb hx hV hv
 rw[if_neg h7] at hr
 obtain rfl:=Sy.bad_split hr
 obtain ⟨T,hT⟩:∃T,key.data.toList=T:=⟨_,rfl⟩
 obtain rfl:key=⟨T.toArray⟩:=by rw[<-hT]
 exact zfw T l S b n sl w ⟨h1,h2,h3,h4,h5,h6,h7⟩ hS hb hx hV hv
end
section
open Go Go.RowKit
theorem zd7 {P:Program} {Q:Exit->Act->World->Prop} {a0:Act} {w:World} {l:List Oper} (n:Nat) (I:Array Bool->Act->World->Prop) (hB:monoB l.toArray n a0.tmps.size=true)
  (h0:I (Array.replicate l.toArray.size false) a0 w.drew)
  (hops:∀i o,i<n->l.toArray[i]?=some o->∀(listed:Array Bool) (a:Act) (w1:World),listed.size=l.toArray.size->a.defers=a0.defers->a.tmps.size=a0.tmps.size->Rest l.toArray n a0 a->I listed a w1->listed.getD i false=false->(∀e∈o.after,Region.binds .any e=true->listed.getD e.on false=true) ->
   o.wp P a w1 (fun a' w'=>∃v,a'=a.put o.dst v∧I (listed.setIfInBounds i true) a' w') Q)
  (hend:∀(listed:Array Bool) (a:Act) (w1:World),(∀i,i<n->listed.getD i false=true)->a.defers=a0.defers->a.tmps.size=a0.tmps.size->Rest l.toArray n a0 a->I listed a w1->wpList P l.toArray Q (l.drop n) a w1) :
  wpAny P .any l.toArray Q l.toArray.size (Array.replicate l.toArray.size false) a0 w.drew:=by
 simp only[monoB,monoG,Bool.and_eq_true,decide_eq_true_eq] at hB
 obtain ⟨⟨h1,h2,h3,h4,h5,h6⟩,h7⟩:=hB
 have inv0:HeadInv .any l.toArray n (Array.replicate l.toArray.size false):=
  ⟨by simp,fun j oj _ hl=>(by rw[getD_replicate_false] at hl;cases hl),fun t _ ht=>getD_in (by simpa using ht) (getD_replicate_false _ _)⟩
 have hcount:((List.range n).filter fun i=>!(Array.replicate l.toArray.size false).getD i true).length=n:=by
  rw[List.filter_eq_self.2]
  ·simp
  ·intro i hi
   have:i<l.toArray.size:=by have:=List.mem_range.1 hi;omega
   have h':i<l.length:=by simpa using this
   simp[h']
 have:=zdS (P:=P) (Q:=Q) (g:=l.toArray.size-n) (I:=fun listed a w=>listed.size=l.toArray.size∧a.defers=a0.defers∧a.tmps.size=a0.tmps.size∧Rest l.toArray n a0 a∧I listed a w) h1 h2 h3 h4 ?_ ?_ n _ a0 w.drew hcount inv0
  ⟨by simp,rfl,rfl,fun _ _=>rfl,h0⟩
 ·rwa[show n+(l.toArray.size-n)=l.toArray.size by omega] at this
 ·rintro listed a w1 i ⟨hls,hdf,hsz,ja,hI⟩ hi hr
  obtain ⟨hun,o,ho,hdeps⟩:=mem_ready.1 hr
  unfold wpOp
  simp only[ho]
  have hg:Region.wanted o (yielded l.toArray a.tmps)=true:=zcg (R:=fun _ _ _=>True) (w:=w1) h7 (fun _ h=>by cases h) hi ho (by rw[hsz];exact qzL) (fun _ _ _ _ _ _ _=>trivial)
  rw[if_pos hg]
  left
  refine Oper.wp_mono ?_ (hops i o hi ho listed a w1 hls hdf hsz ja hI (by
   have hlt:i<listed.size:=by rw[hls];omega
   simpa[hlt] using hun) hdeps)
  rintro a' w' ⟨v,rfl,hI'⟩
  refine ⟨by simpa using hls,?_,?_,?_,hI'⟩
  ·cases o.dst<;>exact hdf
  ·cases hdst:o.dst with
   | none=>exact hsz
   | some d=>simpa[Act.put] using hsz
  ·intro t ht
   cases hdst:o.dst with
   | none=>exact ja t ht
   | some d'=>
    have hd':d' < a.tmps.size:=by
     have g1:=List.all_eq_true.1 (List.all_eq_true.1 h5 i (List.mem_range.2 hi)) i (List.mem_range.2 hi)
     simp only[ho,hdst,Bool.and_eq_true,decide_eq_true_eq] at g1
     rw[hsz];exact g1.1
    rw[zaO hd',if_neg ?_]
    ·exact ja t ht
    ·rintro rfl;exact ht i o hi ho hdst
 ·rintro listed a w1 ⟨hls,hdf,hsz,ja,hI⟩ inv hall
  have hdl:(l.drop n).length=l.toArray.size-n:=by simp
  have g:=wpAny_of_seq (md:=.any) (Q':=Q) (l.drop n) n listed a w1 (fun j=>by simp[List.getElem?_drop]) (by rw[hdl,zbV h4 inv hall];exact h6)
   (hend listed a w1 (fun i hi=>by
    have:=hall i hi
    have hlt:i<listed.size:=by rw[hls];omega
    simpa[hlt] using this) hdf hsz ja hI)
  rwa[hdl] at g
theorem zdu {P:Program} {Q:Exit->Act->World->Prop} {a0:Act} {w:World} {l:List Oper} (n:Nat) (R:Nat->Value->World->Prop) (Ext:World->World->Prop) (hB:monoB l.toArray n a0.tmps.size=true)
  (htr:∀{A B C:World},Ext A B->Ext B C->Ext A C) (h0:Ext w.drew w.drew) (hR:∀i v A B,i<n->R i v A->Ext w.drew A->Ext A B->R i v B)
  (hops:∀i o,i<n->l.toArray[i]?=some o->o.guard=none->∀(a:Act) (w1:World),a.defers=a0.defers->a.tmps.size=a0.tmps.size->Ext w.drew w1->(∀j oj d,j<n->l.toArray[j]?=some oj->(∃e∈o.after,Region.binds .any e=true∧e.on=j)->oj.dst=some d->R j (a.tmps.getD d undef) w1)->Rest l.toArray n a0 a ->
   o.wp P a w1 (fun a' w'=>∃v,a'=a.put o.dst v∧R i v w'∧Ext w1 w') Q)
  (hend:∀a w1,a.defers=a0.defers->a.tmps.size=a0.tmps.size->Ext w.drew w1->(∀i o d,i<n->l.toArray[i]?=some o->o.dst=some d->R i (a.tmps.getD d undef) w1)->Rest l.toArray n a0 a->wpList P l.toArray Q (l.drop n) a w1) :
  wpAny P .any l.toArray Q l.toArray.size (Array.replicate l.toArray.size false) a0 w.drew:=by
 have hB':=hB
 simp only[monoB,monoG,Bool.and_eq_true,decide_eq_true_eq] at hB'
 obtain ⟨⟨_,_,_,hn,hsl,_⟩,hgd⟩:=hB'
 refine zd7 n (fun listed a W=>Ext w.drew W∧∀i o d,i<n->l.toArray[i]?=some o->listed.getD i false=true->o.dst=some d->R i (a.tmps.getD d undef) W) hB ⟨h0,fun i o d _ _ h=>by rw[getD_replicate_false] at h;cases h⟩ ?_ ?_
 ·intro i o hi ho listed a w1 hls hdf hsz ja ⟨hex,hval⟩ hun hdeps
  have hlt:i<listed.size:=by rw[hls];omega
  refine Oper.wp_mono ?_ (hops i o hi ho (zaF hgd hi ho) a w1 hdf hsz hex (fun j oj d hj hoj ⟨e,he,hb,hon⟩ hd=>hval j oj d hj hoj (by have:=hdeps e he hb;rwa[hon] at this) hd) ja)
  rintro a' w' ⟨v,rfl,hv,hx⟩
  refine ⟨v,rfl,htr hex hx,fun j oj d hj hoj hl hd=>?_⟩
  by_cases e:i=j
  ·subst e
   obtain rfl:oj=o:=Option.some.inj (hoj.symm.trans ho)
   have hd':=(zaV hsl hi hi ho ho hd hd).1
   rw[hd,zaO (by rw[hsz];exact hd'),if_pos rfl]
   exact hv
  ·rw[getD_set_ne false e] at hl
   have hold:=hval j oj d hj hoj hl hd
   have hsame:(a.put o.dst v).tmps.getD d undef=a.tmps.getD d undef:=by
    cases hdo:o.dst with
    | none=>rfl
    | some d'=>
     obtain ⟨hd',hne⟩:=zaV hsl hi hj ho hoj hdo hd
     rw[zaO (by rw[hsz];exact hd'),if_neg (hne.resolve_left e)]
   rw[hsame]
   exact hR j _ _ _ hj hold hex hx
 ·intro listed a w1 hall hdf hsz ja ⟨hex,hval⟩
  exact hend a w1 hdf hsz hex (fun i o d hi ho hd=>hval i o d hi ho (hall i hi) hd) ja
def noDefB (ops:Array Oper):Bool:=ops.all fun o=>match o.op with | .defer _=>false | _=>true
theorem noDef {ops:Array Oper} (h:noDefB ops=true):∀o∈ops,∀c,o.op≠.defer c:=fun o ho c hc=>by
 have:=Array.all_eq_true_iff_forall_mem.1 h o ho
 rw[hc] at this
 cases this
theorem zlx {P:Program} {row:String} {args:Array Value} {w:World} {R:Value->World->Prop} {l m:Nat} (h:Rows P row args w R):RowsIn (Fence.wide.inRound l) m P row args w R:=
 fun c cs _=>let ⟨v,w',r,s⟩:=h c cs;⟨v,w',r,stepsIn_wide.2 s⟩
theorem zlm {P:Program} {o:Oper} {a:Act} {w:World} {K:Act->World->Prop} {Q:Exit->Act->World->Prop} {l m:Nat} (hd:∀c,o.op≠.defer c) (h:o.wp P a w K Q):o.wpIn (Fence.wide.inRound l) m P a w K Q:=by
 refine ⟨fun _ _=>trivial,?_⟩
 rw[Oper.semAt_eq _ _ _ hd]
 unfold Oper.wp at h
 generalize (execOp a.eval o).run P w=r at h ⊢
 cases r with
 | ok n w'=>
  cases n with
  | value v=>exact h
  | skip=>exact h
  | defer d=>exact h
  | enter f args=>exact ⟨fun h=>(by cases h),callsIn_wide.2 h⟩
  | row r args=>exact ⟨fun h=>(by cases h),zlx h⟩
  | _=>exact h.elim
 | halt x w'=>cases x<;>first | exact h | exact h.elim
theorem zhA {P:Program} {ops:Array Oper} {Q:Exit->Act->World->Prop} {l m:Nat} (hQ:¬LetsOut Q) (hd:∀o∈ops,∀c,o.op≠.defer c):∀(fuel:Nat) (listed:Array Bool) (a:Act) (w:World),wpAny P .any ops Q fuel listed a w->wpAnyIn (Fence.wide.inRound l) m P .any ops Q fuel listed a w
 | 0,listed,a,w,h=>h
 | fuel+1,listed,a,w,⟨h1,h2⟩=>by
  refine ⟨h1,fun i hi=>?_⟩
  have h:=h2 i hi
  unfold wpOp at h
  unfold wpOpIn
  cases ho:ops[i]? with
  | none=>rw[ho] at h;exact zhA hQ hd fuel _ _ _ h
  | some o=>
   rw[ho] at h
   simp only at h ⊢
   split
   ·rename_i hw
    rw[if_pos hw] at h
    rcases h with h | h
    ·exact zlm (hd o (Array.mem_of_getElem? ho)) (Oper.wp_mono (fun a w h=>zhA hQ hd fuel _ a w h) h)
    ·exact absurd h.2 hQ
   ·rename_i hw
    rw[if_neg hw] at h
    exact ⟨fun _ _=>trivial,zhA hQ hd fuel _ _ _ h⟩
theorem zi3 {P:Program} {ops:Array Oper} {Q:Exit->Act->World->Prop} {l m id:Nat} {a:Act} {w:World} (hm:P.follows .mixedOrders=true) (hQ:¬LetsOut Q) (hd:∀o∈ops,∀c,o.op≠.defer c) (h:wpAny P .any ops Q ops.size (Array.replicate ops.size false) a w.drew):(Code.region id ops true).wpIn (Fence.wide.inRound l) m P Q a w:=
 wpIn_region_draw fun t=>by
  simp only[Region.schedule,hm,Bool.true_or,if_true]
  exact wpAnyIn_sound ops.size t _ a _ (zhA hQ hd _ _ _ _ h)
section
variable {P : Program} {fn : Func} {R : Ending -> World -> Prop} {a : Act} {w : World} {v : Value} {n : Nat}
theorem zfQ {f:FuncId} {c:Code} {args:Array Value} (hf:P.funcs[f]?=some fn) (hb:fn.body=some c) (h:c.wp P (bodyPostM Fence.wide n P fn R) { tmps:=args++Array.replicate (fn.ntmps-args.size) undef,defers:=[] } w):Calls P f args w R:=
 (callsIn_wide (n:=n)).1 (callsIn_of_wp_marks hf hb trivial (wpIn_wide.2 h))
theorem zis {D:Nat} (hD:w.heap[D]?=some (.deferred (some []))) (hr:(results fn a.tmps).run P (w.putObj D (.deferred none))=.ok v (w.putObj D (.deferred none))) (hd:a.defers=[{ target:=.collected D,args:=#[] }]) (hR:R (.returned v) (w.putObj D (.deferred none))):bodyPostM Fence.wide n P fn R .ret a w:=by
 show LeavesInM Fence.wide n P fn a.tmps R a.defers .returning w
 rw[hd]
 exact ⟨by simp,.inl ⟨D,_,rfl,run_takeDeferred hD,v,hr,hR⟩⟩
theorem zdc {D:Nat} {c:List PanicEntry} (hD:w.heap[D]?=some (.deferred (some []))) (hd:a.defers=[{ target:=.collected D,args:=#[] }]) (hR:R (.panicked c) (w.putObj D (.deferred none))):bodyPostM Fence.wide n P fn R (.panic c) a w:=by
 show LeavesInM Fence.wide n P fn a.tmps R a.defers (.panicking c) w
 rw[hd]
 exact ⟨by simp,.inl ⟨D,_,rfl,run_takeDeferred hD,hR⟩⟩
end
theorem Shown.mark {W:World} {S:Nat->Prop} {D:Nat} {o o':Obj} (h:W.heap[D]?=some o) (ho:o.isCells=false):Shown W S (W.putObj D o') S:=fun c off u hc hu=>by
 refine ⟨hc,?_⟩
 have hne:c≠D:=by
  rintro rfl
  unfold World.cell? at hu
  rw[show W.heap[({ block:=c,off:=off,spot:=none }:Addr).block]?=W.heap[c]? from rfl,h] at hu
  cases o with
  | cells=>cases ho
  | _=>cases hu
 unfold World.cell? at hu ⊢
 rw[show (W.putObj D o').heap[({ block:=c,off:=off,spot:=none }:Addr).block]?=W.heap[c]? from World.putObj_heap_other hne]
 exact hu
end
section
open Go Go.RowKit
attribute [local go_sem] Oper.semAt_some
def testUp (v:Dat) (l:List Dat):Dat:=l.foldl (fun t d=>Sy.form Sy.ifB [Dat.list [Sy.sym Sy.eqB,v,Sy.const d],Sy.truth 1,t]) (Sy.truth 0)
theorem zg8 (v x:Dat) (l:List Dat):testUp v (l++[x])=Sy.form Sy.ifB [Dat.list [Sy.sym Sy.eqB,v,Sy.const x],Sy.truth 1,testUp v l]:=by
 unfold testUp
 rw[List.foldl_append]
 rfl
theorem ziL (v:Dat) (l:List Dat):testUp v l.reverse=Sy.test v l:=by
 unfold testUp Sy.test
 rw[List.foldl_reverse]
def ChI (S:Nat->Prop) (G:Nat) (w5:World) (v:Dat) {U:World} {B:Nat} (pre:List (Item U B)) (W:World):Prop:=
 (∃(k n d:Int) (s:ByteArray) (o:Option Addr) (len cap:Nat),Box5 W G 26 (.int .i64 k) (.int .i64 n) (.int .i64 d) (.string s) (.slice o len cap)∧RepD (hide W (S1 S G)) W.heap.size (testUp v (pre.map Item.dat)) (.agg #[.int .i64 k,.int .i64 n,.int .i64 d,.string s,.slice o len cap]))∧Below G w5 W∧G+2<=W.heap.size
theorem zkj (S:Nat->Prop) (G:Nat) (w5:World) (v:Dat) (U:World) (B n0:Nat) (hw:G<=w5.heap.size) (hn:G<=n0):OwnFrom n0 (fun (pre:List (Item U B)) W=>ChI S G w5 v pre W):=by
 refine OwnFrom.and (Own.from ?_ _) (OwnFrom.and (ownFrom_below hw hn) (Own.from (fun _ _ _ _ hs hg _=>Nat.le_trans hs hg.size) _))
 rintro s X Y row ⟨k,n,d,st,o,len,cap,hb,ji⟩ hg hr
 have hb':=zcM G 26 (fun _:Unit=>.int .i64 k) (fun _=>.int .i64 n) (fun _=>.int .i64 d) (fun _=>.string st) (fun _=>.slice o len cap) () X Y row hb hg hr
 exact ⟨k,n,d,st,o,len,cap,hb',ji.shown (fun c o u h1 hc=>⟨h1,zfE hg hr c o u hc⟩) hg.size⟩
theorem zdT {S:Nat->Prop} {b D:Nat} {r:Option (Dat × Nat)} {w W:World} {e:Ending} (h:XRes S b r w e W) (hD:W.heap[D]?=some (.deferred (some []))) (hw:w.heap.size<=D) (hb:b<w.heap.size):XRes S b r w e (W.putObj D (.deferred none)):=by
 have hs:Shown W S (W.putObj D (.deferred none)) S:=Shown.mark hD rfl
 have ht:Turned (fun c=>c=b) w W->Turned (fun c=>c=b) w (W.putObj D (.deferred none)):=fun ht=>⟨ht.os,ht.tape,ht.output,by simpa using ht.size,fun c hc hn=>(World.putObj_heap_other (by omega)).trans (ht.block c hc hn)⟩
 match r,h with
 | none,⟨h1,h2⟩=>exact ⟨h1,ht h2⟩
 | some (x,n),⟨v,h1,h2,h3,h4⟩=>exact ⟨v,h1,h2.shown hs (by simp),ht h3,(World.putObj_heap_other (by omega)).trans h4⟩
theorem zlI {P:Program} {c:Code} {Q:Exit->Act->World->Prop} {a:Act} {w:World} (h:∀a0,a0=a->c.wp P Q a0 w):c.wp P Q a w:=h a rfl
theorem zhq (S:Nat->Prop) (b n:Nat) (v:Dat) (vv sl:Value) (w:World) (r:Option (Dat × Nat)) (hr:Sy.ret Sy.void n=some r) (hS:∀c,S c->c<w.heap.size) (hb:S b) (hx:XP w b n) (hV:Env w) (hvv:RepD (hide w S) w.heap.size v vv) (hv:RepS (hide w S) w.heap.size [] sl) :
  Calls prog 149 #[.pointer (some ⟨b,0,none⟩),vv,sl] w (XRes S b r w):=by
 obtain ⟨o,len,cap,rfl,hln,hcp⟩:=Sp.slice (Sp.ofS hv)
 obtain ⟨k1,m1,d1,s1,o1,len1,cap1,rfl⟩:=zae hvv.unhide
 obtain ⟨W0,hW0,hst,he1⟩:=zbu hS hb hx hV hvv
 have HST:=zh hst
 have HW0:=zh hW0
 have HE1:=zh he1
 obtain rfl:len=0:=by rw[hln];rfl
 have HLV:=zh (hst.first (Sp.ofS hv))
 have HR:=zh hr
 clear hst he1 hW0 hv hvv hS hb hx hV hln hcp hr
 go_enter func149,ntmps149
 go_upto_region 1 with fail
 rw[HW0.out]
 go_upto_region 2 with fail
 refine zad (dr:=false) (S:=S) (b:=b) (H:=(w.heap.size+1)) 1 [] (fun j=>[n].getD j 0) [.dat (some (Sy.void))] HST.out (by show zB _ _ 1 66=true;kernel_rfl) (by decide) (by decide) (by kernel_rfl) ?hops ?hcall ?hend
 case hops=>
  intro i o8 hi hip ho a8 w8 hdf jd ht8 jb ja
  match i,hi,hip with
  | 0,_,_=>cases ho;exact zeb rfl jd
  | i+1,hi,_=>exact absurd hi (by omega)
 case hcall=>
  intro j i o8 hj ho a8 w8 hdf jc ht8 jb jg ja
  simp at hj
 case hend=>
  intro a8 w8 hdf hsz jc ht8 hval ja
  refine fin_s (r:=r) jc (hval 0 _ 18 (by omega) rfl rfl) (fun x8 hx8=>?_) ((ja.at 6 (by kernel_rfl)).trans rfl) hdf rfl results149 fun w9 h9=>?_
  ·clear hval ja hdf hsz jc ht8
   cases hx8
   exact Sy.ret_split HR.out
  ·go_wp2_with fail
theorem zgf (x:Dat) (t:List Dat) (hsx:Sy.small x=true) (htl:t.length<=100000) (hcl:Sy.clause x t 2=none) (S:Nat->Prop) (b n:Nat) (v:Dat) (vv sl:Value) (w:World) (hS:∀c,S c->c<w.heap.size) (hb:S b) (hx:XP w b n) (hV:Env w) (hvv:RepD (hide w S) w.heap.size v vv) (hv:RepS (hide w S) w.heap.size (x::t) sl) :
  Calls prog 149 #[.pointer (some ⟨b,0,none⟩),vv,sl] w (XRes S b none w):=by
 obtain ⟨o,len,cap,rfl,hln,hcp⟩:=Sp.slice (Sp.ofS hv)
 obtain ⟨k1,m1,d1,s1,o1,len1,cap1,rfl⟩:=zae hvv.unhide
 obtain ⟨W0,hW0,hst,he1⟩:=zbu hS hb hx hV hvv
 have HST:=zh hst
 have HW0:=zh hW0
 have HE1:=zh he1
 have hge:1<=len:=by rw[hln];simp
 have ht0a:((len:Int)==0)=false:=by simp;omega
 have ht0b:¬len=0:=by omega
 have ht9a:decide ((len:Int) > 0)=true:=by simp;omega
 have ht9b:0<len:=by omega
 have ht9c:((0:Int)<len):=by omega
 have HLV:=zh (hst.first (Sp.ofS hv))
 have HC:=zh (hst.clause_none x t (.slice o len cap) 2 hcl (hst.first (Sp.ofS hv)) hsx (by omega) (by omega) (by omega))
 have HSX:=zh hsx
 have HTL:=zh htl
 clear hst he1 hW0 hv hvv hS hb hx hV hln hcp hge hsx htl
 go_enter func149,ntmps149
 go_upto_region 1 with fail
 rw[HW0.out]
 go_wp2_with (first | (go_at_call 163;refine HC.out.mono ?_;rintro e' w1 ⟨rfl,hb1⟩) | fail)
 exact ⟨rfl,HST.out.bad' (Turned.of_below hb1)⟩
theorem zfD {E:Dat->Sy.M Dat} (hE:EOk E) (x:Dat) (t:List Dat) (hsx:Sy.small x=true) (htl:t.length<=100000) (a:Dat) (c:List Dat) (hcl:Sy.clause x t 2=some (a::c,true)) (hcl2:c.length<=100000) (S:Nat->Prop) (b n:Nat) (v:Dat) (vv sl:Value) (w:World) (r:Option (Dat × Nat)) (hr:Sy.begin E c n=some r) (hS:∀c,S c->c<w.heap.size) (hb:S b) (hx:XP w b n) (hV:Env w) (hvv:RepD (hide w S) w.heap.size v vv) (hv:RepS (hide w S) w.heap.size (x::t) sl) :
  Calls prog 149 #[.pointer (some ⟨b,0,none⟩),vv,sl] w (XRes S b r w):=by
 obtain ⟨o,len,cap,rfl,hln,hcp⟩:=Sp.slice (Sp.ofS hv)
 obtain ⟨k1,m1,d1,s1,o1,len1,cap1,rfl⟩:=zae hvv.unhide
 obtain ⟨W0,hW0,hst,he1⟩:=zbu hS hb hx hV hvv
 have HST:=zh hst
 have HW0:=zh hW0
 have HE1:=zh he1
 have hge:1<=len:=by rw[hln];simp
 have ht0a:((len:Int)==0)=false:=by simp;omega
 have ht0b:¬len=0:=by omega
 have ht9a:decide ((len:Int) > 0)=true:=by simp;omega
 have ht9b:0<len:=by omega
 have ht9c:((0:Int)<len):=by omega
 have HLV:=zh (hst.first (Sp.ofS hv))
 have HC:=zh (hst.clause_some x t (.slice o len cap) 2 _ _ hcl (hst.first (Sp.ofS hv)) hsx (by omega) (by omega) (by omega))
 have HCL:=zh hcl2
 clear hcl2
 have HE:=zh hE
 have HSX:=zh hsx
 have HTL:=zh htl
 have HR:=zh hr
 clear hst he1 hW0 hv hvv hS hb hx hV hln hcp hge hE hsx htl hr
 go_enter func149,ntmps149
 go_upto_region 1 with fail
 rw[HW0.out]
 go_upto_region 5 with (first | (go_at_call 163;refine HC.out.mono ?_;rintro e' w1 ⟨oc,lenc,capc,rfl,hg1,hl1,hb1⟩;have HG1:=zh hg1;have HL1:=zh hl1;have HB1:=zh hb1;clear hg1 hl1 hb1) | fail)
 have HST1:=zh (HST.out.below HB1.out)
 have HLV1:=zh (Sp.below HLV.out HB1.out)
 obtain ⟨p1,hp1⟩:∃p1,r=p1:=⟨_,rfl⟩
 have HP1:=zh (show Sy.begin E c n=some p1 from by rw[<-hp1];exact HR.out)
 have jh:=zh (show p1=none->r=none from fun h=>by rw[hp1];exact h)
 have HRF:=zh hp1
 clear hp1
 refine zad (dr:=false) (S:=S) (b:=b) (H:=(w.heap.size+1)) 4 [3] (fun j=>[n,cnt p1].getD j 0) [.val (.pointer (some ⟨b,0,none⟩)),.row (some (a::c)),.row (some (c)),.dat (p1.map (·.1))] HST1.out (by show zB _ _ 4 66=true;kernel_rfl) (by decide) (by decide) (by kernel_rfl) ?hops ?hcall ?hend
 case hops=>
  intro i o8 hi hip ho a8 w8 hdf jd ht8 jb ja
  match i,hi,hip with
  | 0,_,_=>cases ho;exact zac rfl (Sp.at ja 0 (by kernel_rfl) (rfl) (.inl HST1.out.own) ht8)
  | 1,_,_=>cases ho;exact zac rfl (Sp.at ja 7 (by kernel_rfl) (HG1.out) (.inl HST1.out.own) ht8)
  | 2,_,_=>cases ho;exact zaD (k:=1) rfl (Sp.dep jb 1 26 (by kernel_rfl)) (by decide) (by simp) (by decide)
  | 3,_,h=>exact absurd (by decide) h
  | i+4,hi,_=>exact absurd hi (by omega)
 case hcall=>
  intro j i o8 hj ho a8 w8 hdf jc ht8 jb jg ja
  match j,hj with
  | 0,hj=>
   cases hj;cases ho
   refine zaN (p:=p1) rfl (Sp.dep jb 0 25 (by kernel_rfl)) (fun _ _=>rfl) (zaU HE.out (S1 S (w.heap.size+1)) b _ c _ w8 p1 HP1.out jc.lt (.inl jc.own) jc.hx jc.hE (Sp.data (Sp.dep jb 2 27 (by kernel_rfl))) HCL.out) fun hp w9 ht9=>?_
   cases jh.out hp;exact ⟨hdf,jc.bad' ht9⟩
  | _+1,hj=>simp at hj
 case hend=>
  intro a8 w8 hdf hsz jc ht8 hval ja
  refine fin_s (r:=r) jc (hval 3 _ 28 (by omega) rfl rfl) (fun x8 hx8=>?_) ((ja.at 6 (by kernel_rfl)).trans rfl) hdf rfl results149 fun w9 h9=>?_
  ·clear hval ja hdf hsz jc ht8
   rcases p1 with _ | ⟨y1,n1⟩
   ·simp at hx8
   cases hx8
   exact HRF.out
  ·go_wp2_with fail
theorem zg6 (x:Dat) (t:List Dat) (hsx:Sy.small x=true) (htl:t.length<=100000) (a:Dat) (c:List Dat) (hcl:Sy.clause x t 2=some (a::c,false)) (hsa:Sy.small a=true) (hq:((Sy.split a).2.kind==4)=false) (S:Nat->Prop) (b n:Nat) (v:Dat) (vv sl:Value) (w:World) (hS:∀c,S c->c<w.heap.size) (hb:S b) (hx:XP w b n) (hV:Env w) (hvv:RepD (hide w S) w.heap.size v vv) (hv:RepS (hide w S) w.heap.size (x::t) sl) :
  Calls prog 149 #[.pointer (some ⟨b,0,none⟩),vv,sl] w (XRes S b none w):=by
 obtain ⟨o,len,cap,rfl,hln,hcp⟩:=Sp.slice (Sp.ofS hv)
 obtain ⟨k1,m1,d1,s1,o1,len1,cap1,rfl⟩:=zae hvv.unhide
 obtain ⟨W0,hW0,hst,he1⟩:=zbu hS hb hx hV hvv
 have HST:=zh hst
 have HW0:=zh hW0
 have HE1:=zh he1
 have hge:1<=len:=by rw[hln];simp
 have ht0a:((len:Int)==0)=false:=by simp;omega
 have ht0b:¬len=0:=by omega
 have ht9a:decide ((len:Int) > 0)=true:=by simp;omega
 have ht9b:0<len:=by omega
 have ht9c:((0:Int)<len):=by omega
 have HLV:=zh (hst.first (Sp.ofS hv))
 have HC:=zh (hst.clause_some x t (.slice o len cap) 2 _ _ hcl (hst.first (Sp.ofS hv)) hsx (by omega) (by omega) (by omega))
 have HSX:=zh hsx
 have HTL:=zh htl
 have HSA:=zh hsa
 clear hst he1 hW0 hv hvv hS hb hx hV hln hcp hge hsx htl hsa
 go_enter func149,ntmps149
 go_upto_region 1 with fail
 rw[HW0.out]
 go_upto_region 6 with (first | (go_at_call 163;refine HC.out.mono ?_;rintro e' w1 ⟨oc,lenc,capc,rfl,hg1,hl1,hb1⟩;have HG1:=zh hg1;have HL1:=zh hl1;have HB1:=zh hb1;clear hg1 hl1 hb1) | fail)
 have HST1:=zh (HST.out.below HB1.out)
 have HLV1:=zh (Sp.below HLV.out HB1.out)
 obtain ⟨c1,off1,rfl,hel⟩:=Sp.nth (j:=0) HG1.out rfl
 obtain ⟨k3,m3,d3,st3,o3,len3,cap3,hxr,e0,e1,e2,e3,e4,el⟩:=Sp.cells hel
 simp only[Nat.zero_mul,Nat.add_zero] at e0 e1 e2 e3 e4
 have HIT:=zh (HST1.out.items a _ _ hq hxr (Sy.small_iff.1 HSA.out).1 (Sy.small_iff.1 HSA.out).2)
 clear hel hxr
 have ht0:0<lenc:=by rw[HL1.out];simp
 have ht1:(0:Int)<lenc:=by omega
 go_wp2_with (first | (go_at_call 73;refine HIT.out.mono ?_;rintro e' w2 ⟨od,lend,capd,rfl,hg2,hl2,hb2⟩;have HG2:=zh hg2;have HL2:=zh hl2;have HB2:=zh hb2;clear hg2 hl2 hb2) | (go_at_call 30;refine (zaf _).mono ?_;rintro e' wN ⟨rfl,rfl⟩) | fail)
 exact ⟨rfl,HST1.out.bad' (Turned.of_below HB2.out)⟩
theorem zfS {E:Dat->Sy.M Dat} (hE:EOk E) (x:Dat) (t:List Dat) (hsx:Sy.small x=true) (htl:t.length<=100000) (a:Dat) (c:List Dat) (hcl:Sy.clause x t 2=some (a::c,false)) (hsa:Sy.small a=true) (hcl2:c.length<=100000) (hq:((Sy.split a).2.kind==4)=true) (S:Nat->Prop) (b n:Nat) (v:Dat) (vv sl:Value) (w:World) (r:Option (Dat × Nat)) (hr:Sy.bnd (Sy.begin E c) (fun y=>Sy.bnd (Sy.choiceF E v t) fun d=>Sy.ret (Sy.form Sy.ifB [Sy.test v (Sy.split a).1,y,d])) n=some r) (ih:∀(S:Nat->Prop) (b n:Nat) (vv sl:Value) (w:World) (r:Option (Dat × Nat)),Sy.choiceF E v t n=some r->(∀c,S c->c<w.heap.size)->S b->XP w b n->Env w->RepD (hide w S) w.heap.size v vv->RepS (hide w S) w.heap.size t sl->Calls prog 149 #[.pointer (some ⟨b,0,none⟩),vv,sl] w (XRes S b r w)) (hS:∀c,S c->c<w.heap.size) (hb:S b) (hx:XP w b n) (hV:Env w) (hvv:RepD (hide w S) w.heap.size v vv) (hv:RepS (hide w S) w.heap.size (x::t) sl) :
  Calls prog 149 #[.pointer (some ⟨b,0,none⟩),vv,sl] w (XRes S b r w):=by
 obtain ⟨o,len,cap,rfl,hln,hcp⟩:=Sp.slice (Sp.ofS hv)
 obtain ⟨k1,m1,d1,s1,o1,len1,cap1,rfl⟩:=zae hvv.unhide
 obtain ⟨W0,hW0,hst,he1⟩:=zbu hS hb hx hV hvv
 have HST:=zh hst
 have HW0:=zh hW0
 have HE1:=zh he1
 have hge:1<=len:=by rw[hln];simp
 have ht0a:((len:Int)==0)=false:=by simp;omega
 have ht0b:¬len=0:=by omega
 have ht9a:decide ((len:Int) > 0)=true:=by simp;omega
 have ht9b:0<len:=by omega
 have ht9c:((0:Int)<len):=by omega
 have HLV:=zh (hst.first (Sp.ofS hv))
 have HC:=zh (hst.clause_some x t (.slice o len cap) 2 _ _ hcl (hst.first (Sp.ofS hv)) hsx (by omega) (by omega) (by omega))
 have HCL:=zh hcl2
 clear hcl2
 have HBW:=zh (hS b hb)
 have HE:=zh hE
 have HSX:=zh hsx
 have HTL:=zh htl
 have HR:=zh hr
 have HSA:=zh hsa
 have IH:=zh ih
 clear hst he1 hW0 hv hvv hS hb hx hV hln hcp hge hE hsx htl hr hsa ih
 refine zfQ (n:=6) func149 rfl ?_
 simp only[ntmps149,List.size_toArray,qzN,qzO,Nat.reduceAdd,Nat.reduceSub,Array.replicate_succ,Array.replicate_zero,List.push_toArray,List.append_toArray,List.nil_append,List.cons_append]
 go_upto_region 1 with fail
 rw[HW0.out]
 go_upto_region 6 with (first | (go_at_call 163;refine HC.out.mono ?_;rintro e' w1 ⟨oc,lenc,capc,rfl,hg1,hl1,hb1⟩;have HG1:=zh hg1;have HL1:=zh hl1;have HB1:=zh hb1;clear hg1 hl1 hb1) | fail)
 have HST1:=zh (HST.out.below HB1.out)
 have HLV1:=zh (Sp.below HLV.out HB1.out)
 obtain ⟨c1,off1,rfl,hel⟩:=Sp.nth (j:=0) HG1.out rfl
 obtain ⟨k3,m3,d3,st3,o3,len3,cap3,hxr,e0,e1,e2,e3,e4,el⟩:=Sp.cells hel
 simp only[Nat.zero_mul,Nat.add_zero] at e0 e1 e2 e3 e4
 have HIT:=zh (HST1.out.items a _ _ hq hxr (Sy.small_iff.1 HSA.out).1 (Sy.small_iff.1 HSA.out).2)
 clear hel hxr
 have ht0:0<lenc:=by rw[HL1.out];simp
 have ht1:(0:Int)<lenc:=by omega
 go_upto_region 8 with (first | (go_at_call 73;refine HIT.out.mono ?_;rintro e' w2 ⟨od,lend,capd,rfl,hg2,hl2,hb2⟩;have HG2:=zh hg2;have HL2:=zh hl2;have HB2:=zh hb2;clear hg2 hl2 hb2) | (go_at_call 30;refine (zah _).mono ?_;rintro e' wN ⟨⟨vN,rfl⟩,rfl⟩) | fail)
 have jj:=zh (HST1.out.below HB2.out)
 have HLV2:=zh (Sp.below HLV1.out HB2.out)
 have HCR2:=zh (Sp.below HG1.out HB2.out)
 have HE2:=zh (Sp.below (Sp.below HE1.out HB1.out) HB2.out)
 have HLT2:=zh jj.out.lt
 clear e0 e1 e2 e3 e4 el
 go_upto_region 9 with (first | (go_at_call 146;refine (zeN (S1 S (w.heap.size+1)) 0 (by omega) _ HLT2.out).mono ?_;rintro e' w5 ⟨v5,rfl,hr5,hb5⟩;obtain ⟨k9,m9,d9,s9,o9,len9,cap9,rfl⟩:=zae hr5.unhide) | fail)
 obtain ⟨W6,hW6⟩:∃W6,w5.alloc (.cells #[.int .i64 k9,.int .i64 m9,.int .i64 d9,.string s9,.slice o9 len9 cap9] 26)=W6:=⟨_,rfl⟩
 rw[hW6]
 have je:Below w5.heap.size w5 W6:=by rw[<-hW6];exact Below.one _ _
 have hz6:W6.heap.size=w5.heap.size+1:=by rw[<-hW6];simp
 have hbx6:Box5 W6 w5.heap.size 26 (.int .i64 k9) (.int .i64 m9) (.int .i64 d9) (.string s9) (.slice o9 len9 cap9):=by rw[<-hW6];exact Box5.new _ _ _ _ _ _ _
 have hr6:RepD (hide W6 (S1 (S1 S (w.heap.size+1)) w5.heap.size)) W6.heap.size (Sy.truth 0) (.agg #[.int .i64 k9,.int .i64 m9,.int .i64 d9,.string s9,.slice o9 len9 cap9]):=hr5.shown (za5 rfl je) je.size
 have HST5:=zh (jj.out.below hb5)
 have HG5:=zh (Sp.below HG2.out hb5)
 have HE5:=zh (Sp.below HE2.out hb5)
 have HCR5:=zh (Sp.below HCR2.out hb5)
 have HLV5:=zh (Sp.below HLV2.out hb5)
 have HO6:=zh je
 have HZ6:=zh hz6
 have HB6:=zh hbx6
 have HR6:=zh hr6
 clear je hz6 hbx6 hr6 hW6 hr5 hb5
 go_wp2_with (first | (go_at_call 111;refine ((callsIn_wide (n:=6)).1 (zj9 Fence.wide 6 trivial rfl _ _ _ _)).mono ?_;rintro e' w7 ⟨rfl,rfl⟩) | fail)
 have HBX7:=zh (Boxed.new W6 22 (.slice od lend capd))
 obtain ⟨W7,hW7⟩:∃W7,W6.alloc (.cells #[.slice od lend capd] 22)=W7:=⟨_,rfl⟩
 rw[hW7]
 have hz7:W7.heap.size=w5.heap.size+2:=by rw[<-hW7,World.size_alloc,HZ6.out]
 have hb67:Below W6.heap.size W6 W7:=by rw[<-hW7];exact Below.one _ _
 have hbx7:Boxed W7 W6.heap.size 22 (.slice od lend capd):=by rw[<-hW7];exact HBX7.out
 have hb57:Below w5.heap.size w5 W7:=HO6.out.trans (hb67.mono HO6.out.size)
 have hI0:ChI (S1 S (w.heap.size+1)) w5.heap.size w5 v ([]:List (Item (hide w5 (S1 S (w.heap.size+1))) w5.heap.size)) W7:=⟨⟨k9,m9,d9,s9,o9,len9,cap9,(hb67.block _ HB6.out.lt).trans HB6.out,HR6.out.shown (Shown.below hb67) hb67.size⟩,hb57,by omega⟩
 have HI0:=zh hI0
 have HZ7:=zh hz7
 have HB57:=zh hb57
 have HBS:=zh hbx7
 have HZ67:=zh (show W6.heap.size=w5.heap.size+1 from HZ6.out)
 clear hI0 hz7 hb57 hbx7 hb67 hW7 HBX7
 refine zlI fun a0 ha0=>?_
 refine (wpIn_wide (n:=6)).1 ?_
 refine wpIn_rangeFunc_ownH (α:=Item (hide w5 (S1 S (w.heap.size+1))) w5.heap.size) (encs:=fun x=>#[.int .i64 x.1.1,x.1.2.2]) (Kp:=fun W W9=>Below w5.heap.size W W9∧W9.heap[W6.heap.size]?=W.heap[W6.heap.size]?) (S:=fun ys=>ys.map Item.dat=(Sy.split a).1.reverse) (Sp:=fun _=>True) (N:=lend) (w0:=W7) rfl (by decide) (gf:=151) (lb:=#[.pointer (some ⟨W6.heap.size,0,none⟩)]) (by rw[ha0];rfl) trivial (enters_of func151 (by kernel_rfl) rfl) ?seq (fun h k=>⟨h.1.trans k.1,k.2.trans h.2⟩) ?kb qzB (fun _=>rfl) (fun pre W=>ChI (S1 S (w.heap.size+1)) w5.heap.size w5 v pre W) (fun _ _ _=>False) (zkj (S1 S (w.heap.size+1)) w5.heap.size w5 v _ _ _ qzL (by have:=HZ7.out;omega)) (fun _ _ _ _ _ hs _ _=>hs) HI0.out (fun x a9 W=>∃Bx c0 c1 c2 c3 c4,w5.heap.size+1<Bx∧x.1.2.2=.agg #[c0,c1,c2,c3,c4]∧Box5 W Bx 26 c0 c1 c2 c3 c4∧a9 = { tmps:=((a0.tmps.setIfInBounds 41 (.int .i64 x.1.1)).setIfInBounds 42 (.agg #[c0,c1,c2,c3,c4])).setIfInBounds 13 (.pointer (some ⟨Bx,0,none⟩)),defers:=[] }) ?ax ?assign ?body ?done ?stop
 case seq=>
  rintro ll J Jx W hW _ _ hY h0
  obtain ⟨oq,lenq,capq,heq,hlq,hcq,hmq,hvq⟩:=Sp.data HG5.out
  simp only[Value.slice.injEq] at heq
  obtain ⟨rfl,rfl,rfl⟩:=heq
  exact zhD Fence.wide 5 trivial rfl (by decide) ll W6.heap.size w5.heap.size w5.heap.size w5 (hide w5 (S1 S (w.heap.size+1))) (fun _ _ _ h=>(zaa h).2) (Sy.split a).1 od lend capd hlq hcq hmq hvq qzL J Jx hY W (HB57.out.trans (hW.mono HB57.out.size)) ((hW.block _ (by have:=HZ7.out;have:=HZ67.out;omega)).trans HBS.out) h0
 case kb=>
  intro W k ob ob9 hle hk hc hw
  exact ⟨belowK_b (w:=w5) qzL W k ob ob9 (by have:=HB57.out.size;omega) hk hc hw,World.putObj_heap_other (by have:=HZ7.out;have:=HZ67.out;omega)⟩
 case ax=>
  rintro x9 a9 _ X Y row ⟨Bx,c0,c1,c2,c3,c4,h1,h2,h3,h4⟩ hg hr
  exact ⟨Bx,c0,c1,c2,c3,c4,h1,h2,zcM Bx 26 (fun _:Unit=>c0) (fun _=>c1) (fun _=>c2) (fun _=>c3) (fun _=>c4) () X Y row h3 hg (fun r e=>(hr r e).2),h4⟩
 case assign=>
  rintro ll pre ⟨⟨i,y,yv⟩,hy⟩ W K hI hK
  obtain ⟨ky,ny,dy,sy,oy,leny,capy,rfl⟩:=zae hy
  subst ha0
  gi_wp2
  have hS:=hI.2.2
  exact hK _ _ ((KeepsOthers.alloc _ _).from _) ⟨(Below.refl _ W).alloc (by omega) _,Below.heap_alloc _ _ _ (by have:=HZ67.out;omega)⟩ ((zkj (S1 S (w.heap.size+1)) w5.heap.size w5 v _ _ W7.heap.size qzL (by have:=HZ7.out;omega)).alloc _ hI) ⟨W.heap.size,_,_,_,_,_,by omega,rfl,Box5.new W _ _ _ _ _ _,rfl⟩
 case body=>
  rintro ll pre ⟨⟨i,y,yv⟩,hy⟩ a9 W hl ⟨rr,hrr⟩ hI ⟨Bx,c0,c2,c3,c4,c5,hBx,hyv,bX,rfl⟩ hlt
  obtain ⟨⟨kt,nt,dt,st5,ot,lt,ct,b1,ji⟩,hB,hS⟩:=hI
  simp only at hyv
  subst hyv
  obtain ⟨ky,ny,dy,sy,oy,leny,capy,he⟩:=zae hy
  simp only[Value.agg.injEq,Array.mk.injEq,List.cons.injEq,and_true] at he
  obtain ⟨rfl,rfl,rfl,rfl,rfl⟩:=he
  subst ha0
  have hsh:Shown w5 (S1 S (w.heap.size+1)) W (S1 (S1 S (w.heap.size+1)) w5.heap.size):=za5 rfl hB
  have HVE:=zh (Sp.shown HE5.out hsh hB.size)
  have HYE:=zh (show (Sp.elm (some y)).holds (S1 (S1 S (w.heap.size+1)) w5.heap.size) (.pointer (some ⟨Bx,0,none⟩)) W from Sp.box bX (RepD.shown hy hsh hB.size) fun h=>h.elim (fun h=>by have:=HST5.out.lt _ h;omega) fun h=>by omega)
  have HTB:=zh b1
  have HTR:=zh ji
  have HLW:=zh (show ∀c,(S1 (S1 S (w.heap.size+1)) w5.heap.size) c->c<W.heap.size from fun c hc=>hc.elim (fun h=>qzM (HST5.out.lt c h) hB.size) fun h=>by subst h;omega)
  have HBW5:=zh hB
  have HSZ:=zh hS
  clear hsh b1 ji bX hB hS hrr hl hlt
  refine wpIn_block ?_
  simp only[List.setIfInBounds_toArray,List.set_cons_succ,List.set_cons_zero]
  refine zi3 (by kernel_rfl) (by rintro ⟨a,w,h⟩;exact h) (noDef (by kernel_rfl)) ?_
  refine zdu 10 (fun i v9 W9=>(([.dat (some (Sy.sym ⟨#[37,101,113,63]⟩)),.dat (some (v)),.dat (some (y)),.dat ((some (y)).map Sy.const),.row ((some (Sy.sym ⟨#[37,101,113,63]⟩)).bind fun u0_47=>(some (v)).bind fun u1_47=>((some (y)).map Sy.const).bind fun u2_47=>some [u0_47,u1_47,u2_47]),.dat (((some (Sy.sym ⟨#[37,101,113,63]⟩)).bind fun u0_47=>(some (v)).bind fun u1_47=>((some (y)).map Sy.const).bind fun u2_47=>some [u0_47,u1_47,u2_47]).map Dat.list),.dat (some (Sy.truth 1)),.dat (some (testUp v (pre.map Item.dat))),.row ((((some (Sy.sym ⟨#[37,101,113,63]⟩)).bind fun u0_47=>(some (v)).bind fun u1_47=>((some (y)).map Sy.const).bind fun u2_47=>some [u0_47,u1_47,u2_47]).map Dat.list).bind fun u0_51=>(some (Sy.truth 1)).bind fun u1_51=>(some (testUp v (pre.map Item.dat))).bind fun u2_51=>some [u0_51,u1_51,u2_51]),.dat (((((some (Sy.sym ⟨#[37,101,113,63]⟩)).bind fun u0_47=>(some (v)).bind fun u1_47=>((some (y)).map Sy.const).bind fun u2_47=>some [u0_47,u1_47,u2_47]).map Dat.list).bind fun u0_51=>(some (Sy.truth 1)).bind fun u1_51=>(some (testUp v (pre.map Item.dat))).bind fun u2_51=>some [u0_51,u1_51,u2_51]).map (Sy.form ⟨#[105,102]⟩))]:List Sp).getD i Sp.any).holds (S1 (S1 S (w.heap.size+1)) w5.heap.size) v9 W9) (fun A B=>Below A.heap.size A B) (by show monoB _ 10 66=true;kernel_rfl) (fun h1 h2=>h1.trans (h2.mono h1.size)) qzB (fun i v A B _ h _ hb=>Sp.below h hb) ?hops ?hend
  case hops=>
   intro i o8 hi ho hgd a8 w8 hdf hsz hex jb ja
   have hed:Below W.drew.heap.size W w8:=(Below.refl W.heap.size W).drew.trans hex
   have ht8:Turned (fun c=>c=b) W w8:=Turned.of_below hed
   have jd:∀c,(S1 (S1 S (w.heap.size+1)) w5.heap.size) c->c<w8.heap.size:=fun c hc=>qzM (HLW.out c hc) hed.size
   match i,hi with
   | 0,_=>cases ho;exact zlE rfl (by decide)
   | 1,_=>cases ho;exact zal rfl (Sp.at ja 4 (by kernel_rfl) (HVE.out) (.inl (.inl HST5.out.own)) ht8)
   | 2,_=>cases ho;exact zal rfl (Sp.at ja 13 (by kernel_rfl) (HYE.out) (.inl (.inl HST5.out.own)) ht8)
   | 3,_=>cases ho;exact zfb rfl (Sp.dep jb 2 45 (by kernel_rfl)) jd
   | 4,_=>cases ho;exact zbX rfl (Sp.dep jb 0 43 (by kernel_rfl)) (Sp.dep jb 1 44 (by kernel_rfl)) (Sp.dep jb 3 46 (by kernel_rfl)) jd
   | 5,_=>cases ho;exact zcc rfl (Sp.dep jb 4 47 (by kernel_rfl)) jd
   | 6,_=>cases ho;exact zdC rfl (by omega) jd
   | 7,_=>
    cases ho
    have h11:a8.tmps.getD 11 undef=.pointer (some ⟨w5.heap.size,0,none⟩):=ja.at 11 (by kernel_rfl)
    have hbx8:Box5 w8 w5.heap.size 26 (.int .i64 kt) (.int .i64 nt) (.int .i64 dt) (.string st5) (.slice ot lt ct):=(hex.block _ (show w5.heap.size<W.drew.heap.size from HTB.out.lt)).trans HTB.out
    obtain ⟨q0,q1,q2,q3,q4⟩:=hbx8.cells
    have ql:=hbx8.lt
    exact zbW (v:=.agg #[.int .i64 kt,.int .i64 nt,.int .i64 dt,.string st5,.slice ot lt ct]) (w':=w8) (by go_simp) ⟨_,rfl,HTR.out.shown (Shown.below (show Below W.heap.size W w8 from hed)) hed.size⟩ qzB
   | 8,_=>cases ho;exact zbX rfl (Sp.dep jb 5 48 (by kernel_rfl)) (Sp.dep jb 6 49 (by kernel_rfl)) (Sp.dep jb 7 50 (by kernel_rfl)) jd
   | 9,_=>cases ho;exact za9 rfl (Sp.dep jb 8 51 (by kernel_rfl)) (by decide) (rowlen3) jd
   | i+10,hi=>exact absurd hi (by omega)
  case hend=>
   intro a8 w8 hdf hsz hex hval ja
   have hed:Below W.heap.size W w8:=(Below.refl W.heap.size W).drew.trans hex
   obtain ⟨x8,hx8,hr8⟩:=hval 9 _ 52 (by omega) rfl rfl
   have hx9:some (Sy.form Sy.ifB [Dat.list [Sy.sym Sy.eqB,v,Sy.const y],Sy.truth 1,testUp v (pre.map Item.dat)])=some x8:=hx8
   obtain rfl:=Option.some.inj hx9
   obtain ⟨f8,ha,hf8⟩:=zaq [false,false,false,false,false,false,false,false,false,false,false,false,false,false,false,false,false,false,false,false,false,false,false,false,false,false,false,false,false,false,false,false,false,false,false,false,false,false,false,false,false,false,false,true,true,true,true,true,true,true,true,true,true] (by kernel_rfl) hdf hsz ja
   rw[<-hf8] at hr8
   subst ha
   obtain ⟨k8,m8,d8,s8,o8,len8,cap8,h8⟩:=zae hr8.unhide
   rw[h8] at hr8
   have hbx8:Box5 w8 w5.heap.size 26 (.int .i64 kt) (.int .i64 nt) (.int .i64 dt) (.string st5) (.slice ot lt ct):=(hed.block _ HTB.out.lt).trans HTB.out
   obtain ⟨p0,p1,p2,p3,p4⟩:=hbx8.cells
   obtain ⟨z0,z1,z2,z3,z4⟩:=hbx8.free
   have pl:=hbx8.lt
   have HX8:=zh hbx8
   have H8:=zh hr8
   have HED:=zh hed
   clear hval ja hf8 hdf hsz hr8 hx8 hx9 hex hbx8 hed
   simp only[spellH,List.drop_succ_cons,List.drop_zero,h8]
   go_wp2_with fail
   have hb5:Below w5.heap.size W (set5 w8 w5.heap.size (.int .i64 k8) (.int .i64 m8) (.int .i64 d8) (.string s8) (.slice o8 len8 cap8)):=(HED.out.mono HBW5.out.size).trans (zag _ _ _ _ _ _ _ _ qzL)
   refine ⟨⟨?_,?_⟩,⟨hb5,?_⟩,⟨_,_,_,_,_,_,_,HX8.out.set _ _ _ _ _,?_⟩,HBW5.out.trans hb5,?_⟩
   ·exact Nat.le_trans HED.out.size (by rw[zan];exact qzL)
   ·intro k o hk ho hc
    exact (zam _ _ _ _ _ _ _ (by have:=HZ7.out;omega)).trans ((HED.out.block _ (Array.getElem?_eq_some_iff.1 ho).1).trans ho)
   ·exact (zam _ _ _ _ _ _ _ (by have:=HZ67.out;omega)).trans (HED.out.block _ (by have:=HZ67.out;have:=HSZ.out;omega))
   ·rw[List.map_append,List.map_cons,List.map_nil,zg8]
    exact H8.out.shown (Shown.five w8 (S:=(S1 (S1 S (w.heap.size+1)) w5.heap.size)) (.inr rfl) _ _ _ _ _) (by rw[zan];exact qzL)
   ·rw[zan];exact Nat.le_trans HSZ.out HED.out.size
 case done=>
  rintro D ys W hD hys hI hK
  obtain ⟨⟨kt,nt,dt,st5,ot,lt,ct,b1,ji⟩,hB,hS⟩:=hI
  rw[hys,ziL] at ji
  subst ha0
  have HSTD:=zh (HST5.out.below hB)
  have HCRD:=zh (Sp.below HCR5.out hB)
  have HLVD:=zh (Sp.below HLV5.out hB)
  have HED:=zh (Sp.below HE5.out hB)
  have HTD:=zh (show (Sp.elm (some (Sy.test v (Sy.split a).1))).holds (S1 S (w.heap.size+1)) (.pointer (some ⟨w5.heap.size,0,none⟩)) W from Sp.box b1 (ji.shown (Shown.less W fun _ _ h=>.inl h) qzL) fun h=>by have:=HST5.out.lt _ h;omega)
  have HDD:=zh (show w.heap.size+1<D from by have h1:=HZ7.out;have h2:=HST5.out.box.lt;omega)
  have HMT:=zh (show ∀w9,Turned (fun c=>c=b) W w9->w9.heap[D]?=some (.deferred (some [])) from fun w9 h=>(h.block D (Array.getElem?_eq_some_iff.1 hK).1 (by have:=HBW.out;have:=HDD.out;omega)).trans hK)
  clear b1 ji hB hS hD hys hK
  go_upto_region 12 with fail
  obtain ⟨p1,hp1,hn1,hk⟩:=Sy.bnd_split HR.out
  have HP1:=zh hp1
  have jh:=zh hn1
  have HK:=zh hk
  clear hp1 hn1 hk
  refine zad (dr:=false) (S:=S) (b:=b) (H:=(w.heap.size+1)) 4 [3] (fun j=>[n,cnt p1].getD j 0) [.val (.pointer (some ⟨b,0,none⟩)),.row (some (a::c)),.row (some (c)),.dat (p1.map (·.1))] HSTD.out (by show zB _ _ 4 66=true;kernel_rfl) (by decide) (by decide) (by kernel_rfl) ?hops ?hcall ?hend
  case hops=>
   intro i o8 hi hip ho a8 w8 hdf jd ht8 jb ja
   match i,hi,hip with
   | 0,_,_=>cases ho;exact zac rfl (Sp.at ja 0 (by kernel_rfl) (rfl) (.inl HSTD.out.own) ht8)
   | 1,_,_=>cases ho;exact zac rfl (Sp.at ja 7 (by kernel_rfl) (HCRD.out) (.inl HSTD.out.own) ht8)
   | 2,_,_=>cases ho;exact zaD (k:=1) rfl (Sp.dep jb 1 54 (by kernel_rfl)) (by decide) (by simp) (by decide)
   | 3,_,h=>exact absurd (by decide) h
   | i+4,hi,_=>exact absurd hi (by omega)
  case hcall=>
   intro j i o8 hj ho a8 w8 hdf jc ht8 jb jg ja
   match j,hj with
   | 0,hj=>
    cases hj;cases ho
    have hv0:a8.tmps.getD 53 undef=.pointer (some ⟨b,0,none⟩):=(Sp.dep jb 0 53 (by kernel_rfl))
    refine zaI (p:=p1) (vals:=#[.pointer (some ⟨b,0,none⟩),a8.tmps.getD 55 undef]) rfl (by simp only[List.map_toArray,List.map_cons,List.map_nil];rw[<-hv0];rfl) (fun _ _=>rfl) (zaU HE.out (S1 S (w.heap.size+1)) b _ c _ w8 p1 HP1.out jc.lt (.inl jc.own) jc.hx jc.hE (Sp.data (Sp.dep jb 2 55 (by kernel_rfl))) HCL.out) fun hp w9 ht9=>?_
    have hrn:=jh.out hp
    subst hrn
    exact zdc (HMT.out _ (ht8.next ht9)) hdf (zdT (jc.bad' ht9) (HMT.out _ (ht8.next ht9)) (by have:=HDD.out;omega) HBW.out)
   | _+1,hj=>simp at hj
  case hend=>
   intro a8 w8 hdf hsz jc ht8 hval ja
   obtain ⟨x8,hx8,hr8⟩:∃x8,p1.map (·.1)=some x8∧RepD (hide w8 (S1 S (w.heap.size+1))) w8.heap.size x8 (a8.tmps.getD 56 undef):=hval 3 _ 56 (by omega) rfl rfl
   rcases p1 with _ | ⟨y1,n1⟩
   ·simp at hx8
   have hx9:some (y1)=some x8:=hx8
   obtain rfl:=Option.some.inj hx9
   obtain ⟨f8,ha,hf8⟩:=zaq [false,false,false,false,false,false,false,false,false,false,false,false,false,false,false,false,false,false,false,false,false,false,false,false,false,false,false,false,false,false,false,false,false,false,false,false,false,false,false,false,false,false,false,false,false,false,false,false,false,false,false,false,false,true,true,true,true] (by kernel_rfl) hdf hsz ja
   rw[<-hf8] at hr8
   subst ha
   obtain ⟨k8,m8,d8,s8,o8,len8,cap8,h8⟩:=zae hr8.unhide
   rw[h8] at hr8
   obtain ⟨W8,hW8⟩:∃W8,w8.alloc (.cells #[.int .i64 k8,.int .i64 m8,.int .i64 d8,.string s8,.slice o8 len8 cap8] 26)=W8:=⟨_,rfl⟩
   obtain ⟨hst9,hel9,ht9⟩:=(show XS S b (w.heap.size+1) n1 w w8 from jc).stored (Turned.refl _ _) jc.hx hr8 hW8
   have HSTE:=zh hst9
   have HELE:=zh hel9
   have HW8:=zh hW8
   have HLVE:=zh (HSTD.out.keep (HLVD.out) (ht8.next ht9))
   have HTE2:=zh (HSTD.out.keep (HTD.out) (ht8.next ht9))
   have HEE:=zh (HSTD.out.keep (HED.out) (ht8.next ht9))
   have HMT2:=zh (show ∀w9,Turned (fun c=>c=b) W8 w9->w9.heap[D]?=some (.deferred (some [])) from fun w9 h=>HMT.out w9 ((ht8.next ht9).next h))
   clear hval ja hf8 hdf hsz hr8 jc ht8 hx8 hx9 hst9 hel9 ht9 hW8
   simp only[spellH,List.drop_succ_cons,List.drop_zero,h8]
   go_upto_region 13 with fail
   rw[HW8.out]
   clear HW8
   have HR3:=zh (HK.out y1 n1 rfl)
   clear HP1 jh HK
   obtain ⟨p1,hp1,hn1,hk⟩:=Sy.bnd_split HR3.out
   have HP1:=zh hp1
   have jh:=zh hn1
   have HRF:=zh hk
   clear hp1 hn1 hk
   refine zad (dr:=true) (S:=S) (b:=b) (H:=(w.heap.size+1)) 9 [6] (fun j=>[n1,cnt p1].getD j 0) [.dat (some (Sy.test v (Sy.split a).1)),.dat (some (y1)),.val (.pointer (some ⟨b,0,none⟩)),.dat (some (v)),.row (some (x::t)),.row (some (t)),.dat (p1.map (·.1)),.row ((some (Sy.test v (Sy.split a).1)).bind fun u0_64=>(some (y1)).bind fun u1_64=>(p1.map (·.1)).bind fun u2_64=>some [u0_64,u1_64,u2_64]),.dat (((some (Sy.test v (Sy.split a).1)).bind fun u0_64=>(some (y1)).bind fun u1_64=>(p1.map (·.1)).bind fun u2_64=>some [u0_64,u1_64,u2_64]).map (Sy.form ⟨#[105,102]⟩))] HSTE.out (by show zB _ _ 9 66=true;kernel_rfl) (by decide) (by decide) (by kernel_rfl) ?hops ?hcall ?hend
   case hops=>
    intro i o8 hi hip ho a8 w8 hdf jd ht8 jb ja
    match i,hi,hip with
    | 0,_,_=>cases ho;exact zal rfl (Sp.at ja 11 (by kernel_rfl) (HTE2.out) (.inl HSTE.out.own) ht8)
    | 1,_,_=>cases ho;exact zal rfl (Sp.at ja 14 (by kernel_rfl) (HELE.out) (.inl HSTE.out.own) ht8)
    | 2,_,_=>cases ho;exact zac rfl (Sp.at ja 0 (by kernel_rfl) (rfl) (.inl HSTE.out.own) ht8)
    | 3,_,_=>cases ho;exact zal rfl (Sp.at ja 4 (by kernel_rfl) (HEE.out) (.inl HSTE.out.own) ht8)
    | 4,_,_=>cases ho;exact zac rfl (Sp.at ja 2 (by kernel_rfl) (HLVE.out) (.inl HSTE.out.own) ht8)
    | 5,_,_=>cases ho;exact zaD (k:=1) rfl (Sp.dep jb 4 61 (by kernel_rfl)) (by decide) (by simp) (by decide)
    | 6,_,h=>exact absurd (by decide) h
    | 7,_,_=>cases ho;exact zbX rfl (Sp.dep jb 0 57 (by kernel_rfl)) (Sp.dep jb 1 58 (by kernel_rfl)) (Sp.dep jb 6 63 (by kernel_rfl)) jd
    | 8,_,_=>cases ho;exact za9 rfl (Sp.dep jb 7 64 (by kernel_rfl)) (by decide) (rowlen3) jd
    | i+9,hi,_=>exact absurd hi (by omega)
   case hcall=>
    intro j i o8 hj ho a8 w8 hdf jc ht8 jb jg ja
    match j,hj with
    | 0,hj=>
     cases hj;cases ho
     have hv0:a8.tmps.getD 59 undef=.pointer (some ⟨b,0,none⟩):=(Sp.dep jb 2 59 (by kernel_rfl))
     refine zaI (p:=p1) (vals:=#[.pointer (some ⟨b,0,none⟩),a8.tmps.getD 60 undef,a8.tmps.getD 62 undef]) rfl (by simp only[List.map_toArray,List.map_cons,List.map_nil];rw[<-hv0];rfl) (fun _ _=>rfl) (IH.out (S1 S (w.heap.size+1)) b _ _ _ w8 p1 HP1.out jc.lt (.inl jc.own) jc.hx jc.hE (Sp.datum (Sp.dep jb 3 60 (by kernel_rfl))) (Sp.data (Sp.dep jb 5 62 (by kernel_rfl)))) fun hp w9 ht9=>?_
     have hrn:=jh.out hp
     subst hrn
     exact zdc (HMT2.out _ (ht8.next ht9)) hdf (zdT (jc.bad' ht9) (HMT2.out _ (ht8.next ht9)) (by have:=HDD.out;omega) HBW.out)
    | _+1,hj=>simp at hj
   case hend=>
    intro a8 w8 hdf hsz jc ht8 hval ja
    obtain ⟨x8,hx8,hr8⟩:∃x8,((some (Sy.test v (Sy.split a).1)).bind fun u0_64=>(some (y1)).bind fun u1_64=>(p1.map (·.1)).bind fun u2_64=>some [u0_64,u1_64,u2_64]).map (Sy.form ⟨#[105,102]⟩)=some x8∧RepD (hide w8 (S1 S (w.heap.size+1))) w8.heap.size x8 (a8.tmps.getD 65 undef):=hval 8 _ 65 (by omega) rfl rfl
    rcases p1 with _ | ⟨y3,n3⟩
    ·simp at hx8
    have hx9:some (Sy.form Sy.ifB [Sy.test v (Sy.split a).1,y1,y3])=some x8:=hx8
    obtain rfl:=Option.some.inj hx9
    have hrr:r=some (Sy.form Sy.ifB [Sy.test v (Sy.split a).1,y1,y3],n3):=Sy.ret_split (HRF.out _ _ rfl)
    subst hrr
    obtain ⟨f8,ha,hf8⟩:=zaq [false,false,false,false,false,false,false,false,false,false,false,false,false,false,false,false,false,false,false,false,false,false,false,false,false,false,false,false,false,false,false,false,false,false,false,false,false,false,false,false,false,false,false,false,false,false,false,false,false,false,false,false,false,false,false,false,false,true,true,true,true,true,true,true,true,true] (by kernel_rfl) hdf hsz ja
    rw[<-hf8] at hr8
    subst ha
    obtain ⟨k8,m8,d8,s8,o8,len8,cap8,h8⟩:=zae hr8.unhide
    rw[h8] at hr8
    obtain ⟨p0,p1,p2,p3,p4⟩:=jc.box.cells
    obtain ⟨z0,z1,z2,z3,z4⟩:=jc.box.free
    have pl:=jc.box.lt
    have HX8:=zh (show XS S b (w.heap.size+1) n3 w w8 from jc)
    have H8:=zh hr8
    have HM8:=zh (HMT2.out w8 ht8)
    clear hval ja hf8 hdf hsz hr8 jc ht8 hx8 hx9
    simp only[spellH,List.drop_succ_cons,List.drop_zero,h8]
    go_wp2_with fail
    have HR5:=zh (HX8.out.box.set (.int .i64 k8) (.int .i64 m8) (.int .i64 d8) (.string s8) (.slice o8 len8 cap8))
    have hmk:(set5 w8 (w.heap.size+1) (.int .i64 k8) (.int .i64 m8) (.int .i64 d8) (.string s8) (.slice o8 len8 cap8)).heap[D]?=some (.deferred (some [])):=(zam w8 _ _ _ _ _ _ (by have:=HDD.out;omega)).trans HM8.out
    have hbp:=(show Box5 ((set5 w8 (w.heap.size+1) (.int .i64 k8) (.int .i64 m8) (.int .i64 d8) (.string s8) (.slice o8 len8 cap8)).putObj D (.deferred none)) (w.heap.size+1) _ _ _ _ _ _ from (World.putObj_heap_other (by have:=HDD.out;omega)).trans HR5.out)
    obtain ⟨r0,r1,r2,r3,r4⟩:=hbp.cells
    refine zis (v:=.agg #[.int .i64 k8,.int .i64 m8,.int .i64 d8,.string s8,.slice o8 len8 cap8]) hmk (by simp[results,Tryz.f149,go_sem,r0,r1,r2,r3,r4]) rfl ?_
    exact zdT (HX8.out.fin H8.out) hmk (by have:=HDD.out;omega) HBW.out
 case stop=>
  rintro D c8 pre W _ _ h _
  exact h.elim
theorem zhe {E:Dat->Sy.M Dat} (hE:EOk E):ChOk E:=by
 intro v l
 induction l with
 | nil=>
  intro S b n vv sl w r hr _ _ hS hb hx hV hvv hv
  exact zhq S b n v vv sl w r hr hS hb hx hV hvv hv
 | cons x t ih=>
  intro S b n vv sl w r hr hsm hll hS hb hx hV hvv hv
  have hsx:=hsm x List.mem_cons_self
  have htl:t.length<=100000:=by simp only[qzN] at hll;omega
  have hcl:∀c last,Sy.clause x t 2=some (c,last)->c.length<=99999∧2<=c.length∧∀y∈c,Sy.small y=true:=fun c last h=>by
   unfold Sy.clause at h
   split at h
   ·rename_i h1
    split at h
    ·obtain ⟨rfl,_⟩:=Prod.mk.inj (Option.some.inj h)
     have:=zaY x
     have:=(Sy.small_iff.1 hsx).2
     exact ⟨by omega,h1.2,Sy.split_small hsx⟩
    ·cases h
   ·cases h
  match hc:Sy.clause x t 2 with
  | none=>
   rw[Sy.choiceF,hc] at hr
   obtain rfl:=Sy.bad_split hr
   exact zgf x t hsx htl hc S b n v vv sl w hS hb hx hV hvv hv
  | some ([],q)=>exfalso;have:=(hcl _ _ hc).2.1;simp at this
  | some (a::c,true)=>exact zfD hE x t hsx htl a c hc (by have:=(hcl _ _ hc).1;simp only[qzN] at this;omega) S b n v vv sl w r (by rw[Sy.choiceF,hc] at hr;exact hr) hS hb hx hV hvv hv
  | some (a::c,false)=>
   rw[Sy.choiceF,hc] at hr
   have hsa:=(hcl _ _ hc).2.2 a List.mem_cons_self
   obtain ⟨i1,i2⟩:=Sy.need_split (show Sy.need ((Sy.split a).2.kind==4) _ n=some r from hr)
   cases hq:((Sy.split a).2.kind==4) with
   | false=>
    obtain rfl:=i1 hq
    exact zg6 x t hsx htl a c hc hsa hq S b n v vv sl w hS hb hx hV hvv hv
   | true=>exact zfS hE x t hsx htl a c hc hsa (by have:=(hcl _ _ hc).1;simp only[qzN] at this;omega) hq S b n v vv sl w r (i2 hq) (fun S b n vv sl w r hr hS hb hx hV hvv hv=>ih S b n vv sl w r hr (fun y hy=>hsm y (List.mem_cons_of_mem _ hy)) (by simp only[qzN] at hll;omega) hS hb hx hV hvv hv) hS hb hx hV hvv hv
end
end Go.Proofs.YtnbjhmafnigefaaGreatDoor
