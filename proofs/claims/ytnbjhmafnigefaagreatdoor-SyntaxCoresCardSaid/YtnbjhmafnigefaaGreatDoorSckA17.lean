/- .. -/
import Derived.Defers
import Derived.Recover
import Derived.Laws.Pointers
import Derived.Deep.RegionLaw
import Derived.WalkLawsBesides
import Derived.Test.YtnbjhmafnigefaaGreatDoorSckA16
open Go.Proofs.Tryz
set_option maxRecDepth 100000
set_option maxHeartbeats 16000000
namespace Go.Proofs.YtnbjhmafnigefaaGreatDoor
section
open Go Go.RowKit
theorem zlr {E:Dat->Sy.M Dat} (hE:EOk E):DoOk E:=by
 intro x t l S b n xv tv sl w r hr hsx hst hsm hll hS hb hx hV hxv htv hv
 unfold Sy.doF at hr
 obtain ⟨i1,i2⟩:=Sy.need_split hr
 cases hc:((Sy.split x).2.kind==4&&((Sy.split t).2.kind==4 && !(Sy.split t).1.isEmpty)) with
 | false=>
  obtain rfl:=i1 hc
  exact zgD S b n x t xv tv l sl w _ _ rfl rfl hc hsx hst hS hb hx hV hxv htv hv
 | true=>
  simp only[Bool.and_eq_true] at hc
  obtain ⟨h1,h2,h3⟩:=hc
  match he:(Sy.split t).1 with
  | []=>rw[he] at h3;simp at h3
  | e0::es=>
   refine zk9 hE S b n x t xv tv l sl w h1 h2 e0 es he hll r ?_ hsx hst hS hb hx hV hxv htv hv
   have h:=i2 (by rw[h1,h2,h3];rfl)
   rw[he] at h
   exact h
theorem zj3 {E:Dat->Sy.M Dat} {L:Dat->List Dat->Sy.M Dat} (hE:EOk E) (hL:LOk L):BOk fun l=>Sy.within (l.all Sy.small&&decide (l.length<=100000)) (Sy.body E L l):=by
 intro S b n l sl w r hr hS hb hx hV hv hl
 unfold Sy.within at hr
 simp only at hr
 split at hr
 ·rename_i h
  simp only[Bool.and_eq_true,List.all_eq_true,decide_eq_true_eq] at h
  exact zd0 hE hL S b n l sl w r hr h.1 h.2 hS hb hx hV hv
 ·cases hr
theorem zf3:∀f:Nat,EOk (Sy.expr f)∧LOk (Sy.lam f)
 | 0=>⟨fun S b n x v w r hr=>(by cases hr),fun S b n f fv l sl w r hr=>(by cases hr)⟩
 | f+1=>by
  obtain ⟨hE,hL⟩:=zf3 f
  refine ⟨?_,?_⟩
  ·intro S b n x v w r hr hS hb hx hV hv
   unfold Sy.expr Sy.within at hr
   split at hr
   ·rename_i hsm
    exact zjU hE (ziZ hE hL fun key l S b n sl w r hr hsm hll hS hb hx hV hv=>zfK hE (zhe hE) (zlr hE) key l S b n sl w r hr hsm hll hS hb hx hV hv) S b n x v w r hr hsm hS hb hx hV hv
   ·cases hr
  ·intro S b n x fv l sl w r hr hS hb hx hV hfv hv
   unfold Sy.lam Sy.within at hr
   split at hr
   ·rename_i hsm
    simp only[Bool.and_eq_true,List.all_eq_true,decide_eq_true_eq] at hsm
    obtain ⟨h1,h2,h3⟩:=hsm
    refine zhb (zj3 hE hL) S b n x fv l sl w r ?_ hS hb hx hV hfv (Sy.small_iff.1 h1).1 (Sy.small_iff.1 h1).2 hv h3
    unfold Sy.lambda at hr
    have hw:(l.all Sy.small&&decide (l.length<=100000))=true:=by simp only[Bool.and_eq_true,List.all_eq_true,decide_eq_true_eq];exact ⟨h2,h3⟩
    unfold Sy.within
    simp only[hw,if_true]
    exact hr
   ·cases hr
end
section
open Go Go.RowKit
theorem zhY (s:ByteArray) (w:World):Calls prog 84 #[.string s,.string ⟨#[37]⟩] w fun e w'=>e=.returned (.int .i64 (Lib.indexByte s.data.toList 37))∧w'=w:=by
 have h1:=zh (stringslite_Index_one s 37 w)
 go_enter func84,ntmps84
 go_wp2_with (go_at_call 105;refine h1.out.mono ?_;rintro e' w1 ⟨rfl,rfl⟩)
 go_ret
 exact ⟨rfl,rfl⟩
theorem ze5 (s:ByteArray) (w:World):Calls prog 47 #[.string s,.string ⟨#[37]⟩] w fun e w'=>e=.returned (.bool (s.data.toList.contains 37))∧w'=w:=by
 have h1:=zhY s w
 rw[Lib.contains_iff_indexByte]
 generalize Lib.indexByte s.data.toList 37=i at h1 ⊢
 have H1:=zh h1
 clear h1
 by_cases hi:0<=i
 ·rw[decide_eq_true hi]
  go_enter func47,ntmps47
  go_wp2_with (go_at_call 84;refine H1.out.mono ?_;rintro e' w1 ⟨rfl,rfl⟩)
  go_ret
  exact ⟨by simp,rfl⟩
 ·rw[decide_eq_false hi]
  go_enter func47,ntmps47
  go_wp2_with (go_at_call 84;refine H1.out.mono ?_;rintro e' w1 ⟨rfl,rfl⟩)
  go_ret
  exact ⟨by simp[hi],rfl⟩
theorem zg3 (l:List Dat):l.any Dat.marked=Dat.markedL l:=by
 induction l with
 | nil=>rfl
 | cons x l ih=>simp only[List.any_cons,Dat.markedL,ih]
theorem zgF:∀(x:Dat) (v:Value) (B:Nat) (w:World),RepD w B x v->B<=w.heap.size ->
  Calls prog 27 #[v] w fun e w'=>e=.returned (.bool (Dat.marked x))∧Below w.heap.size w w':=by
 intro x
 induction x using Dat.ind with
 | h k n d s l ih=>
  intro v B w hv hB
  obtain ⟨sl,rfl,_,_,_,hsz,o,len,cap,rfl,jk,hcap,hmax,hc⟩:=hv.open
  obtain ⟨W0,hW0⟩:∃W0,w.alloc (.cells #[.int .i64 k,.int .i64 n,.int .i64 d,.string s,.slice o len cap] 26)=W0:=⟨_,rfl⟩
  have hb:Box5 W0 w.heap.size 26 (.int .i64 k) (.int .i64 n) (.int .i64 d) (.string s) (.slice o len cap):=by rw[<-hW0];exact Box5.new w _ _ _ _ _ _
  have hbl:Below w.heap.size w W0:=by rw[<-hW0];exact Below.one _ _
  have HBL:=zh hbl
  have HC:=zh (zbg 27 #[] Dat.marked (Dat.markedL l) l (.slice o len cap) B W0 (RepS.kept (w:=w) ⟨o,len,cap,rfl,jk,hcap,hmax,hc⟩ (hbl.mono hB)) (by have:=hbl.size;omega) (fun _ _=>by kernel_rfl) (fun y hy u W hu hbW=>by
   have:=(ih y hy u B W hu (by have:=hbl.size;have:=hbW.size;omega))
   simpa using this) (zg3 l))
  have HK:=zh (ze5 s W0)
  have hm0:Dat.marked (.mk k n d s l)=((decide (k=2)&&s.data.toList.contains 37) || Dat.markedL l):=by simp[Dat.marked]
  have HM:=zh hm0
  obtain ⟨i0,i1,i2,i3,i4⟩:=hb.cells
  have il:=hb.lt
  clear hm0 hb hbl ih hv hc jk hcap hmax hsz
  by_cases hk:k=2
  ·subst hk
   cases hct:s.data.toList.contains 37 with
   | true=>
    rw[hct] at HM HK
    have HM:=zh (HM.out.trans (by simp:_=true))
    clear hct
    rw[HM.out]
    go_enter func27,ntmps27
    go_wp2_with (first | (go_at_call 47;refine HK.out.mono ?_;rintro e' w1 ⟨rfl,rfl⟩))
    go_ret
    exact ⟨rfl,HBL.out⟩
   | false=>
    rw[hct] at HM HK
    have HM:=zh (HM.out.trans (by simp:_=Dat.markedL l))
    clear hct
    rw[HM.out]
    generalize Dat.markedL l=r at HC ⊢
    go_enter func27,ntmps27
    go_wp2_with (first | (go_at_call 47;refine HK.out.mono ?_;rintro e' w1 ⟨rfl,rfl⟩) | (go_at_call 24;refine HC.out.mono ?_;rintro e' w1 ⟨rfl,hb1⟩))
    go_ret
    exact ⟨rfl,Below.next HBL.out hb1⟩
  ·have HM:=zh (HM.out.trans (by simp[hk]:_=Dat.markedL l))
   rw[HM.out]
   generalize Dat.markedL l=r at HC ⊢
   go_enter func27,ntmps27
   go_wp2_with (first | (go_at_call 24;refine HC.out.mono ?_;rintro e' w1 ⟨rfl,hb1⟩))
   go_ret
   exact ⟨rfl,Below.next HBL.out hb1⟩
end
section
open Go Go.RowKit
theorem zbm {w1:World} {B:Nat} {l:List Dat} {o:Option Addr} {len cap:Nat} (h:RepS w1 B l (.slice o len cap)) (hB:B<=w1.heap.size) {j:Nat} {x:Dat} (hx:l[j]?=some x) :
  ∃b off k n d s o' len' cap',o=some ⟨b,off,none⟩∧x.kind=k∧x.s=s∧b<w1.heap.size∧∀W,Below w1.heap.size w1 W->W.cell? ⟨b,off+j*5,none⟩=some (.int .i64 k)∧W.cell? ⟨b,off+j*5+1,none⟩=some (.int .i64 n)∧W.cell? ⟨b,off+j*5+2,none⟩=some (.int .i64 d)∧W.cell? ⟨b,off+j*5+3,none⟩=some (.string s)∧W.cell? ⟨b,off+j*5+4,none⟩=some (.slice o' len' cap')∧RepD W W.heap.size x (.agg #[.int .i64 k,.int .i64 n,.int .i64 d,.string s,.slice o' len' cap']):=by
 obtain ⟨o0,len0,cap0,he,_,_,_,hc⟩:=h
 cases he
 obtain ⟨b,off,k,n,d,s,l',o',len',cap',ho,rfl,e0,e1,e2,e3,e4,er⟩:=zat hc qzB hx
 have hlt:=zai e0
 refine ⟨b,off,k,n,d,s,o',len',cap',ho,rfl,rfl,hlt,fun W hW=>?_⟩
 have hk:=fun i=>zbT hW b i hlt
 refine ⟨(hk _).trans e0,(hk _).trans e1,(hk _).trans e2,(hk _).trans e3,(hk _).trans e4,(er.kept (hW.mono hB)).wider (by have:=hW.size;omega)⟩
theorem zh9 {W:World} {B:Nat} {l:List Dat} {b off len cap:Nat} (h:RepS W B l (.slice (some ⟨b,off,none⟩) len cap)) (k:Nat) (hk:k<len):RepS W B (l.drop k) (.slice (some ⟨b,off+k*5,none⟩) (len-k) (cap-k)):=by
 obtain ⟨o0,len0,cap0,he,jk,hcap,hmax,hc⟩:=h
 cases he
 have hne:l≠[]:=by rintro rfl;simp at jk;omega
 exact ⟨_,_,_,rfl,by rw[List.length_drop,jk],by omega,by omega,fun _=>⟨rfl,(hc.1 hne).2⟩,zdJ k l _ hc.2⟩
theorem zeV {x:Dat} (hb:Sy.binds x=none) (hsh:Dat.shaped x=true) (hal:Dat.all x<=100000) (W:World) (v:Value) (hv:RepD W W.heap.size x v) :
  Calls prog 76 #[v] W fun e w'=>∃(ln lv:List Dat) (vn:Value) (o:Option Addr) (len cap:Nat),e=.returned (.tuple #[vn,.slice o len cap,.bool false])∧GrownS w' (SR (fun _=>False) (.slice o len cap)) W.heap.size ln vn∧GrownS w' (SR (fun _=>False) vn) W.heap.size lv (.slice o len cap)∧Below W.heap.size W w'∧lv.length<=100000:=by
 refine (zbv (fun _=>False) x v W.heap.size W (fun _ h=>h.elim) (hv.dug fun _ h=>h.elim) qzL hsh hal).mono ?_
 rintro e w' ⟨ln,lv,vn,vv,ok,rfl,h1,h2,h3,h4,h5,h6⟩
 obtain ⟨o,len,cap,rfl, -, -⟩:=h2.form
 obtain rfl:ok=false:=by
  cases ok with
  | false=>rfl
  | true=>have:=h4 rfl;rw[hb] at this;cases this
 exact ⟨ln,lv,vn,o,len,cap,rfl,h1,h2,h3,h6⟩
theorem zcp {x:Dat} {ns vs:List Dat} (hb:Sy.binds x=some (ns,vs)) (hsh:Dat.shaped x=true) (hal:Dat.all x<=100000) (W:World) (v:Value) (hv:RepD W W.heap.size x v) :
  Calls prog 76 #[v] W fun e w'=>∃(vn:Value) (o:Option Addr) (len cap:Nat),e=.returned (.tuple #[vn,.slice o len cap,.bool true])∧GrownS w' (SR (fun _=>False) (.slice o len cap)) W.heap.size ns vn∧GrownS w' (SR (fun _=>False) vn) W.heap.size vs (.slice o len cap)∧Below W.heap.size W w'∧vs.length<=100000:=by
 refine (zbv (fun _=>False) x v W.heap.size W (fun _ h=>h.elim) (hv.dug fun _ h=>h.elim) qzL hsh hal).mono ?_
 rintro e w' ⟨ln,lv,vn,vv,ok,rfl,h1,h2,h3,h4,h5,h6⟩
 obtain ⟨o,len,cap,rfl, -, -⟩:=h2.form
 obtain rfl:ok=true:=by
  cases ok with
  | true=>rfl
  | false=>have:=h5 rfl;rw[hb] at this;cases this
 have h7:=h4 rfl
 rw[hb] at h7
 simp only[Option.some.injEq,Prod.mk.injEq] at h7
 obtain ⟨rfl,rfl⟩:=h7
 exact ⟨vn,o,len,cap,rfl,h1,h2,h3,h6⟩
theorem zbk {wN wB:World} {vn vv:Value} {ln lv:List Dat} (hg1:GrownS wB (SR (fun _=>False) vv) wN.heap.size ln vn) (hg2:GrownS wB (SR (fun _=>False) vn) wN.heap.size lv vv) (hb:Below wN.heap.size wN wB) {x:Dat} {c0 c1 c2 c3 c4:Value} (he:RepD wN wN.heap.size x (.agg #[c0,c1,c2,c3,c4])) :
  Hid (RepS (hide (wB.alloc (.cells #[c0,c1,c2,c3,c4] 26)) (SR (SR (fun _=>False) vn) vv)) (wB.alloc (.cells #[c0,c1,c2,c3,c4] 26)).heap.size [x] (.slice (some ⟨wB.heap.size,0,none⟩) 1 1))∧Hid (GrownS (wB.alloc (.cells #[c0,c1,c2,c3,c4] 26)) (SR (fun _=>False) vn) wN.heap.size lv vv):=by
 have hS:∀b,SR (SR (fun _=>False) vn) vv b->wN.heap.size<=b∧b<wB.heap.size:=fun b h=>by
  rcases h with (h | h) | h
  ·exact h.elim
  ·exact hg1.block h
  ·exact hg2.block h
 exact ⟨zh (zax (fun b h=>(hS b h).2) (((he.kept hb).dug fun b h=>(hS b h).1).wider hb.size)),zh (hg2.below (Below.one _ _))⟩
def CoreAt (C:Dat->Bool) (y:Dat):Prop:=∀(v:Value) (B:Nat) (w:World),RepD w B y v->B<=w.heap.size->Calls prog 40 #[v] w fun e w'=>e=.returned (.bool (C y))∧Below w.heap.size w w'
theorem ziE {C:Dat->Bool} {y:Dat} (hy:CoreAt C y) (v:Value) (B:Nat) (w:World) (hv:RepD w B y v) (hB:B<=w.heap.size) :
  Calls prog 77 #[v] w fun e w'=>e=.returned (.bool (!C y))∧Below w.heap.size w w':=by
 obtain ⟨k,n,d,s,o,len,cap,rfl⟩:=zae hv
 obtain ⟨W0,hW0⟩:∃W0,w.alloc (.cells #[.int .i64 k,.int .i64 n,.int .i64 d,.string s,.slice o len cap] 26)=W0:=⟨_,rfl⟩
 have hb:Box5 W0 w.heap.size 26 (.int .i64 k) (.int .i64 n) (.int .i64 d) (.string s) (.slice o len cap):=by rw[<-hW0];exact Box5.new w _ _ _ _ _ _
 have hbl:Below w.heap.size w W0:=by rw[<-hW0];exact Below.one _ _
 have HBL:=zh hbl
 have HC:=zh (hy _ B W0 (hv.kept (hbl.mono hB)) (by have:=hbl.size;omega))
 obtain ⟨i0,i1,i2,i3,i4⟩:=hb.cells
 have il:=hb.lt
 generalize C y=r at HC ⊢
 clear hv hb hbl hB hy
 go_enter func77,ntmps77
 go_wp2_with (first | (go_at_call 40;refine HC.out.mono ?_;rintro e' w1 ⟨rfl,hb1⟩))
 go_ret
 exact ⟨rfl,Below.next HBL.out hb1⟩
theorem zlq (C:Dat->Bool) (l:List Dat):(l.any fun y=>!C y) = !l.all C:=by
 induction l with
 | nil=>rfl
 | cons x l ih=>rw[List.any_cons,List.all_cons,ih,Bool.not_and]
theorem zaT {C:Dat->Bool} {l:List Dat} (hl:∀y∈l,CoreAt C y) {r:Bool} (hr:l.all C=r) (sl:Value) (W:World) (h:RepS W W.heap.size l sl) :
  Calls prog 24 #[sl,.func (.func 77) #[] #[]] W fun e w'=>e=.returned (.bool (!r))∧Below W.heap.size W w':=
 zbg 77 #[] (fun y=>!C y) (!r) l sl W.heap.size W h qzL (fun _ _=>by kernel_rfl)
  (fun y hy u W' hu hbW=>by
   have:=ziE (hl y hy) u W.heap.size W' hu hbW.size
   simpa using this)
  (by rw[zlq,hr])
def CIn (x h:Dat) (t:List Dat) (v:Value) (w:World):Prop:=(∃B,RepD w B x v∧B<=w.heap.size)∧Dat.shaped x=true∧Dat.all x<=100000∧x.kind≠2∧(Sy.split x).2.kind=4∧(Sy.split x).1=h::t
def COut (r:Bool) (v:Value) (w:World):Prop:=Calls prog 40 #[v] w fun e w'=>e=.returned (.bool r)∧Below w.heap.size w w'
theorem zaR {x h:Dat} {t:List Dat} {v:Value} {w:World} (hin:CIn x h t v w):∃k n d s o len cap W0,v=.agg #[.int .i64 k,.int .i64 n,.int .i64 d,.string s,.slice o len cap]∧w.alloc (.cells #[.int .i64 k,.int .i64 n,.int .i64 d,.string s,.slice o len cap] 26)=W0 ∧
  (W0.cell? ⟨w.heap.size,0,none⟩=some (.int .i64 k)∧W0.cell? ⟨w.heap.size,1,none⟩=some (.int .i64 n)∧W0.cell? ⟨w.heap.size,2,none⟩=some (.int .i64 d)∧W0.cell? ⟨w.heap.size,3,none⟩=some (.string s)∧W0.cell? ⟨w.heap.size,4,none⟩=some (.slice o len cap))∧w.heap.size<W0.heap.size∧(k==2)=false∧Hid (Below w.heap.size w W0) ∧
  Hid (Calls prog 73 #[.agg #[.int .i64 k,.int .i64 n,.int .i64 d,.string s,.slice o len cap]] W0 fun e w1=>∃bb ob len1 cap1 kh nh dh sh oh lh ch,e=.returned (.tuple #[.slice (some ⟨bb,ob,none⟩) len1 cap1,.bool true])∧h.kind=kh∧h.s=sh ∧
   (w1.cell? ⟨bb,ob,none⟩=some (.int .i64 kh)∧w1.cell? ⟨bb,ob+1,none⟩=some (.int .i64 nh)∧w1.cell? ⟨bb,ob+2,none⟩=some (.int .i64 dh)∧w1.cell? ⟨bb,ob+3,none⟩=some (.string sh)∧w1.cell? ⟨bb,ob+4,none⟩=some (.slice oh lh ch))∧0<len1∧((len1:Int)==0)=false∧Hid (len1=(h::t).length) ∧
   Hid (RepS w1 w1.heap.size (h::t) (.slice (some ⟨bb,ob,none⟩) len1 cap1)) ∧
   Hid (∀W,Below w1.heap.size w1 W->W.cell? ⟨bb,ob,none⟩=some (.int .i64 kh)∧W.cell? ⟨bb,ob+1,none⟩=some (.int .i64 nh)∧W.cell? ⟨bb,ob+2,none⟩=some (.int .i64 dh)∧W.cell? ⟨bb,ob+3,none⟩=some (.string sh)∧W.cell? ⟨bb,ob+4,none⟩=some (.slice oh lh ch)) ∧
   Hid (Below w.heap.size w w1)∧Hid (Below w1.heap.size w1 w1)∧Hid (∀(c:ByteArray) (r:Bool) (W:World),Sy.isNm h c=r->Calls prog 74 #[.agg #[.int .i64 kh,.int .i64 nh,.int .i64 dh,.string sh,.slice oh lh ch],.string c] W fun e w'=>e=.returned (.bool r)∧Below W.heap.size W w')):=by
 obtain ⟨⟨B,hv,hB⟩,hsh,hal,hkd,h4,hsp⟩:=hin
 obtain ⟨k,n,d,s,o,len,cap,rfl⟩:=zae hv
 obtain ⟨W0,hW0⟩:∃W0,w.alloc (.cells #[.int .i64 k,.int .i64 n,.int .i64 d,.string s,.slice o len cap] 26)=W0:=⟨_,rfl⟩
 have hb:Box5 W0 w.heap.size 26 (.int .i64 k) (.int .i64 n) (.int .i64 d) (.string s) (.slice o len cap):=by rw[<-hW0];exact Box5.new w _ _ _ _ _ _
 have hbl:Below w.heap.size w W0:=by rw[<-hW0];exact Below.one _ _
 have hit:=zbn (fun _=>False) x _ B W0 true (by simp[h4]) (fun _ h=>h.elim) ((hv.kept (hbl.mono hB)).dug (fun _ h=>h.elim)) (by have:=hbl.size;omega) hsh hal
 rw[hsp] at hit
 refine ⟨k,n,d,s,o,len,cap,W0,rfl,hW0,hb.cells,hb.lt,by rw[<-zaE hv];simp[hkd],zh hbl,zh (hit.mono ?_)⟩
 rintro e w1 ⟨o1,len1,cap1,rfl,hr1,hb1⟩
 obtain ⟨bb,ob,kh,nh,dh,sh,oh,lh,ch,rfl,hkh,hsn,hbb,hel⟩:=zbm hr1.unhide qzL (show (h::t)[0]?=some h from rfl)
 simp only[Nat.zero_mul,Nat.add_zero] at hel
 have hl1:len1=(h::t).length:=(zbd hr1).1
 have hl0:0<len1:=by rw[hl1];exact Nat.succ_pos _
 have hel':∀W,Below w1.heap.size w1 W->W.cell? ⟨bb,ob,none⟩=some (.int .i64 kh)∧W.cell? ⟨bb,ob+1,none⟩=some (.int .i64 nh)∧W.cell? ⟨bb,ob+2,none⟩=some (.int .i64 dh)∧W.cell? ⟨bb,ob+3,none⟩=some (.string sh)∧W.cell? ⟨bb,ob+4,none⟩=some (.slice oh lh ch):=fun W hW=>by
  obtain ⟨a0,a1,a2,a3,a4, -⟩:=hel W hW
  exact ⟨a0,a1,a2,a3,a4⟩
 exact ⟨bb,ob,len1,cap1,kh,nh,dh,sh,oh,lh,ch,rfl,hkh,hsn,hel' w1 qzB,hl0,beq_eq_false_iff_ne.2 (by omega),zh hl1,zh hr1.unhide,zh hel',zh (Below.next hbl hb1),zh qzB,zh fun c r W hr=>zjb kh nh dh sh c oh lh ch W r (by rw[<-hkh,<-hsn];exact hr)⟩
theorem zaB {w1:World} {l:List Dat} {bb ob len cap j:Nat} {f:Dat} (h:RepS w1 w1.heap.size l (.slice (some ⟨bb,ob,none⟩) len cap)) (hf:l[j]?=some f) (q0 q1 q2 q3 q4:Nat) (h0:ob+j*5=q0) (h1:ob+j*5+1=q1) (h2:ob+j*5+2=q2) (h3:ob+j*5+3=q3) (h4:ob+j*5+4=q4):∃k n d s o len' cap',Hid (∀W,Below w1.heap.size w1 W->W.cell? ⟨bb,q0,none⟩=some (.int .i64 k)∧W.cell? ⟨bb,q1,none⟩=some (.int .i64 n)∧W.cell? ⟨bb,q2,none⟩=some (.int .i64 d)∧W.cell? ⟨bb,q3,none⟩=some (.string s)∧W.cell? ⟨bb,q4,none⟩=some (.slice o len' cap')∧RepD W W.heap.size f (.agg #[.int .i64 k,.int .i64 n,.int .i64 d,.string s,.slice o len' cap'])):=by
 obtain ⟨b2,o2,k,n,d,s,o,len',cap',he, -, -, -,hel⟩:=zbm h qzL hf
 cases he
 subst h0 h1 h2 h3 h4
 exact ⟨k,n,d,s,o,len',cap',zh hel⟩
theorem zbQ {w1:World} {l:List Dat} {bb ob len cap:Nat} (h:RepS w1 w1.heap.size l (.slice (some ⟨bb,ob,none⟩) len cap)) (k q:Nat) (hk:k<l.length) (hq:ob+k*5=q):Hid (RepS w1 w1.heap.size (l.drop k) (.slice (some ⟨bb,q,none⟩) (len-k) (cap-k)))∧k<cap∧¬cap=k∧cap-k≠0:=by
 have hl:=zbd h
 subst hq
 exact ⟨zh (zh9 h k (by omega)),by omega,by omega,by omega⟩
theorem zjT {_C:Dat->Bool} {x:Dat} {v:Value} {w:World} {B:Nat} (hv:RepD w B x v) (_hB:B<=w.heap.size) (_hsh:Dat.shaped x=true) (_hal:Dat.all x<=100000) (hkd:x.kind=2):COut (Sy.isVar x) v w:=by
 obtain ⟨k,n,d,s,o,len,cap,rfl⟩:=zae hv
 obtain ⟨W0,hW0⟩:∃W0,w.alloc (.cells #[.int .i64 k,.int .i64 n,.int .i64 d,.string s,.slice o len cap] 26)=W0:=⟨_,rfl⟩
 have hb:Box5 W0 w.heap.size 26 (.int .i64 k) (.int .i64 n) (.int .i64 d) (.string s) (.slice o len cap):=by rw[<-hW0];exact Box5.new w _ _ _ _ _ _
 have hbl:Below w.heap.size w W0:=by rw[<-hW0];exact Below.one _ _
 have HBL:=zh hbl
 have hkk:=zaE hv
 have hk2:(k==2)=true:=by rw[<-hkk];simp[hkd]
 have HV:=zh (fun w=>zaP (w:=w) x _ hv)
 generalize Sy.isVar x=r at HV ⊢
 obtain ⟨i0,i1,i2,i3,i4⟩:=hb.cells
 have il:=hb.lt
 unfold COut
 clear hv hb hbl hkk _hB _hsh _hal hkd
 go_enter func40,ntmps40
 go_wp2_with (first | (go_at_call 72;refine (HV.out _).mono ?_;rintro e' w1 ⟨rfl,hb1⟩) | fail)
 go_ret
 exact ⟨rfl,Below.next HBL.out hb1⟩
theorem zeA {_C:Dat->Bool} {x:Dat} {v:Value} {w:World} {B:Nat} (hv:RepD w B x v) (hB:B<=w.heap.size) (hsh:Dat.shaped x=true) (hal:Dat.all x<=100000) (hkd:x.kind≠2) (h4:(Sy.split x).2.kind≠4):COut false v w:=by
 obtain ⟨k,n,d,s,o,len,cap,rfl⟩:=zae hv
 obtain ⟨W0,hW0⟩:∃W0,w.alloc (.cells #[.int .i64 k,.int .i64 n,.int .i64 d,.string s,.slice o len cap] 26)=W0:=⟨_,rfl⟩
 have hb:Box5 W0 w.heap.size 26 (.int .i64 k) (.int .i64 n) (.int .i64 d) (.string s) (.slice o len cap):=by rw[<-hW0];exact Box5.new w _ _ _ _ _ _
 have hbl:Below w.heap.size w W0:=by rw[<-hW0];exact Below.one _ _
 have HBL:=zh hbl
 have hkk:=zaE hv
 have hk2:(k==2)=false:=by rw[<-hkk];simp[hkd]
 have hit:=zbn (fun _=>False) x _ B W0 false (by simp[h4]) (fun _ h=>h.elim) ((hv.kept (hbl.mono hB)).dug (fun _ h=>h.elim)) (by have:=hbl.size;omega) hsh hal
 have HIT:=zh hit
 obtain ⟨i0,i1,i2,i3,i4⟩:=hb.cells
 have il:=hb.lt
 unfold COut
 clear hv hb hbl hkk hB hsh hal hkd hit h4
 go_enter func40,ntmps40
 go_wp2_with (first | (go_at_call 73;refine HIT.out.mono ?_;rintro e' w1 ⟨o1,len1,cap1,rfl,hr1,hb1⟩) | fail)
 go_ret
 exact ⟨rfl,Below.next HBL.out hb1⟩
theorem zhm {_C:Dat->Bool} {x:Dat} {v:Value} {w:World} {B:Nat} (hv:RepD w B x v) (hB:B<=w.heap.size) (hsh:Dat.shaped x=true) (hal:Dat.all x<=100000) (hkd:x.kind≠2) (h4:(Sy.split x).2.kind=4) (hsp:(Sy.split x).1=[]):COut false v w:=by
 obtain ⟨k,n,d,s,o,len,cap,rfl⟩:=zae hv
 obtain ⟨W0,hW0⟩:∃W0,w.alloc (.cells #[.int .i64 k,.int .i64 n,.int .i64 d,.string s,.slice o len cap] 26)=W0:=⟨_,rfl⟩
 have hb:Box5 W0 w.heap.size 26 (.int .i64 k) (.int .i64 n) (.int .i64 d) (.string s) (.slice o len cap):=by rw[<-hW0];exact Box5.new w _ _ _ _ _ _
 have hbl:Below w.heap.size w W0:=by rw[<-hW0];exact Below.one _ _
 have HBL:=zh hbl
 have hkk:=zaE hv
 have hk2:(k==2)=false:=by rw[<-hkk];simp[hkd]
 have hit:=zbn (fun _=>False) x _ B W0 true (by simp[h4]) (fun _ h=>h.elim) ((hv.kept (hbl.mono hB)).dug (fun _ h=>h.elim)) (by have:=hbl.size;omega) hsh hal
 rw[hsp] at hit
 have HIT:=zh hit
 obtain ⟨i0,i1,i2,i3,i4⟩:=hb.cells
 have il:=hb.lt
 unfold COut
 clear hv hb hbl hkk hB hsh hal hkd hit h4 hsp
 go_enter func40,ntmps40
 go_wp2_with (first | (go_at_call 73;refine HIT.out.mono ?_;rintro e' w1 ⟨o1,len1,cap1,rfl,hr1,hb1⟩;obtain rfl:len1=0:=(zbd hr1).1;clear hr1) | fail)
 go_ret
 exact ⟨rfl,Below.next HBL.out hb1⟩
theorem zgT {C:Dat->Bool} {x:Dat} {h:Dat} {t:List Dat} {v:Value} {w:World} (hin:CIn x h (t) v w) (hh:h.kind≠2) (hC:∀y∈h::t,CoreAt C y):COut ((h::t).all C) v w:=by
 obtain ⟨k,n,d,s,o,len,cap,W0,rfl,hW0,⟨i0,i1,i2,i3,i4⟩,il,hk2,HBL,HIT⟩:=zaR hin
 obtain ⟨r,hr⟩:∃r,(h::t).all C=r:=⟨_,rfl⟩
 have HC:=zh (zaT hC hr)
 rw[hr]
 have HH:=zh hh
 unfold COut
 clear hin hh hC hr
 go_enter func40,ntmps40
 go_wp2_with (first | (go_at_call 73;refine HIT.out.mono ?_;rintro e' w1 ⟨bb,ob,len1,cap1,kh,nh,dh,sh,oh,lh,ch,rfl,hkh,hsn,⟨e0,e1,e2,e3,e4⟩,hl0,hz,HL1,HR1,HEL,HB1,HBW,HIS⟩;have hkq:(kh != 2)=true:=(by rw[<-hkh];exact bne_iff_ne.2 HH.out);clear hkh hsn) | (go_at_call 24;refine (HC.out _ _ HR1.out).mono ?_;rintro e' w2 ⟨rfl,hb2⟩) | fail)
 go_ret
 exact ⟨rfl,Below.next HB1.out hb2⟩
theorem zhs {C:Dat->Bool} {x:Dat} {h:Dat} {t:List Dat} {v:Value} {w:World} (hin:CIn x h (t) v w) (hh:h.kind=2) (jf:Sy.keyword h.s=false) (hC:∀y∈h::t,CoreAt C y):COut ((h::t).all C) v w:=by
 obtain ⟨k,n,d,s,o,len,cap,W0,rfl,hW0,⟨i0,i1,i2,i3,i4⟩,il,hk2,HBL,HIT⟩:=zaR hin
 obtain ⟨r,hr⟩:∃r,(h::t).all C=r:=⟨_,rfl⟩
 have HC:=zh (zaT hC hr)
 rw[hr]
 have HKY:=zh jf
 have HH:=zh hh
 unfold COut
 clear hin hh jf hC hr
 go_enter func40,ntmps40
 go_wp2_with (first | (go_at_call 73;refine HIT.out.mono ?_;rintro e' w1 ⟨bb,ob,len1,cap1,kh,nh,dh,sh,oh,lh,ch,rfl,hkh,hsn,⟨e0,e1,e2,e3,e4⟩,hl0,hz,HL1,HR1,HEL,HB1,HBW,HIS⟩;have hkq:(kh != 2)=false:=(by rw[<-hkh,HH.out];rfl);rw[hsn] at HKY;clear hkh hsn) | (go_at_call 20;refine (zap sh false HKY.out _).mono ?_;rintro e' wN ⟨rfl,rfl⟩) | (go_at_call 24;refine (HC.out _ _ HR1.out).mono ?_;rintro e' w2 ⟨rfl,hb2⟩) | fail)
 go_ret
 exact ⟨rfl,Below.next HB1.out hb2⟩
theorem zf8 {_C:Dat->Bool} {x:Dat} {h:Dat} {y:Dat} {v:Value} {w:World} (hin:CIn x h ([y]) v w) (hh:h.kind=2) (jf:Sy.keyword h.s=true) (hi0:Sy.isNm h ⟨#[113,117,111,116,101]⟩=true):COut true v w:=by
 obtain ⟨k,n,d,s,o,len,cap,W0,rfl,hW0,⟨i0,i1,i2,i3,i4⟩,il,hk2,HBL,HIT⟩:=zaR hin
 have HKY:=zh jf
 have HH:=zh hh
 unfold COut
 clear hin hh jf
 go_enter func40,ntmps40
 go_wp2_with (first | (go_at_call 73;refine HIT.out.mono ?_;rintro e' w1 ⟨bb,ob,len1,cap1,kh,nh,dh,sh,oh,lh,ch,rfl,hkh,hsn,⟨e0,e1,e2,e3,e4⟩,hl0,hz,HL1,HR1,HEL,HB1,HBW,HIS⟩;have hkq:(kh != 2)=false:=(by rw[<-hkh,HH.out];rfl);rw[hsn] at HKY;clear hkh hsn;have hn2:((len1:Int)==2)=true:=(by rw[HL1.out];rfl)) | (go_at_call 20;refine (zap sh true HKY.out _).mono ?_;rintro e' wN ⟨rfl,rfl⟩) | (go_at_call 74;(first | with_reducible refine (HIS.out _ _ _ hi0).mono ?_);rintro e' wN ⟨rfl,hbN⟩;have HBW:=zh (Below.next HBW.out hbN);obtain ⟨e0,e1,e2,e3,e4⟩:=HEL.out _ HBW.out;clear hbN) | fail)
 go_ret
 exact ⟨rfl,Below.next HB1.out HBW.out⟩
theorem zgw {_C:Dat->Bool} {x:Dat} {h:Dat} {t:List Dat} {v:Value} {w:World} (hin:CIn x h (t) v w) (hh:h.kind=2) (jf:Sy.keyword h.s=true) (hi0:Sy.isNm h ⟨#[113,117,111,116,101]⟩=true) (hn:t.length≠1):COut false v w:=by
 obtain ⟨k,n,d,s,o,len,cap,W0,rfl,hW0,⟨i0,i1,i2,i3,i4⟩,il,hk2,HBL,HIT⟩:=zaR hin
 have HN:=zh hn
 have HKY:=zh jf
 have HH:=zh hh
 unfold COut
 clear hin hh jf hn
 go_enter func40,ntmps40
 go_wp2_with (first | (go_at_call 73;refine HIT.out.mono ?_;rintro e' w1 ⟨bb,ob,len1,cap1,kh,nh,dh,sh,oh,lh,ch,rfl,hkh,hsn,⟨e0,e1,e2,e3,e4⟩,hl0,hz,HL1,HR1,HEL,HB1,HBW,HIS⟩;have hkq:(kh != 2)=false:=(by rw[<-hkh,HH.out];rfl);rw[hsn] at HKY;clear hkh hsn;have hn2:((len1:Int)==2)=false:=beq_eq_false_iff_ne.2 (by have:=HN.out;have:=HL1.out;rw[qzN] at this;omega)) | (go_at_call 20;refine (zap sh true HKY.out _).mono ?_;rintro e' wN ⟨rfl,rfl⟩) | (go_at_call 74;(first | with_reducible refine (HIS.out _ _ _ hi0).mono ?_);rintro e' wN ⟨rfl,hbN⟩;have HBW:=zh (Below.next HBW.out hbN);obtain ⟨e0,e1,e2,e3,e4⟩:=HEL.out _ HBW.out;clear hbN) | fail)
 go_ret
 exact ⟨rfl,Below.next HB1.out HBW.out⟩
theorem zha {_C:Dat->Bool} {x:Dat} {h:Dat} {t:List Dat} {v:Value} {w:World} (hin:CIn x h (t) v w) (hh:h.kind=2) (jf:Sy.keyword h.s=true) (hi0:Sy.isNm h ⟨#[113,117,111,116,101]⟩=false) (hi1:Sy.isNm h ⟨#[105,102]⟩=false) (hi2:Sy.isNm h ⟨#[98,101,103,105,110]⟩=false) (hi3:Sy.isNm h ⟨#[108,97,109,98,100,97]⟩=false) (hi4:Sy.isNm h ⟨#[115,101,116,33]⟩=false) (hi5:Sy.isNm h ⟨#[108,101,116,114,101,99]⟩=false) (hi6:Sy.isNm h ⟨#[108,101,116,114,101,99,42]⟩=false):COut false v w:=by
 obtain ⟨k,n,d,s,o,len,cap,W0,rfl,hW0,⟨i0,i1,i2,i3,i4⟩,il,hk2,HBL,HIT⟩:=zaR hin
 have HKY:=zh jf
 have HH:=zh hh
 unfold COut
 clear hin hh jf
 go_enter func40,ntmps40
 go_wp2_with (first | (go_at_call 73;refine HIT.out.mono ?_;rintro e' w1 ⟨bb,ob,len1,cap1,kh,nh,dh,sh,oh,lh,ch,rfl,hkh,hsn,⟨e0,e1,e2,e3,e4⟩,hl0,hz,HL1,HR1,HEL,HB1,HBW,HIS⟩;have hkq:(kh != 2)=false:=(by rw[<-hkh,HH.out];rfl);rw[hsn] at HKY;clear hkh hsn) | (go_at_call 20;refine (zap sh true HKY.out _).mono ?_;rintro e' wN ⟨rfl,rfl⟩) | (go_at_call 74;(first | with_reducible refine (HIS.out _ _ _ hi0).mono ?_ | with_reducible refine (HIS.out _ _ _ hi1).mono ?_ | with_reducible refine (HIS.out _ _ _ hi2).mono ?_ | with_reducible refine (HIS.out _ _ _ hi3).mono ?_ | with_reducible refine (HIS.out _ _ _ hi4).mono ?_ | with_reducible refine (HIS.out _ _ _ hi5).mono ?_ | with_reducible refine (HIS.out _ _ _ hi6).mono ?_);rintro e' wN ⟨rfl,hbN⟩;have HBW:=zh (Below.next HBW.out hbN);obtain ⟨e0,e1,e2,e3,e4⟩:=HEL.out _ HBW.out;clear hbN) | fail)
 go_ret
 exact ⟨rfl,Below.next HB1.out HBW.out⟩
theorem zj7 {C:Dat->Bool} {x:Dat} {h:Dat} {y z u:Dat} {v:Value} {w:World} (hin:CIn x h ([y,z,u]) v w) (hh:h.kind=2) (jf:Sy.keyword h.s=true) (hi0:Sy.isNm h ⟨#[113,117,111,116,101]⟩=false) (hi1:Sy.isNm h ⟨#[105,102]⟩=true) (hC:∀c∈[y,z,u],CoreAt C c):COut ([y,z,u].all C) v w:=by
 obtain ⟨k,n,d,s,o,len,cap,W0,rfl,hW0,⟨i0,i1,i2,i3,i4⟩,il,hk2,HBL,HIT⟩:=zaR hin
 obtain ⟨r,hr⟩:∃r,[y,z,u].all C=r:=⟨_,rfl⟩
 have HC:=zh (zaT hC hr)
 rw[hr]
 have HKY:=zh jf
 have HH:=zh hh
 unfold COut
 clear hin hh jf hC hr
 go_enter func40,ntmps40
 go_wp2_with (first | (go_at_call 73;refine HIT.out.mono ?_;rintro e' w1 ⟨bb,ob,len1,cap1,kh,nh,dh,sh,oh,lh,ch,rfl,hkh,hsn,⟨e0,e1,e2,e3,e4⟩,hl0,hz,HL1,HR1,HEL,HB1,HBW,HIS⟩;have hkq:(kh != 2)=false:=(by rw[<-hkh,HH.out];rfl);rw[hsn] at HKY;clear hkh hsn;have hn4:((len1:Int)==4)=true:=(by rw[HL1.out];rfl);obtain ⟨HR2,hcp,hc1,hc2⟩:=zbQ HR1.out 1 (ob+5) (by simp) rfl) | (go_at_call 20;refine (zap sh true HKY.out _).mono ?_;rintro e' wN ⟨rfl,rfl⟩) | (go_at_call 74;(first | with_reducible refine (HIS.out _ _ _ hi0).mono ?_ | with_reducible refine (HIS.out _ _ _ hi1).mono ?_);rintro e' wN ⟨rfl,hbN⟩;have HBW:=zh (Below.next HBW.out hbN);obtain ⟨e0,e1,e2,e3,e4⟩:=HEL.out _ HBW.out;clear hbN) | (go_at_call 24;refine (HC.out _ _ ((HR2.out.kept HBW.out).wider HBW.out.size)).mono ?_;rintro e' w2 ⟨rfl,hb2⟩) | fail)
 go_ret
 exact ⟨rfl,Below.next (Below.next HB1.out HBW.out) hb2⟩
theorem zjV {_C:Dat->Bool} {x:Dat} {h:Dat} {t:List Dat} {v:Value} {w:World} (hin:CIn x h (t) v w) (hh:h.kind=2) (jf:Sy.keyword h.s=true) (hi0:Sy.isNm h ⟨#[113,117,111,116,101]⟩=false) (hi1:Sy.isNm h ⟨#[105,102]⟩=true) (hn:t.length≠3):COut false v w:=by
 obtain ⟨k,n,d,s,o,len,cap,W0,rfl,hW0,⟨i0,i1,i2,i3,i4⟩,il,hk2,HBL,HIT⟩:=zaR hin
 have HN:=zh hn
 have HKY:=zh jf
 have HH:=zh hh
 unfold COut
 clear hin hh jf hn
 go_enter func40,ntmps40
 go_wp2_with (first | (go_at_call 73;refine HIT.out.mono ?_;rintro e' w1 ⟨bb,ob,len1,cap1,kh,nh,dh,sh,oh,lh,ch,rfl,hkh,hsn,⟨e0,e1,e2,e3,e4⟩,hl0,hz,HL1,HR1,HEL,HB1,HBW,HIS⟩;have hkq:(kh != 2)=false:=(by rw[<-hkh,HH.out];rfl);rw[hsn] at HKY;clear hkh hsn;have hn4:((len1:Int)==4)=false:=beq_eq_false_iff_ne.2 (by have:=HN.out;have:=HL1.out;rw[qzN] at this;omega)) | (go_at_call 20;refine (zap sh true HKY.out _).mono ?_;rintro e' wN ⟨rfl,rfl⟩) | (go_at_call 74;(first | with_reducible refine (HIS.out _ _ _ hi0).mono ?_ | with_reducible refine (HIS.out _ _ _ hi1).mono ?_);rintro e' wN ⟨rfl,hbN⟩;have HBW:=zh (Below.next HBW.out hbN);obtain ⟨e0,e1,e2,e3,e4⟩:=HEL.out _ HBW.out;clear hbN) | fail)
 all_goals (go_ret;exact ⟨rfl,Below.next HB1.out HBW.out⟩)
theorem zgL {C:Dat->Bool} {x:Dat} {h:Dat} {y:Dat} {t:List Dat} {v:Value} {w:World} (hin:CIn x h (y::t) v w) (hh:h.kind=2) (jf:Sy.keyword h.s=true) (hi0:Sy.isNm h ⟨#[113,117,111,116,101]⟩=false) (hi1:Sy.isNm h ⟨#[105,102]⟩=false) (hi2:Sy.isNm h ⟨#[98,101,103,105,110]⟩=true) (hC:∀c∈y::t,CoreAt C c):COut ((y::t).all C) v w:=by
 obtain ⟨k,n,d,s,o,len,cap,W0,rfl,hW0,⟨i0,i1,i2,i3,i4⟩,il,hk2,HBL,HIT⟩:=zaR hin
 obtain ⟨r,hr⟩:∃r,(y::t).all C=r:=⟨_,rfl⟩
 have HC:=zh (zaT hC hr)
 rw[hr]
 have HKY:=zh jf
 have HH:=zh hh
 unfold COut
 clear hin hh jf hC hr
 go_enter func40,ntmps40
 go_wp2_with (first | (go_at_call 73;refine HIT.out.mono ?_;rintro e' w1 ⟨bb,ob,len1,cap1,kh,nh,dh,sh,oh,lh,ch,rfl,hkh,hsn,⟨e0,e1,e2,e3,e4⟩,hl0,hz,HL1,HR1,HEL,HB1,HBW,HIS⟩;have hkq:(kh != 2)=false:=(by rw[<-hkh,HH.out];rfl);rw[hsn] at HKY;clear hkh hsn;have hn1:decide ((1:Int)<len1)=true:=decide_eq_true (by have:=HL1.out;simp only[qzN] at this;omega);obtain ⟨HR2,hcp,hc1,hc2⟩:=zbQ HR1.out 1 (ob+5) (by simp) rfl) | (go_at_call 20;refine (zap sh true HKY.out _).mono ?_;rintro e' wN ⟨rfl,rfl⟩) | (go_at_call 74;(first | with_reducible refine (HIS.out _ _ _ hi0).mono ?_ | with_reducible refine (HIS.out _ _ _ hi1).mono ?_ | with_reducible refine (HIS.out _ _ _ hi2).mono ?_);rintro e' wN ⟨rfl,hbN⟩;have HBW:=zh (Below.next HBW.out hbN);obtain ⟨e0,e1,e2,e3,e4⟩:=HEL.out _ HBW.out;clear hbN) | (go_at_call 24;refine (HC.out _ _ ((HR2.out.kept HBW.out).wider HBW.out.size)).mono ?_;rintro e' w2 ⟨rfl,hb2⟩) | fail)
 go_ret
 exact ⟨rfl,Below.next (Below.next HB1.out HBW.out) hb2⟩
theorem zgh {_C:Dat->Bool} {x:Dat} {h:Dat} {v:Value} {w:World} (hin:CIn x h ([]) v w) (hh:h.kind=2) (jf:Sy.keyword h.s=true) (hi0:Sy.isNm h ⟨#[113,117,111,116,101]⟩=false) (hi1:Sy.isNm h ⟨#[105,102]⟩=false) (hi2:Sy.isNm h ⟨#[98,101,103,105,110]⟩=true):COut false v w:=by
 obtain ⟨k,n,d,s,o,len,cap,W0,rfl,hW0,⟨i0,i1,i2,i3,i4⟩,il,hk2,HBL,HIT⟩:=zaR hin
 have HKY:=zh jf
 have HH:=zh hh
 unfold COut
 clear hin hh jf
 go_enter func40,ntmps40
 go_wp2_with (first | (go_at_call 73;refine HIT.out.mono ?_;rintro e' w1 ⟨bb,ob,len1,cap1,kh,nh,dh,sh,oh,lh,ch,rfl,hkh,hsn,⟨e0,e1,e2,e3,e4⟩,hl0,hz,HL1,HR1,HEL,HB1,HBW,HIS⟩;have hkq:(kh != 2)=false:=(by rw[<-hkh,HH.out];rfl);rw[hsn] at HKY;clear hkh hsn;have hn1:decide ((1:Int)<len1)=false:=decide_eq_false (by have:=HL1.out;simp only[qzN,qzO] at this;omega)) | (go_at_call 20;refine (zap sh true HKY.out _).mono ?_;rintro e' wN ⟨rfl,rfl⟩) | (go_at_call 74;(first | with_reducible refine (HIS.out _ _ _ hi0).mono ?_ | with_reducible refine (HIS.out _ _ _ hi1).mono ?_ | with_reducible refine (HIS.out _ _ _ hi2).mono ?_);rintro e' wN ⟨rfl,hbN⟩;have HBW:=zh (Below.next HBW.out hbN);obtain ⟨e0,e1,e2,e3,e4⟩:=HEL.out _ HBW.out;clear hbN) | fail)
 all_goals (go_ret;exact ⟨rfl,Below.next HB1.out HBW.out⟩)
theorem zgn {C:Dat->Bool} {x:Dat} {h:Dat} {f b:Dat} {v:Value} {w:World} (hin:CIn x h ([f,b]) v w) (hh:h.kind=2) (jf:Sy.keyword h.s=true) (hi0:Sy.isNm h ⟨#[113,117,111,116,101]⟩=false) (hi1:Sy.isNm h ⟨#[105,102]⟩=false) (hi2:Sy.isNm h ⟨#[98,101,103,105,110]⟩=false) (hi3:Sy.isNm h ⟨#[108,97,109,98,100,97]⟩=true) (hC:∀c∈[b],CoreAt C c) (hf:Dat.shaped f=true) (hfa:Dat.all f<=100000) (hfo:Sy.formals f=true):COut ([b].all C) v w:=by
 obtain ⟨k,n,d,s,o,len,cap,W0,rfl,hW0,⟨i0,i1,i2,i3,i4⟩,il,hk2,HBL,HIT⟩:=zaR hin
 obtain ⟨r,hr⟩:∃r,[b].all C=r:=⟨_,rfl⟩
 have HC:=zh (zaT hC hr)
 rw[hr]
 have HFO:=zh (show ∀(W:World) (v:Value),RepD W W.heap.size f v->Calls prog 75 #[v] W fun e w'=>e=.returned (.bool true)∧Below W.heap.size W w' from fun W v hv=>by rw[<-hfo];exact zch (fun _=>False) f v W.heap.size W (fun _ h=>h.elim) (hv.dug fun _ h=>h.elim) qzL hf hfa)
 have HKY:=zh jf
 have HH:=zh hh
 unfold COut
 clear hin hh jf hC hr hf hfa hfo
 go_enter func40,ntmps40
 go_wp2_with (first | (go_at_call 73;refine HIT.out.mono ?_;rintro e' w1 ⟨bb,ob,len1,cap1,kh,nh,dh,sh,oh,lh,ch,rfl,hkh,hsn,⟨e0,e1,e2,e3,e4⟩,hl0,hz,HL1,HR1,HEL,HB1,HBW,HIS⟩;have hkq:(kh != 2)=false:=(by rw[<-hkh,HH.out];rfl);rw[hsn] at HKY;clear hkh hsn;have hn3:((len1:Int)==3)=true:=(by rw[HL1.out];rfl);obtain ⟨kf,nf,df,sf,of,lf,cf,HE2⟩:=zaB HR1.out (j:=1) rfl (ob+5) (ob+6) (ob+7) (ob+8) (ob+9) rfl rfl rfl rfl rfl;obtain ⟨HR2,hcp,hc1,hc2⟩:=zbQ HR1.out 2 (ob+10) (by simp) rfl;have hm2:min (len1:Int) 2=2:=(by have:=HL1.out;simp only[qzN] at this;omega)) | (go_at_call 20;refine (zap sh true HKY.out _).mono ?_;rintro e' wN ⟨rfl,rfl⟩) | (go_at_call 74;(first | with_reducible refine (HIS.out _ _ _ hi0).mono ?_ | with_reducible refine (HIS.out _ _ _ hi1).mono ?_ | with_reducible refine (HIS.out _ _ _ hi2).mono ?_ | with_reducible refine (HIS.out _ _ _ hi3).mono ?_);rintro e' wN ⟨rfl,hbN⟩;have HBW:=zh (Below.next HBW.out hbN);obtain ⟨e0,e1,e2,e3,e4⟩:=HEL.out _ HBW.out;clear hbN;obtain ⟨f0,f1,f2,f3,f4,fr⟩:=HE2.out _ HBW.out) | (go_at_call 75;refine (HFO.out _ _ fr).mono ?_;rintro e' wN ⟨rfl,hbN⟩;have HBW:=zh (Below.next HBW.out hbN);clear hbN fr) | (go_at_call 24;refine (HC.out _ _ ((HR2.out.kept HBW.out).wider HBW.out.size)).mono ?_;rintro e' w2 ⟨rfl,hb2⟩) | fail)
 go_ret
 exact ⟨rfl,Below.next (Below.next HB1.out HBW.out) hb2⟩
theorem ze9 {_C:Dat->Bool} {x:Dat} {h:Dat} {f b:Dat} {v:Value} {w:World} (hin:CIn x h ([f,b]) v w) (hh:h.kind=2) (jf:Sy.keyword h.s=true) (hi0:Sy.isNm h ⟨#[113,117,111,116,101]⟩=false) (hi1:Sy.isNm h ⟨#[105,102]⟩=false) (hi2:Sy.isNm h ⟨#[98,101,103,105,110]⟩=false) (hi3:Sy.isNm h ⟨#[108,97,109,98,100,97]⟩=true) (hf:Dat.shaped f=true) (hfa:Dat.all f<=100000) (hfo:Sy.formals f=false):COut false v w:=by
 obtain ⟨k,n,d,s,o,len,cap,W0,rfl,hW0,⟨i0,i1,i2,i3,i4⟩,il,hk2,HBL,HIT⟩:=zaR hin
 have HFO:=zh (show ∀(W:World) (v:Value),RepD W W.heap.size f v->Calls prog 75 #[v] W fun e w'=>e=.returned (.bool false)∧Below W.heap.size W w' from fun W v hv=>by rw[<-hfo];exact zch (fun _=>False) f v W.heap.size W (fun _ h=>h.elim) (hv.dug fun _ h=>h.elim) qzL hf hfa)
 have HKY:=zh jf
 have HH:=zh hh
 unfold COut
 clear hin hh jf hf hfa hfo
 go_enter func40,ntmps40
 go_wp2_with (first | (go_at_call 73;refine HIT.out.mono ?_;rintro e' w1 ⟨bb,ob,len1,cap1,kh,nh,dh,sh,oh,lh,ch,rfl,hkh,hsn,⟨e0,e1,e2,e3,e4⟩,hl0,hz,HL1,HR1,HEL,HB1,HBW,HIS⟩;have hkq:(kh != 2)=false:=(by rw[<-hkh,HH.out];rfl);rw[hsn] at HKY;clear hkh hsn;have hn3:((len1:Int)==3)=true:=(by rw[HL1.out];rfl);obtain ⟨kf,nf,df,sf,of,lf,cf,HE2⟩:=zaB HR1.out (j:=1) rfl (ob+5) (ob+6) (ob+7) (ob+8) (ob+9) rfl rfl rfl rfl rfl;obtain ⟨HR2,hcp,hc1,hc2⟩:=zbQ HR1.out 2 (ob+10) (by simp) rfl;have hm2:min (len1:Int) 2=2:=(by have:=HL1.out;simp only[qzN] at this;omega)) | (go_at_call 20;refine (zap sh true HKY.out _).mono ?_;rintro e' wN ⟨rfl,rfl⟩) | (go_at_call 74;(first | with_reducible refine (HIS.out _ _ _ hi0).mono ?_ | with_reducible refine (HIS.out _ _ _ hi1).mono ?_ | with_reducible refine (HIS.out _ _ _ hi2).mono ?_ | with_reducible refine (HIS.out _ _ _ hi3).mono ?_);rintro e' wN ⟨rfl,hbN⟩;have HBW:=zh (Below.next HBW.out hbN);obtain ⟨e0,e1,e2,e3,e4⟩:=HEL.out _ HBW.out;clear hbN;obtain ⟨f0,f1,f2,f3,f4,fr⟩:=HE2.out _ HBW.out) | (go_at_call 75;refine (HFO.out _ _ fr).mono ?_;rintro e' wN ⟨rfl,hbN⟩;have HBW:=zh (Below.next HBW.out hbN);clear hbN fr) | fail)
 all_goals (go_ret;exact ⟨rfl,Below.next HB1.out HBW.out⟩)
theorem zjF {C:Dat->Bool} {x:Dat} {h:Dat} {f b:Dat} {v:Value} {w:World} (hin:CIn x h ([f,b]) v w) (hh:h.kind=2) (jf:Sy.keyword h.s=true) (hi0:Sy.isNm h ⟨#[113,117,111,116,101]⟩=false) (hi1:Sy.isNm h ⟨#[105,102]⟩=false) (hi2:Sy.isNm h ⟨#[98,101,103,105,110]⟩=false) (hi3:Sy.isNm h ⟨#[108,97,109,98,100,97]⟩=false) (hi4:Sy.isNm h ⟨#[115,101,116,33]⟩=true) (hC:∀c∈[b],CoreAt C c) (hfo:Sy.isVar f=true):COut ([b].all C) v w:=by
 obtain ⟨k,n,d,s,o,len,cap,W0,rfl,hW0,⟨i0,i1,i2,i3,i4⟩,il,hk2,HBL,HIT⟩:=zaR hin
 obtain ⟨r,hr⟩:∃r,[b].all C=r:=⟨_,rfl⟩
 have HC:=zh (zaT hC hr)
 rw[hr]
 have HFO:=zh (show ∀(W:World) (v:Value),RepD W W.heap.size f v->Calls prog 72 #[v] W fun e w'=>e=.returned (.bool true)∧Below W.heap.size W w' from fun W v hv=>by rw[<-hfo];exact zaP f v hv)
 have HKY:=zh jf
 have HH:=zh hh
 unfold COut
 clear hin hh jf hC hr hfo
 go_enter func40,ntmps40
 go_wp2_with (first | (go_at_call 73;refine HIT.out.mono ?_;rintro e' w1 ⟨bb,ob,len1,cap1,kh,nh,dh,sh,oh,lh,ch,rfl,hkh,hsn,⟨e0,e1,e2,e3,e4⟩,hl0,hz,HL1,HR1,HEL,HB1,HBW,HIS⟩;have hkq:(kh != 2)=false:=(by rw[<-hkh,HH.out];rfl);rw[hsn] at HKY;clear hkh hsn;have hn3:((len1:Int)==3)=true:=(by rw[HL1.out];rfl);obtain ⟨kf,nf,df,sf,of,lf,cf,HE2⟩:=zaB HR1.out (j:=1) rfl (ob+5) (ob+6) (ob+7) (ob+8) (ob+9) rfl rfl rfl rfl rfl;obtain ⟨HR2,hcp,hc1,hc2⟩:=zbQ HR1.out 2 (ob+10) (by simp) rfl;have hm2:min (len1:Int) 2=2:=(by have:=HL1.out;simp only[qzN] at this;omega)) | (go_at_call 20;refine (zap sh true HKY.out _).mono ?_;rintro e' wN ⟨rfl,rfl⟩) | (go_at_call 74;(first | with_reducible refine (HIS.out _ _ _ hi0).mono ?_ | with_reducible refine (HIS.out _ _ _ hi1).mono ?_ | with_reducible refine (HIS.out _ _ _ hi2).mono ?_ | with_reducible refine (HIS.out _ _ _ hi3).mono ?_ | with_reducible refine (HIS.out _ _ _ hi4).mono ?_);rintro e' wN ⟨rfl,hbN⟩;have HBW:=zh (Below.next HBW.out hbN);obtain ⟨e0,e1,e2,e3,e4⟩:=HEL.out _ HBW.out;clear hbN;obtain ⟨f0,f1,f2,f3,f4,fr⟩:=HE2.out _ HBW.out) | (go_at_call 72;refine (HFO.out _ _ fr).mono ?_;rintro e' wN ⟨rfl,hbN⟩;have HBW:=zh (Below.next HBW.out hbN);clear hbN fr) | (go_at_call 24;refine (HC.out _ _ ((HR2.out.kept HBW.out).wider HBW.out.size)).mono ?_;rintro e' w2 ⟨rfl,hb2⟩) | fail)
 go_ret
 exact ⟨rfl,Below.next (Below.next HB1.out HBW.out) hb2⟩
theorem zh6 {_C:Dat->Bool} {x:Dat} {h:Dat} {f b:Dat} {v:Value} {w:World} (hin:CIn x h ([f,b]) v w) (hh:h.kind=2) (jf:Sy.keyword h.s=true) (hi0:Sy.isNm h ⟨#[113,117,111,116,101]⟩=false) (hi1:Sy.isNm h ⟨#[105,102]⟩=false) (hi2:Sy.isNm h ⟨#[98,101,103,105,110]⟩=false) (hi3:Sy.isNm h ⟨#[108,97,109,98,100,97]⟩=false) (hi4:Sy.isNm h ⟨#[115,101,116,33]⟩=true) (hfo:Sy.isVar f=false):COut false v w:=by
 obtain ⟨k,n,d,s,o,len,cap,W0,rfl,hW0,⟨i0,i1,i2,i3,i4⟩,il,hk2,HBL,HIT⟩:=zaR hin
 have HFO:=zh (show ∀(W:World) (v:Value),RepD W W.heap.size f v->Calls prog 72 #[v] W fun e w'=>e=.returned (.bool false)∧Below W.heap.size W w' from fun W v hv=>by rw[<-hfo];exact zaP f v hv)
 have HKY:=zh jf
 have HH:=zh hh
 unfold COut
 clear hin hh jf hfo
 go_enter func40,ntmps40
 go_wp2_with (first | (go_at_call 73;refine HIT.out.mono ?_;rintro e' w1 ⟨bb,ob,len1,cap1,kh,nh,dh,sh,oh,lh,ch,rfl,hkh,hsn,⟨e0,e1,e2,e3,e4⟩,hl0,hz,HL1,HR1,HEL,HB1,HBW,HIS⟩;have hkq:(kh != 2)=false:=(by rw[<-hkh,HH.out];rfl);rw[hsn] at HKY;clear hkh hsn;have hn3:((len1:Int)==3)=true:=(by rw[HL1.out];rfl);obtain ⟨kf,nf,df,sf,of,lf,cf,HE2⟩:=zaB HR1.out (j:=1) rfl (ob+5) (ob+6) (ob+7) (ob+8) (ob+9) rfl rfl rfl rfl rfl;obtain ⟨HR2,hcp,hc1,hc2⟩:=zbQ HR1.out 2 (ob+10) (by simp) rfl;have hm2:min (len1:Int) 2=2:=(by have:=HL1.out;simp only[qzN] at this;omega)) | (go_at_call 20;refine (zap sh true HKY.out _).mono ?_;rintro e' wN ⟨rfl,rfl⟩) | (go_at_call 74;(first | with_reducible refine (HIS.out _ _ _ hi0).mono ?_ | with_reducible refine (HIS.out _ _ _ hi1).mono ?_ | with_reducible refine (HIS.out _ _ _ hi2).mono ?_ | with_reducible refine (HIS.out _ _ _ hi3).mono ?_ | with_reducible refine (HIS.out _ _ _ hi4).mono ?_);rintro e' wN ⟨rfl,hbN⟩;have HBW:=zh (Below.next HBW.out hbN);obtain ⟨e0,e1,e2,e3,e4⟩:=HEL.out _ HBW.out;clear hbN;obtain ⟨f0,f1,f2,f3,f4,fr⟩:=HE2.out _ HBW.out) | (go_at_call 72;refine (HFO.out _ _ fr).mono ?_;rintro e' wN ⟨rfl,hbN⟩;have HBW:=zh (Below.next HBW.out hbN);clear hbN fr) | fail)
 all_goals (go_ret;exact ⟨rfl,Below.next HB1.out HBW.out⟩)
theorem ze4 {_C:Dat->Bool} {x:Dat} {h:Dat} {v:Value} {w:World} (hin:CIn x h ([]) v w) (hh:h.kind=2) (jf:Sy.keyword h.s=true) (hi0:Sy.isNm h ⟨#[113,117,111,116,101]⟩=false) (hi1:Sy.isNm h ⟨#[105,102]⟩=false) (hi2:Sy.isNm h ⟨#[98,101,103,105,110]⟩=false) (hi3:Sy.isNm h ⟨#[108,97,109,98,100,97]⟩=true):COut false v w:=by
 obtain ⟨k,n,d,s,o,len,cap,W0,rfl,hW0,⟨i0,i1,i2,i3,i4⟩,il,hk2,HBL,HIT⟩:=zaR hin
 have HKY:=zh jf
 have HH:=zh hh
 unfold COut
 clear hin hh jf
 go_enter func40,ntmps40
 go_wp2_with (first | (go_at_call 73;refine HIT.out.mono ?_;rintro e' w1 ⟨bb,ob,len1,cap1,kh,nh,dh,sh,oh,lh,ch,rfl,hkh,hsn,⟨e0,e1,e2,e3,e4⟩,hl0,hz,HL1,HR1,HEL,HB1,HBW,HIS⟩;have hkq:(kh != 2)=false:=(by rw[<-hkh,HH.out];rfl);rw[hsn] at HKY;clear hkh hsn;have hn3:((len1:Int)==3)=false:=(by rw[HL1.out];rfl);have hm2:min (len1:Int) 2=1:=(by rw[HL1.out];rfl)) | (go_at_call 20;refine (zap sh true HKY.out _).mono ?_;rintro e' wN ⟨rfl,rfl⟩) | (go_at_call 74;(first | with_reducible refine (HIS.out _ _ _ hi0).mono ?_ | with_reducible refine (HIS.out _ _ _ hi1).mono ?_ | with_reducible refine (HIS.out _ _ _ hi2).mono ?_ | with_reducible refine (HIS.out _ _ _ hi3).mono ?_);rintro e' wN ⟨rfl,hbN⟩;have HBW:=zh (Below.next HBW.out hbN);obtain ⟨e0,e1,e2,e3,e4⟩:=HEL.out _ HBW.out;clear hbN) | fail)
 all_goals (go_ret;exact ⟨rfl,Below.next HB1.out HBW.out⟩)
theorem zfa {_C:Dat->Bool} {x:Dat} {h:Dat} {y:Dat} {t:List Dat} {v:Value} {w:World} (hin:CIn x h (y::t) v w) (hh:h.kind=2) (jf:Sy.keyword h.s=true) (hi0:Sy.isNm h ⟨#[113,117,111,116,101]⟩=false) (hi1:Sy.isNm h ⟨#[105,102]⟩=false) (hi2:Sy.isNm h ⟨#[98,101,103,105,110]⟩=false) (hi3:Sy.isNm h ⟨#[108,97,109,98,100,97]⟩=true) (hn:(y::t).length≠2):COut false v w:=by
 obtain ⟨k,n,d,s,o,len,cap,W0,rfl,hW0,⟨i0,i1,i2,i3,i4⟩,il,hk2,HBL,HIT⟩:=zaR hin
 have HN:=zh hn
 have HKY:=zh jf
 have HH:=zh hh
 unfold COut
 clear hin hh jf hn
 go_enter func40,ntmps40
 go_wp2_with (first | (go_at_call 73;refine HIT.out.mono ?_;rintro e' w1 ⟨bb,ob,len1,cap1,kh,nh,dh,sh,oh,lh,ch,rfl,hkh,hsn,⟨e0,e1,e2,e3,e4⟩,hl0,hz,HL1,HR1,HEL,HB1,HBW,HIS⟩;have hkq:(kh != 2)=false:=(by rw[<-hkh,HH.out];rfl);rw[hsn] at HKY;clear hkh hsn;have hn3:((len1:Int)==3)=false:=beq_eq_false_iff_ne.2 (by have:=HN.out;have:=HL1.out;simp only[qzN] at *;omega);have hm2:min (len1:Int) 2=2:=(by have:=HL1.out;simp only[qzN] at this;omega);have hcl:=(zbd HR1.out).2;have hl2:2<=len1:=(by have:=HL1.out;simp only[qzN] at this;omega)) | (go_at_call 20;refine (zap sh true HKY.out _).mono ?_;rintro e' wN ⟨rfl,rfl⟩) | (go_at_call 74;(first | with_reducible refine (HIS.out _ _ _ hi0).mono ?_ | with_reducible refine (HIS.out _ _ _ hi1).mono ?_ | with_reducible refine (HIS.out _ _ _ hi2).mono ?_ | with_reducible refine (HIS.out _ _ _ hi3).mono ?_);rintro e' wN ⟨rfl,hbN⟩;have HBW:=zh (Below.next HBW.out hbN);obtain ⟨e0,e1,e2,e3,e4⟩:=HEL.out _ HBW.out;clear hbN) | fail)
 all_goals (go_ret;exact ⟨rfl,Below.next HB1.out HBW.out⟩)
theorem zif {_C:Dat->Bool} {x:Dat} {h:Dat} {v:Value} {w:World} (hin:CIn x h ([]) v w) (hh:h.kind=2) (jf:Sy.keyword h.s=true) (hi0:Sy.isNm h ⟨#[113,117,111,116,101]⟩=false) (hi1:Sy.isNm h ⟨#[105,102]⟩=false) (hi2:Sy.isNm h ⟨#[98,101,103,105,110]⟩=false) (hi3:Sy.isNm h ⟨#[108,97,109,98,100,97]⟩=false) (hi4:Sy.isNm h ⟨#[115,101,116,33]⟩=true):COut false v w:=by
 obtain ⟨k,n,d,s,o,len,cap,W0,rfl,hW0,⟨i0,i1,i2,i3,i4⟩,il,hk2,HBL,HIT⟩:=zaR hin
 have HKY:=zh jf
 have HH:=zh hh
 unfold COut
 clear hin hh jf
 go_enter func40,ntmps40
 go_wp2_with (first | (go_at_call 73;refine HIT.out.mono ?_;rintro e' w1 ⟨bb,ob,len1,cap1,kh,nh,dh,sh,oh,lh,ch,rfl,hkh,hsn,⟨e0,e1,e2,e3,e4⟩,hl0,hz,HL1,HR1,HEL,HB1,HBW,HIS⟩;have hkq:(kh != 2)=false:=(by rw[<-hkh,HH.out];rfl);rw[hsn] at HKY;clear hkh hsn;have hn3:((len1:Int)==3)=false:=(by rw[HL1.out];rfl);have hm2:min (len1:Int) 2=1:=(by rw[HL1.out];rfl)) | (go_at_call 20;refine (zap sh true HKY.out _).mono ?_;rintro e' wN ⟨rfl,rfl⟩) | (go_at_call 74;(first | with_reducible refine (HIS.out _ _ _ hi0).mono ?_ | with_reducible refine (HIS.out _ _ _ hi1).mono ?_ | with_reducible refine (HIS.out _ _ _ hi2).mono ?_ | with_reducible refine (HIS.out _ _ _ hi3).mono ?_ | with_reducible refine (HIS.out _ _ _ hi4).mono ?_);rintro e' wN ⟨rfl,hbN⟩;have HBW:=zh (Below.next HBW.out hbN);obtain ⟨e0,e1,e2,e3,e4⟩:=HEL.out _ HBW.out;clear hbN) | fail)
 all_goals (go_ret;exact ⟨rfl,Below.next HB1.out HBW.out⟩)
theorem zh3 {_C:Dat->Bool} {x:Dat} {h:Dat} {y:Dat} {t:List Dat} {v:Value} {w:World} (hin:CIn x h (y::t) v w) (hh:h.kind=2) (jf:Sy.keyword h.s=true) (hi0:Sy.isNm h ⟨#[113,117,111,116,101]⟩=false) (hi1:Sy.isNm h ⟨#[105,102]⟩=false) (hi2:Sy.isNm h ⟨#[98,101,103,105,110]⟩=false) (hi3:Sy.isNm h ⟨#[108,97,109,98,100,97]⟩=false) (hi4:Sy.isNm h ⟨#[115,101,116,33]⟩=true) (hn:(y::t).length≠2):COut false v w:=by
 obtain ⟨k,n,d,s,o,len,cap,W0,rfl,hW0,⟨i0,i1,i2,i3,i4⟩,il,hk2,HBL,HIT⟩:=zaR hin
 have HN:=zh hn
 have HKY:=zh jf
 have HH:=zh hh
 unfold COut
 clear hin hh jf hn
 go_enter func40,ntmps40
 go_wp2_with (first | (go_at_call 73;refine HIT.out.mono ?_;rintro e' w1 ⟨bb,ob,len1,cap1,kh,nh,dh,sh,oh,lh,ch,rfl,hkh,hsn,⟨e0,e1,e2,e3,e4⟩,hl0,hz,HL1,HR1,HEL,HB1,HBW,HIS⟩;have hkq:(kh != 2)=false:=(by rw[<-hkh,HH.out];rfl);rw[hsn] at HKY;clear hkh hsn;have hn3:((len1:Int)==3)=false:=beq_eq_false_iff_ne.2 (by have:=HN.out;have:=HL1.out;simp only[qzN] at *;omega);have hm2:min (len1:Int) 2=2:=(by have:=HL1.out;simp only[qzN] at this;omega);have hcl:=(zbd HR1.out).2;have hl2:2<=len1:=(by have:=HL1.out;simp only[qzN] at this;omega)) | (go_at_call 20;refine (zap sh true HKY.out _).mono ?_;rintro e' wN ⟨rfl,rfl⟩) | (go_at_call 74;(first | with_reducible refine (HIS.out _ _ _ hi0).mono ?_ | with_reducible refine (HIS.out _ _ _ hi1).mono ?_ | with_reducible refine (HIS.out _ _ _ hi2).mono ?_ | with_reducible refine (HIS.out _ _ _ hi3).mono ?_ | with_reducible refine (HIS.out _ _ _ hi4).mono ?_);rintro e' wN ⟨rfl,hbN⟩;have HBW:=zh (Below.next HBW.out hbN);obtain ⟨e0,e1,e2,e3,e4⟩:=HEL.out _ HBW.out;clear hbN) | fail)
 all_goals (go_ret;exact ⟨rfl,Below.next HB1.out HBW.out⟩)
end
section
open Go Go.RowKit
theorem zdn (x:Dat) (v:Value) (B:Nat) (w:World) (hv:RepD w B x v) (hB:B<=w.heap.size) :
  Calls prog 25 #[v] w fun e w'=>e=.returned (.bool (!Dat.right x 0 || Dat.marked x))∧Below w.heap.size w w':=by
 obtain ⟨k,n,d,s,o,len,cap,rfl⟩:=zae hv
 obtain ⟨W0,hW0⟩:∃W0,w.alloc (.cells #[.int .i64 k,.int .i64 n,.int .i64 d,.string s,.slice o len cap] 26)=W0:=⟨_,rfl⟩
 have hb:Box5 W0 w.heap.size 26 (.int .i64 k) (.int .i64 n) (.int .i64 d) (.string s) (.slice o len cap):=by rw[<-hW0];exact Box5.new w _ _ _ _ _ _
 have hbl:Below w.heap.size w W0:=by rw[<-hW0];exact Below.one _ _
 have HBL:=zh hbl
 have hrt:=zcl x _ B W0 (hv.kept (hbl.mono hB)) (by have:=hbl.size;omega)
 have hmk:=fun W (hW:Below W0.heap.size W0 W)=>zgF x _ B W (hv.kept ((hbl.mono hB).trans (hW.mono (by have:=hbl.size;omega)))) (by have:=hbl.size;have:=hW.size;omega)
 have hkeep:∀W,Below W0.heap.size W0 W->Box5 W w.heap.size 26 (.int .i64 k) (.int .i64 n) (.int .i64 d) (.string s) (.slice o len cap):=fun W hW=>(hW.block _ hb.lt).trans hb
 have HKP:=zh hkeep
 obtain ⟨i0,i1,i2,i3,i4⟩:=hb.cells
 have il:=hb.lt
 have HRT:=zh hrt
 have HMK:=zh hmk
 clear hv hb hbl hrt hmk hkeep hB
 cases hr:Dat.right x 0 with
 | false=>
  rw[hr] at HRT
  clear hr HMK
  go_enter func25,ntmps25
  go_wp2_with (first | (go_at_call 26;refine HRT.out.mono ?_;rintro e' w1 ⟨rfl,hb1⟩))
  go_ret
  exact ⟨rfl,Below.next HBL.out hb1⟩
 | true=>
  rw[hr] at HRT
  clear hr
  simp only[Bool.not_true,Bool.false_or]
  generalize Dat.marked x=r at HMK ⊢
  go_enter func25,ntmps25
  go_wp2_with (first | (go_at_call 26;refine HRT.out.mono ?_;rintro e' w1 ⟨rfl,hb1⟩;have hk1:=HKP.out w1 hb1;obtain ⟨j0,j1,j2,j3,j4⟩:=hk1.cells;have jl:=hk1.lt;have HM1:=zh (HMK.out w1 hb1);have HB1:=zh hb1;clear hk1 hb1) | (go_at_call 27;refine HM1.out.mono ?_;rintro e' w2 ⟨rfl,hb2⟩))
  go_ret
  exact ⟨rfl,Below.next (Below.next HBL.out HB1.out) hb2⟩
theorem zcv (bo be:Nat) (c0 c1 c2 c3 c4:Value) (ei:Int) (w:World) (h0:BoxL w bo 26 [c0,c1,c2,c3,c4]) (h2:BoxL w be 27 [.int .i64 ei]) :
  CallsD prog 28 #[.pointer (some ⟨bo,0,none⟩),.pointer (some ⟨be,0,none⟩)] (.panicking badE) w fun e u' w'=>
   e=.returned (.tuple #[])∧u'=.panicking [{ v:=.iface 42 (.agg #[]),recovered:=true }]∧BoxL w' bo 26 [.int .i64 0,.int .i64 0,.int .i64 0,.string ⟨#[]⟩,.slice none 0 0]∧BoxL w' be 27 [.int .i64 3]∧Turned (fun c=>c=bo∨c=be) w w':=by
 refine callsD_of_wpS func28 rfl fun c₀ cs hu=>?_
 have c0':=h0.cell 0 rfl
 have c1':=h0.cell 1 rfl
 have c2':=h0.cell 2 rfl
 have c3':=h0.cell 3 rfl
 have c4':=h0.cell 4 rfl
 have e0:=h2.cell 0 rfl
 have z0:=h0.free 0
 have z1:=h0.free 1
 have z2:=h0.free 2
 have z3:=h0.free 3
 have z4:=h0.free 4
 have y0:=h2.free 0
 have l0:=h0.lt
 have l2:=h2.lt
 have n2:bo≠be:=fun e=>by
  subst e
  have:=Option.some.inj ((show w.heap[_]?=_ from h0).symm.trans h2)
  simp only[Obj.cells.injEq] at this
  exact absurd this.2.1 (by decide)
 apply wpS_seq
 apply wpS_region
 simp only[go_sem,ntmps28]
 simp[wpOpsS,go_sem,recoverD,hu,Exit.thenS]
 refine wpS_of_wp ?_
 simp only[Array.replicate_succ,Array.replicate_zero,List.push_toArray,List.nil_append,List.cons_append,List.setIfInBounds_toArray,List.set_cons_zero,List.set_cons_succ,List.append_toArray]
 obtain ⟨Q',hQ⟩:∃Q':Exit->Act->World->Prop,Q'=(fun e a' w'=>e=.normal∧a'.defers=[]∧BoxL w' bo 26 [.int .i64 0,.int .i64 0,.int .i64 0,.string ⟨#[]⟩,.slice none 0 0]∧BoxL w' be 27 [.int .i64 3]∧Turned (fun c=>c=bo∨c=be) w w'):=⟨_,rfl⟩
 refine Code.wp_mono (Q:=Q') ?_ ?_
 ·subst hQ
  rintro e a' w' ⟨rfl,hd,h3,h4,h5⟩
  exact ⟨hd,_,rfl,.tuple #[],by simp[results,results28],rfl,rfl,h3,h4,h5⟩
 have hta:∀w,(Instr.typeAssert (.iface 42 (.agg #[])) 20 42 true).run prog w=.ok (.tuple #[.agg #[],.bool true]) w:=fun _=>rfl
 go_wp2_with fail
 rw[hQ]
 refine ⟨rfl,rfl,?_,?_,?_⟩
 ·exact ((((((h0.set 0 (.int .i64 0)).set 1 (.int .i64 0)).set 2 (.int .i64 0)).set 3 (.string ⟨#[]⟩)).set 4 (.slice none 0 0)).other ⟨be,0,none⟩ (.int .i64 3) n2).alloc _
 ·exact ((((((h2.other ⟨bo,0,none⟩ (.int .i64 0) (Ne.symm n2)).other ⟨bo,1,none⟩ (.int .i64 0) (Ne.symm n2)).other ⟨bo,2,none⟩ (.int .i64 0) (Ne.symm n2)).other ⟨bo,3,none⟩ (.string ⟨#[]⟩) (Ne.symm n2)).other ⟨bo,4,none⟩ (.slice none 0 0) (Ne.symm n2)).set 0 (.int .i64 3)).alloc _
 ·exact ((((((Turned.set (S:=fun c=>c=bo∨c=be) _ _ _ (.inl rfl)).next (Turned.set _ _ _ (.inl rfl))).next (Turned.set _ _ _ (.inl rfl))).next (Turned.set _ _ _ (.inl rfl))).next (Turned.set _ _ _ (.inl rfl))).next (Turned.set _ _ _ (.inr rfl))).next (Turned.of_below (Below.one _ _))
theorem zfq (bo be:Nat) (w:World) :
  CallsD prog 28 #[.pointer (some ⟨bo,0,none⟩),.pointer (some ⟨be,0,none⟩)] .returning w fun e u' w'=>e=.returned (.tuple #[])∧u'=.returning∧w'=w:=by
 refine callsD_of_wpS func28 rfl fun c₀ cs hu=>?_
 apply wpS_seq
 apply wpS_region
 simp[wpOpsS,go_sem,recoverD,hu,Exit.thenS,ntmps28]
 refine wpS_of_wp ?_
 simp only[Array.replicate_succ,Array.replicate_zero,List.push_toArray,List.nil_append,List.cons_append,List.setIfInBounds_toArray,List.set_cons_zero,List.set_cons_succ,List.append_toArray]
 obtain ⟨Q',hQ⟩:∃Q':Exit->Act->World->Prop,Q'=(fun e a' w'=>e=.normal∧a'.defers=[]∧w'=w):=⟨_,rfl⟩
 refine Code.wp_mono (Q:=Q') ?_ ?_
 ·subst hQ
  rintro e a' w' ⟨rfl,hd,rfl⟩
  cases c₀
  simp_all [bodyPostS,results,results28]
 go_wp2_with fail
 rw[hQ]
 exact ⟨rfl,rfl,rfl⟩
end
section
open Go Go.RowKit
theorem zbJ {C:Dat->Bool} {L:List Dat} {i k:Nat} {y:Dat} (hk:k<=i) (hy:L[i]?=some y):((L.take (i+1)).drop k).all C=(((L.take i).drop k).all C&&C y):=by
 have hi:=(List.getElem?_eq_some_iff.1 hy).1
 rw[List.take_add_one,hy,Option.toList_some,List.drop_append_of_le_length (by rw[List.length_take];omega),List.all_append]
 simp
theorem zdj {C:Dat->Bool} {L:List Dat} {i k:Nat} (h:((L.take i).drop k).all C=false):(L.drop k).all C=false:=by
 rw[List.all_eq_false] at h ⊢
 obtain ⟨y,hy,hc⟩:=h
 refine ⟨y,?_,hc⟩
 rw[List.drop_take] at hy
 exact List.mem_of_mem_take hy
theorem zb9 {C:Dat->Bool} {L:List Dat} {i k:Nat} (hi:¬i<L.length) (h:((L.take i).drop k).all C=true):(L.drop k).all C=true:=by
 rwa[List.take_of_length_le (by omega)] at h
theorem zbH {L:List Dat} {i k:Nat} {y:Dat} (hk:k<=i) (hy:L[i]?=some y):y∈L.drop k:=by
 rw[List.mem_iff_getElem?]
 exact ⟨i-k,by rw[List.getElem?_drop,show k+(i-k)=i by omega,hy]⟩
theorem zcB {s c:ByteArray} {l:List UInt8} (h:s≠c) (hc:c.data.toList=l):(s.toList==l)=false:=by
 rw[beq_eq_false_iff_ne,<-hc,ByteArray.toList_eq]
 exact fun e=>h (by rw[<-Dat.of_toList s,e,Dat.of_toList])
theorem zeC {x:Dat} (hb:Sy.binds x=none) (hsh:Dat.shaped x=true) (hal:Dat.all x<=100000) (W:World) (v:Value) (hv:RepD W W.heap.size x v) :
  Calls prog 79 #[v] W fun e w'=>∃(ln lv:List Dat) (vn:Value) (o:Option Addr) (len cap:Nat),e=.returned (.tuple #[vn,.slice o len cap,.bool false])∧GrownS w' (SR (fun _=>False) (.slice o len cap)) W.heap.size ln vn∧GrownS w' (SR (fun _=>False) vn) W.heap.size lv (.slice o len cap)∧Below W.heap.size W w'∧lv.length<=100000:=by
 refine (zcI (fun _=>False) x v W.heap.size W (fun _ h=>h.elim) (hv.dug fun _ h=>h.elim) qzL hsh hal).mono ?_
 rintro e w' ⟨ln,lv,vn,vv,ok,rfl,h1,h2,h3,h4,h5,h6⟩
 obtain ⟨o,len,cap,rfl, -, -⟩:=h2.form
 obtain rfl:ok=false:=by
  cases ok with
  | false=>rfl
  | true=>have:=h4 rfl;rw[hb] at this;cases this
 exact ⟨ln,lv,vn,o,len,cap,rfl,h1,h2,h3,h6⟩
theorem zcq {x:Dat} {ns vs:List Dat} (hb:Sy.binds x=some (ns,vs)) (hsh:Dat.shaped x=true) (hal:Dat.all x<=100000) (W:World) (v:Value) (hv:RepD W W.heap.size x v) :
  Calls prog 79 #[v] W fun e w'=>∃(vn:Value) (o:Option Addr) (len cap:Nat),e=.returned (.tuple #[vn,.slice o len cap,.bool true])∧GrownS w' (SR (fun _=>False) (.slice o len cap)) W.heap.size ns vn∧GrownS w' (SR (fun _=>False) vn) W.heap.size vs (.slice o len cap)∧Below W.heap.size W w'∧vs.length<=100000:=by
 refine (zcI (fun _=>False) x v W.heap.size W (fun _ h=>h.elim) (hv.dug fun _ h=>h.elim) qzL hsh hal).mono ?_
 rintro e w' ⟨ln,lv,vn,vv,ok,rfl,h1,h2,h3,h4,h5,h6⟩
 obtain ⟨o,len,cap,rfl, -, -⟩:=h2.form
 obtain rfl:ok=true:=by
  cases ok with
  | true=>rfl
  | false=>have:=h5 rfl;rw[hb] at this;cases this
 have h7:=h4 rfl
 rw[hb] at h7
 simp only[Option.some.injEq,Prod.mk.injEq] at h7
 obtain ⟨rfl,rfl⟩:=h7
 exact ⟨vn,o,len,cap,rfl,h1,h2,h3,h6⟩
def RCoreAt (C:Dat->Bool) (y:Dat):Prop:=∀(v:Value) (B:Nat) (w:World),RepD w B y v->B<=w.heap.size->Calls prog 41 #[v] w fun e w'=>e=.returned (.bool (C y))∧Below w.heap.size w w'
def ROut (r:Bool) (v:Value) (w:World):Prop:=Calls prog 41 #[v] w fun e w'=>e=.returned (.bool r)∧Below w.heap.size w w'
theorem zaG {x h:Dat} {t:List Dat} {v:Value} {w:World} (hin:CIn x h t v w):∃k n d s o len cap W0,v=.agg #[.int .i64 k,.int .i64 n,.int .i64 d,.string s,.slice o len cap]∧w.alloc (.cells #[.int .i64 k,.int .i64 n,.int .i64 d,.string s,.slice o len cap] 26)=W0 ∧
  (W0.cell? ⟨w.heap.size,0,none⟩=some (.int .i64 k)∧W0.cell? ⟨w.heap.size,1,none⟩=some (.int .i64 n)∧W0.cell? ⟨w.heap.size,2,none⟩=some (.int .i64 d)∧W0.cell? ⟨w.heap.size,3,none⟩=some (.string s)∧W0.cell? ⟨w.heap.size,4,none⟩=some (.slice o len cap))∧w.heap.size<W0.heap.size∧(k==2)=false∧Hid (Below w.heap.size w W0) ∧
  Hid (Calls prog 55 #[.agg #[.int .i64 k,.int .i64 n,.int .i64 d,.string s,.slice o len cap]] W0 fun e w1=>∃bb ob len1 cap1 kh nh dh sh oh lh ch,e=.returned (.tuple #[.slice (some ⟨bb,ob,none⟩) len1 cap1,.bool true])∧h.kind=kh∧h.s=sh ∧
   (w1.cell? ⟨bb,ob,none⟩=some (.int .i64 kh)∧w1.cell? ⟨bb,ob+1,none⟩=some (.int .i64 nh)∧w1.cell? ⟨bb,ob+2,none⟩=some (.int .i64 dh)∧w1.cell? ⟨bb,ob+3,none⟩=some (.string sh)∧w1.cell? ⟨bb,ob+4,none⟩=some (.slice oh lh ch))∧0<len1∧((len1:Int)==0)=false∧Hid (len1=(h::t).length) ∧
   Hid (RepS w1 w1.heap.size (h::t) (.slice (some ⟨bb,ob,none⟩) len1 cap1))∧Hid (Below w.heap.size w w1)∧len1<=100000):=by
 obtain ⟨⟨B,hv,hB⟩,hsh,hal,hkd,h4,hsp⟩:=hin
 obtain ⟨k,n,d,s,o,len,cap,rfl⟩:=zae hv
 obtain ⟨W0,hW0⟩:∃W0,w.alloc (.cells #[.int .i64 k,.int .i64 n,.int .i64 d,.string s,.slice o len cap] 26)=W0:=⟨_,rfl⟩
 have hb:Box5 W0 w.heap.size 26 (.int .i64 k) (.int .i64 n) (.int .i64 d) (.string s) (.slice o len cap):=by rw[<-hW0];exact Box5.new w _ _ _ _ _ _
 have hbl:Below w.heap.size w W0:=by rw[<-hW0];exact Below.one _ _
 have hit:=ritemsG (fun _=>False) x _ B W0 true (by simp[h4]) (fun _ h=>h.elim) ((hv.kept (hbl.mono hB)).dug (fun _ h=>h.elim)) (by have:=hbl.size;omega) hsh hal
 rw[hsp] at hit
 refine ⟨k,n,d,s,o,len,cap,W0,rfl,hW0,hb.cells,hb.lt,by rw[<-zaE hv];simp[hkd],zh hbl,zh (hit.mono ?_)⟩
 rintro e w1 ⟨o1,len1,cap1,rfl,hg1,hl1,hb1⟩
 have hr1:=hg1.rep.unhide
 obtain ⟨bb,ob,kh,nh,dh,sh,oh,lh,ch,rfl,hkh,hsn,hbb,hel⟩:=zbm hr1 qzL (show (h::t)[0]?=some h from rfl)
 simp only[Nat.zero_mul,Nat.add_zero] at hel
 have hl0:0<len1:=by rw[hl1];exact Nat.succ_pos _
 obtain ⟨a0,a1,a2,a3,a4, -⟩:=hel w1 qzB
 exact ⟨bb,ob,len1,cap1,kh,nh,dh,sh,oh,lh,ch,rfl,hkh,hsn,⟨a0,a1,a2,a3,a4⟩,hl0,beq_eq_false_iff_ne.2 (by omega),zh hl1,zh hr1,zh (Below.next hbl hb1),by have:=zaY x;rw[hsp] at this;omega⟩
theorem zjL {_C:Dat->Bool} {x:Dat} {v:Value} {w:World} {B:Nat} (hv:RepD w B x v) (_hB:B<=w.heap.size) (hsh:Dat.shaped x=true) (hal:Dat.all x<=100000) (hkd:x.kind=2):ROut (Sy.isVar x) v w:=by
 obtain ⟨k,n,d,s,o,len,cap,rfl⟩:=zae hv
 obtain ⟨W0,hW0⟩:∃W0,w.alloc (.cells #[.int .i64 k,.int .i64 n,.int .i64 d,.string s,.slice o len cap] 26)=W0:=⟨_,rfl⟩
 have hb:Box5 W0 w.heap.size 26 (.int .i64 k) (.int .i64 n) (.int .i64 d) (.string s) (.slice o len cap):=by rw[<-hW0];exact Box5.new w _ _ _ _ _ _
 have hbl:Below w.heap.size w W0:=by rw[<-hW0];exact Below.one _ _
 have HBL:=zh hbl
 have hkk:=zaE hv
 have hk2:(k==2)=true:=by rw[<-hkk];simp[hkd]
 obtain ⟨r,hr⟩:∃r,Sy.keyword s=r:=⟨_,rfl⟩
 have HV:=zh (fun W=>zao s r hr W)
 have hiv:Sy.isVar x = !r:=by
  obtain ⟨k',n',d',s',l'⟩:=x
  obtain ⟨sl,he,_⟩:=hv.open
  simp only[Value.agg.injEq,Array.mk.injEq,List.cons.injEq,and_true,Value.int.injEq,true_and,Value.string.injEq] at he
  obtain ⟨rfl,rfl,rfl,rfl,_⟩:=he
  unfold Sy.isVar
  rw[show (Dat.mk k n d s l').kind=2 from hkd,show (Dat.mk k n d s l').s=s from rfl,hr]
  rfl
 rw[hiv]
 clear hiv hr
 obtain ⟨i0,i1,i2,i3,i4⟩:=hb.cells
 have il:=hb.lt
 unfold ROut
 clear hv hb hbl hkk _hB hsh hal hkd
 go_enter func41,ntmps41
 go_wp2_with (first | (go_at_call 21;refine (HV.out _).mono ?_;rintro e' w1 ⟨rfl,rfl⟩) | fail)
 go_ret
 exact ⟨rfl,HBL.out⟩
theorem zeX {_C:Dat->Bool} {x:Dat} {v:Value} {w:World} {B:Nat} (hv:RepD w B x v) (hB:B<=w.heap.size) (hsh:Dat.shaped x=true) (hal:Dat.all x<=100000) (hkd:x.kind≠2) (h4:(Sy.split x).2.kind≠4):ROut false v w:=by
 obtain ⟨k,n,d,s,o,len,cap,rfl⟩:=zae hv
 obtain ⟨W0,hW0⟩:∃W0,w.alloc (.cells #[.int .i64 k,.int .i64 n,.int .i64 d,.string s,.slice o len cap] 26)=W0:=⟨_,rfl⟩
 have hb:Box5 W0 w.heap.size 26 (.int .i64 k) (.int .i64 n) (.int .i64 d) (.string s) (.slice o len cap):=by rw[<-hW0];exact Box5.new w _ _ _ _ _ _
 have hbl:Below w.heap.size w W0:=by rw[<-hW0];exact Below.one _ _
 have HBL:=zh hbl
 have hkk:=zaE hv
 have hk2:(k==2)=false:=by rw[<-hkk];simp[hkd]
 have hit:=ritemsG (fun _=>False) x _ B W0 false (by simp[h4]) (fun _ h=>h.elim) ((hv.kept (hbl.mono hB)).dug (fun _ h=>h.elim)) (by have:=hbl.size;omega) hsh hal
 have HIT:=zh hit
 obtain ⟨i0,i1,i2,i3,i4⟩:=hb.cells
 have il:=hb.lt
 unfold ROut
 clear hv hb hbl hkk hB hsh hal hkd hit h4
 go_enter func41,ntmps41
 go_wp2_with (first | (go_at_call 55;refine HIT.out.mono ?_;rintro e' w1 ⟨o1,len1,cap1,rfl,hg1,hl1,hb1⟩) | fail)
 go_ret
 exact ⟨rfl,Below.next HBL.out hb1⟩
theorem zgS {_C:Dat->Bool} {x:Dat} {v:Value} {w:World} {B:Nat} (hv:RepD w B x v) (hB:B<=w.heap.size) (hsh:Dat.shaped x=true) (hal:Dat.all x<=100000) (hkd:x.kind≠2) (h4:(Sy.split x).2.kind=4) (hsp:(Sy.split x).1=[]):ROut false v w:=by
 obtain ⟨k,n,d,s,o,len,cap,rfl⟩:=zae hv
 obtain ⟨W0,hW0⟩:∃W0,w.alloc (.cells #[.int .i64 k,.int .i64 n,.int .i64 d,.string s,.slice o len cap] 26)=W0:=⟨_,rfl⟩
 have hb:Box5 W0 w.heap.size 26 (.int .i64 k) (.int .i64 n) (.int .i64 d) (.string s) (.slice o len cap):=by rw[<-hW0];exact Box5.new w _ _ _ _ _ _
 have hbl:Below w.heap.size w W0:=by rw[<-hW0];exact Below.one _ _
 have HBL:=zh hbl
 have hkk:=zaE hv
 have hk2:(k==2)=false:=by rw[<-hkk];simp[hkd]
 have hit:=ritemsG (fun _=>False) x _ B W0 true (by simp[h4]) (fun _ h=>h.elim) ((hv.kept (hbl.mono hB)).dug (fun _ h=>h.elim)) (by have:=hbl.size;omega) hsh hal
 rw[hsp] at hit
 have HIT:=zh hit
 obtain ⟨i0,i1,i2,i3,i4⟩:=hb.cells
 have il:=hb.lt
 unfold ROut
 clear hv hb hbl hkk hB hsh hal hkd hit h4 hsp
 go_enter func41,ntmps41
 go_wp2_with (first | (go_at_call 55;refine HIT.out.mono ?_;rintro e' w1 ⟨o1,len1,cap1,rfl,hg1,hl1,hb1⟩;obtain rfl:len1=0:=hl1) | fail)
 go_ret
 exact ⟨rfl,Below.next HBL.out hb1⟩
theorem zhk {C:Dat->Bool} {x:Dat} {h:Dat} {t:List Dat} {v:Value} {w:World} (hin:CIn x h (t) v w) (hh:h.kind≠2) (hC:∀y∈(h::t).drop 0,RCoreAt C y):ROut ((h::t).all C) v w:=by
 obtain ⟨k,n,d,s,o,len,cap,W0,rfl,hW0,⟨i0,i1,i2,i3,i4⟩,il,hk2,HBL,HIT⟩:=zaG hin
 obtain ⟨r,hr⟩:∃r,(h::t).all C=r:=⟨_,rfl⟩
 have HRR:=zh (show ((h::t).drop 0).all C=r from hr)
 rw[hr]
 have HH:=zh hh
 unfold ROut
 clear hin hh hr
 go_enter func41,ntmps41
 go_upto_region 34 with (first | (go_at_call 55;refine HIT.out.mono ?_;rintro e' w1 ⟨bb,ob,len1,cap1,kh,nh,dh,sh,oh,lh,ch,rfl,hkh,hsn,⟨e0,e1,e2,e3,e4⟩,hl0,hz,HL1,HR1,HB1,hlb⟩;have hkq:(kh==2)=false:=(by rw[<-hkh];exact beq_eq_false_iff_ne.2 HH.out);clear hkh hsn) | fail)
 have HBL2:=zh (HB1.out)
 have hkl:0<=len1:=by rw[HL1.out];simp
 go_wp2_with fail
 go_loopg [4,10] len1 (fun g qv iv wr=>∃(i:Nat) (q:Bool),iv=.int .i64 i∧qv=.bool q∧g=len1+0-i∧0<=i∧i<=len1∧Hid ((((h::t).take i).drop 0).all C=q)∧Hid (Below w1.heap.size w1 wr))
 case atStart=>exact ⟨0,true,rfl,rfl,by omega,qzL,hkl,zh (by simp),zh qzB⟩
 case round=>
  obtain ⟨i,q,rfl,rfl,rfl,hi,hi2,HQ,HBR⟩:=hrel
  cases q with
  | false=>
   have HF:=zh (show r=false from by rw[<-HRR.out];exact zdj HQ.out)
   go_wp2_with fail
   go_ret
   exact ⟨by rw[HF.out];rfl,Below.next HBL2.out HBR.out⟩
  | true=>
   by_cases hlt:i<len1
   ·have hd:decide ((i:Int)<(len1:Int))=true:=by simp;omega
    obtain ⟨z9,hy⟩:∃z9,(h::t)[i]?=some z9:=⟨_,List.getElem?_eq_getElem (by rw[<-HL1.out];exact hlt)⟩
    obtain ⟨b1,off1,ky,ny,dy,sy,oy,lny,cpy,he, -, -, -,hel⟩:=zbm HR1.out qzL hy
    cases he
    obtain ⟨e0,e1,e2,e3,e4,er⟩:=hel wr HBR.out
    have HRC:=zh (hC z9 (zbH hi hy) _ _ wr er qzL)
    have HST:=zh (zbJ (C:=C) hi hy)
    rw[HQ.out,Bool.true_and] at HST
    clear hy hel er
    generalize C z9=cy at HRC HST
    go_wp2_with (first | (go_at_call 41;refine HRC.out.mono ?_;rintro e' w8 ⟨rfl,hb8⟩) | fail)
    go_roundg (len1+0-(i+1))
    case measure=>omega
    case rel=>exact ⟨i+1,cy,by go_num,rfl,rfl,by omega,by omega,HST,zh (Below.next HBR.out hb8)⟩
   ·have hd:decide ((i:Int)<(len1:Int))=false:=by simp;omega
    have HF:=zh (show r=true from by rw[<-HRR.out];exact zb9 (by rw[<-HL1.out];exact hlt) HQ.out)
    go_wp2_with fail
    go_ret
    exact ⟨by rw[HF.out];rfl,Below.next HBL2.out HBR.out⟩
theorem zhl {C:Dat->Bool} {x:Dat} {h:Dat} {t:List Dat} {v:Value} {w:World} (hin:CIn x h (t) v w) (hh:h.kind=2) (jf:Sy.keyword h.s=false) (hC:∀y∈(h::t).drop 0,RCoreAt C y):ROut ((h::t).all C) v w:=by
 obtain ⟨k,n,d,s,o,len,cap,W0,rfl,hW0,⟨i0,i1,i2,i3,i4⟩,il,hk2,HBL,HIT⟩:=zaG hin
 obtain ⟨r,hr⟩:∃r,(h::t).all C=r:=⟨_,rfl⟩
 have HRR:=zh (show ((h::t).drop 0).all C=r from hr)
 rw[hr]
 have HKY:=zh jf
 have HH:=zh hh
 unfold ROut
 clear hin hh jf hr
 go_enter func41,ntmps41
 go_upto_region 34 with (first | (go_at_call 55;refine HIT.out.mono ?_;rintro e' w1 ⟨bb,ob,len1,cap1,kh,nh,dh,sh,oh,lh,ch,rfl,hkh,hsn,⟨e0,e1,e2,e3,e4⟩,hl0,hz,HL1,HR1,HB1,hlb⟩;have hkq:(kh==2)=true:=(by rw[<-hkh,HH.out];rfl);rw[hsn] at HKY;clear hkh hsn) | (go_at_call 21;refine (zao _ false HKY.out _).mono ?_;rintro e' wN ⟨rfl,rfl⟩) | fail)
 have HBL2:=zh (HB1.out)
 have hkl:0<=len1:=by rw[HL1.out];simp
 go_wp2_with fail
 go_loopg [4,10] len1 (fun g qv iv wr=>∃(i:Nat) (q:Bool),iv=.int .i64 i∧qv=.bool q∧g=len1+0-i∧0<=i∧i<=len1∧Hid ((((h::t).take i).drop 0).all C=q)∧Hid (Below wN.heap.size wN wr))
 case atStart=>exact ⟨0,true,rfl,rfl,by omega,qzL,hkl,zh (by simp),zh qzB⟩
 case round=>
  obtain ⟨i,q,rfl,rfl,rfl,hi,hi2,HQ,HBR⟩:=hrel
  cases q with
  | false=>
   have HF:=zh (show r=false from by rw[<-HRR.out];exact zdj HQ.out)
   go_wp2_with fail
   go_ret
   exact ⟨by rw[HF.out];rfl,Below.next HBL2.out HBR.out⟩
  | true=>
   by_cases hlt:i<len1
   ·have hd:decide ((i:Int)<(len1:Int))=true:=by simp;omega
    obtain ⟨z9,hy⟩:∃z9,(h::t)[i]?=some z9:=⟨_,List.getElem?_eq_getElem (by rw[<-HL1.out];exact hlt)⟩
    obtain ⟨b1,off1,ky,ny,dy,sy,oy,lny,cpy,he, -, -, -,hel⟩:=zbm HR1.out qzL hy
    cases he
    obtain ⟨e0,e1,e2,e3,e4,er⟩:=hel wr HBR.out
    have HRC:=zh (hC z9 (zbH hi hy) _ _ wr er qzL)
    have HST:=zh (zbJ (C:=C) hi hy)
    rw[HQ.out,Bool.true_and] at HST
    clear hy hel er
    generalize C z9=cy at HRC HST
    go_wp2_with (first | (go_at_call 41;refine HRC.out.mono ?_;rintro e' w8 ⟨rfl,hb8⟩) | fail)
    go_roundg (len1+0-(i+1))
    case measure=>omega
    case rel=>exact ⟨i+1,cy,by go_num,rfl,rfl,by omega,by omega,HST,zh (Below.next HBR.out hb8)⟩
   ·have hd:decide ((i:Int)<(len1:Int))=false:=by simp;omega
    have HF:=zh (show r=true from by rw[<-HRR.out];exact zb9 (by rw[<-HL1.out];exact hlt) HQ.out)
    go_wp2_with fail
    go_ret
    exact ⟨by rw[HF.out];rfl,Below.next HBL2.out HBR.out⟩
theorem zfN {_C:Dat->Bool} {x:Dat} {h:Dat} {y:Dat} {v:Value} {w:World} (hin:CIn x h ([y]) v w) (hh:h.kind=2) (hs:h.s=⟨#[113,117,111,116,101]⟩):ROut true v w:=by
 obtain ⟨k,n,d,s,o,len,cap,W0,rfl,hW0,⟨i0,i1,i2,i3,i4⟩,il,hk2,HBL,HIT⟩:=zaG hin
 have HKY:=zh (show Sy.keyword ⟨#[113,117,111,116,101]⟩=true from by decide +kernel)
 have HS:=zh hs
 have HH:=zh hh
 unfold ROut
 clear hin hh hs
 go_enter func41,ntmps41
 go_wp2_with (first | (go_at_call 55;refine HIT.out.mono ?_;rintro e' w1 ⟨bb,ob,len1,cap1,kh,nh,dh,sh,oh,lh,ch,rfl,hkh,hsn,⟨e0,e1,e2,e3,e4⟩,hl0,hz,HL1,HR1,HB1,hlb⟩;have hkq:(kh==2)=true:=(by rw[<-hkh,HH.out];rfl);rw[HS.out] at hsn;subst hsn;clear hkh;have hn2:((len1:Int)==2)=true:=(by rw[HL1.out];rfl)) | (go_at_call 21;refine (zao _ true HKY.out _).mono ?_;rintro e' wN ⟨rfl,rfl⟩) | fail)
 go_ret
 exact ⟨rfl,HB1.out⟩
theorem zf9 {_C:Dat->Bool} {x:Dat} {h:Dat} {t:List Dat} {v:Value} {w:World} (hin:CIn x h (t) v w) (hh:h.kind=2) (hs:h.s=⟨#[113,117,111,116,101]⟩) (hn:t.length≠1):ROut false v w:=by
 obtain ⟨k,n,d,s,o,len,cap,W0,rfl,hW0,⟨i0,i1,i2,i3,i4⟩,il,hk2,HBL,HIT⟩:=zaG hin
 have HN:=zh hn
 have HKY:=zh (show Sy.keyword ⟨#[113,117,111,116,101]⟩=true from by decide +kernel)
 have HS:=zh hs
 have HH:=zh hh
 unfold ROut
 clear hin hh hs hn
 go_enter func41,ntmps41
 go_wp2_with (first | (go_at_call 55;refine HIT.out.mono ?_;rintro e' w1 ⟨bb,ob,len1,cap1,kh,nh,dh,sh,oh,lh,ch,rfl,hkh,hsn,⟨e0,e1,e2,e3,e4⟩,hl0,hz,HL1,HR1,HB1,hlb⟩;have hkq:(kh==2)=true:=(by rw[<-hkh,HH.out];rfl);rw[HS.out] at hsn;subst hsn;clear hkh;have hn2:((len1:Int)==2)=false:=beq_eq_false_iff_ne.2 (by have:=HN.out;have:=HL1.out;rw[qzN] at this;omega)) | (go_at_call 21;refine (zao _ true HKY.out _).mono ?_;rintro e' wN ⟨rfl,rfl⟩) | fail)
 go_ret
 exact ⟨rfl,HB1.out⟩
theorem zg9 {_C:Dat->Bool} {x:Dat} {h:Dat} {t:List Dat} {v:Value} {w:World} (hin:CIn x h (t) v w) (hh:h.kind=2) (jf:Sy.keyword h.s=true) (hi0:h.s≠⟨#[113,117,111,116,101]⟩) (hi1:h.s≠⟨#[105,102]⟩) (hi2:h.s≠⟨#[108,97,109,98,100,97]⟩) (hi3:h.s≠⟨#[115,101,116,33]⟩) (hi4:h.s≠⟨#[98,101,103,105,110]⟩) (hi5:h.s≠⟨#[108,101,116,114,101,99]⟩) (hi6:h.s≠⟨#[108,101,116,114,101,99,42]⟩):ROut false v w:=by
 obtain ⟨k,n,d,s,o,len,cap,W0,rfl,hW0,⟨i0,i1,i2,i3,i4⟩,il,hk2,HBL,HIT⟩:=zaG hin
 have HKY:=zh jf
 have HH:=zh hh
 unfold ROut
 clear hin hh jf
 go_enter func41,ntmps41
 go_wp2_with (first | (go_at_call 55;refine HIT.out.mono ?_;rintro e' w1 ⟨bb,ob,len1,cap1,kh,nh,dh,sh,oh,lh,ch,rfl,hkh,hsn,⟨e0,e1,e2,e3,e4⟩,hl0,hz,HL1,HR1,HB1,hlb⟩;have hkq:(kh==2)=true:=(by rw[<-hkh,HH.out];rfl);rw[hsn] at HKY;have hq0:(sh.toList==[113,117,111,116,101])=false:=zcB (by rw[<-hsn];exact hi0) rfl;have hq1:(sh.toList==[105,102])=false:=zcB (by rw[<-hsn];exact hi1) rfl;have hq2:(sh.toList==[108,97,109,98,100,97])=false:=zcB (by rw[<-hsn];exact hi2) rfl;have hq3:(sh.toList==[115,101,116,33])=false:=zcB (by rw[<-hsn];exact hi3) rfl;have hq4:(sh.toList==[98,101,103,105,110])=false:=zcB (by rw[<-hsn];exact hi4) rfl;have hq5:(sh.toList==[108,101,116,114,101,99])=false:=zcB (by rw[<-hsn];exact hi5) rfl;have hq6:(sh.toList==[108,101,116,114,101,99,42])=false:=zcB (by rw[<-hsn];exact hi6) rfl;clear hi0 hi1 hi2 hi3 hi4 hi5 hi6;clear hkh hsn) | (go_at_call 21;refine (zao _ true HKY.out _).mono ?_;rintro e' wN ⟨rfl,rfl⟩) | fail)
 go_ret
 exact ⟨rfl,HB1.out⟩
theorem zjD {C:Dat->Bool} {x:Dat} {h:Dat} {y z u:Dat} {v:Value} {w:World} (hin:CIn x h ([y,z,u]) v w) (hh:h.kind=2) (hs:h.s=⟨#[105,102]⟩) (hC:∀c∈(h::[y,z,u]).drop 1,RCoreAt C c):ROut ([y,z,u].all C) v w:=by
 obtain ⟨k,n,d,s,o,len,cap,W0,rfl,hW0,⟨i0,i1,i2,i3,i4⟩,il,hk2,HBL,HIT⟩:=zaG hin
 obtain ⟨r,hr⟩:∃r,[y,z,u].all C=r:=⟨_,rfl⟩
 have HRR:=zh (show ((h::[y,z,u]).drop 1).all C=r from hr)
 rw[hr]
 have HKY:=zh (show Sy.keyword ⟨#[105,102]⟩=true from by decide +kernel)
 have HS:=zh hs
 have HH:=zh hh
 unfold ROut
 clear hin hh hs hr
 go_enter func41,ntmps41
 go_upto_region 34 with (first | (go_at_call 55;refine HIT.out.mono ?_;rintro e' w1 ⟨bb,ob,len1,cap1,kh,nh,dh,sh,oh,lh,ch,rfl,hkh,hsn,⟨e0,e1,e2,e3,e4⟩,hl0,hz,HL1,HR1,HB1,hlb⟩;have hkq:(kh==2)=true:=(by rw[<-hkh,HH.out];rfl);rw[HS.out] at hsn;subst hsn;clear hkh;have hn4:((len1:Int)==4)=true:=(by rw[HL1.out];rfl)) | (go_at_call 21;refine (zao _ true HKY.out _).mono ?_;rintro e' wN ⟨rfl,rfl⟩) | fail)
 have HBL2:=zh (HB1.out)
 have hkl:1<=len1:=by rw[HL1.out];simp
 go_wp2_with fail
 go_loopg [4,10] len1 (fun g qv iv wr=>∃(i:Nat) (q:Bool),iv=.int .i64 i∧qv=.bool q∧g=len1+1-i∧1<=i∧i<=len1∧Hid ((((h::[y,z,u]).take i).drop 1).all C=q)∧Hid (Below wN.heap.size wN wr))
 case atStart=>exact ⟨1,true,rfl,rfl,by omega,qzL,hkl,zh (by simp),zh qzB⟩
 case round=>
  obtain ⟨i,q,rfl,rfl,rfl,hi,hi2,HQ,HBR⟩:=hrel
  cases q with
  | false=>
   have HF:=zh (show r=false from by rw[<-HRR.out];exact zdj HQ.out)
   go_wp2_with fail
   go_ret
   exact ⟨by rw[HF.out];rfl,Below.next HBL2.out HBR.out⟩
  | true=>
   by_cases hlt:i<len1
   ·have hd:decide ((i:Int)<(len1:Int))=true:=by simp;omega
    obtain ⟨z9,hy⟩:∃z9,(h::[y,z,u])[i]?=some z9:=⟨_,List.getElem?_eq_getElem (by rw[<-HL1.out];exact hlt)⟩
    obtain ⟨b1,off1,ky,ny,dy,sy,oy,lny,cpy,he, -, -, -,hel⟩:=zbm HR1.out qzL hy
    cases he
    obtain ⟨e0,e1,e2,e3,e4,er⟩:=hel wr HBR.out
    have HRC:=zh (hC z9 (zbH hi hy) _ _ wr er qzL)
    have HST:=zh (zbJ (C:=C) hi hy)
    rw[HQ.out,Bool.true_and] at HST
    clear hy hel er
    generalize C z9=cy at HRC HST
    go_wp2_with (first | (go_at_call 41;refine HRC.out.mono ?_;rintro e' w8 ⟨rfl,hb8⟩) | fail)
    go_roundg (len1+1-(i+1))
    case measure=>omega
    case rel=>exact ⟨i+1,cy,by go_num,rfl,rfl,by omega,by omega,HST,zh (Below.next HBR.out hb8)⟩
   ·have hd:decide ((i:Int)<(len1:Int))=false:=by simp;omega
    have HF:=zh (show r=true from by rw[<-HRR.out];exact zb9 (by rw[<-HL1.out];exact hlt) HQ.out)
    go_wp2_with fail
    go_ret
    exact ⟨by rw[HF.out];rfl,Below.next HBL2.out HBR.out⟩
theorem zj8 {_C:Dat->Bool} {x:Dat} {h:Dat} {t:List Dat} {v:Value} {w:World} (hin:CIn x h (t) v w) (hh:h.kind=2) (hs:h.s=⟨#[105,102]⟩) (hn:t.length≠3):ROut false v w:=by
 obtain ⟨k,n,d,s,o,len,cap,W0,rfl,hW0,⟨i0,i1,i2,i3,i4⟩,il,hk2,HBL,HIT⟩:=zaG hin
 have HN:=zh hn
 have HKY:=zh (show Sy.keyword ⟨#[105,102]⟩=true from by decide +kernel)
 have HS:=zh hs
 have HH:=zh hh
 unfold ROut
 clear hin hh hs hn
 go_enter func41,ntmps41
 go_upto_region 34 with (first | (go_at_call 55;refine HIT.out.mono ?_;rintro e' w1 ⟨bb,ob,len1,cap1,kh,nh,dh,sh,oh,lh,ch,rfl,hkh,hsn,⟨e0,e1,e2,e3,e4⟩,hl0,hz,HL1,HR1,HB1,hlb⟩;have hkq:(kh==2)=true:=(by rw[<-hkh,HH.out];rfl);rw[HS.out] at hsn;subst hsn;clear hkh;have hn4:((len1:Int)==4)=false:=beq_eq_false_iff_ne.2 (by have:=HN.out;have:=HL1.out;rw[qzN] at this;omega)) | (go_at_call 21;refine (zao _ true HKY.out _).mono ?_;rintro e' wN ⟨rfl,rfl⟩) | fail)
 go_wp2_with fail
 go_loopg [4,10] 0 (fun g qv iv wr=>∃(i:Int),iv=.int .i64 i∧qv=.bool false∧g=0∧wN=wr)
 case atStart=>exact ⟨_,rfl,rfl,rfl,rfl⟩
 case round=>
  obtain ⟨i,rfl,rfl,rfl,rfl⟩:=hrel
  go_wp2_with fail
  go_ret
  exact ⟨rfl,HB1.out⟩
theorem zhf {C:Dat->Bool} {x:Dat} {h:Dat} {y:Dat} {t:List Dat} {v:Value} {w:World} (hin:CIn x h (y::t) v w) (hh:h.kind=2) (hs:h.s=⟨#[98,101,103,105,110]⟩) (hC:∀c∈(h::y::t).drop 1,RCoreAt C c):ROut ((y::t).all C) v w:=by
 obtain ⟨k,n,d,s,o,len,cap,W0,rfl,hW0,⟨i0,i1,i2,i3,i4⟩,il,hk2,HBL,HIT⟩:=zaG hin
 obtain ⟨r,hr⟩:∃r,(y::t).all C=r:=⟨_,rfl⟩
 have HRR:=zh (show ((h::y::t).drop 1).all C=r from hr)
 rw[hr]
 have HKY:=zh (show Sy.keyword ⟨#[98,101,103,105,110]⟩=true from by decide +kernel)
 have HS:=zh hs
 have HH:=zh hh
 unfold ROut
 clear hin hh hs hr
 go_enter func41,ntmps41
 go_upto_region 34 with (first | (go_at_call 55;refine HIT.out.mono ?_;rintro e' w1 ⟨bb,ob,len1,cap1,kh,nh,dh,sh,oh,lh,ch,rfl,hkh,hsn,⟨e0,e1,e2,e3,e4⟩,hl0,hz,HL1,HR1,HB1,hlb⟩;have hkq:(kh==2)=true:=(by rw[<-hkh,HH.out];rfl);rw[HS.out] at hsn;subst hsn;clear hkh;have hn2:decide ((2:Int)<=len1)=true:=decide_eq_true (by have:=HL1.out;simp only[qzN] at this;omega)) | (go_at_call 21;refine (zao _ true HKY.out _).mono ?_;rintro e' wN ⟨rfl,rfl⟩) | fail)
 have HBL2:=zh (HB1.out)
 have hkl:1<=len1:=by rw[HL1.out];simp
 go_wp2_with fail
 go_loopg [4,10] len1 (fun g qv iv wr=>∃(i:Nat) (q:Bool),iv=.int .i64 i∧qv=.bool q∧g=len1+1-i∧1<=i∧i<=len1∧Hid ((((h::y::t).take i).drop 1).all C=q)∧Hid (Below wN.heap.size wN wr))
 case atStart=>exact ⟨1,true,rfl,rfl,by omega,qzL,hkl,zh (by simp),zh qzB⟩
 case round=>
  obtain ⟨i,q,rfl,rfl,rfl,hi,hi2,HQ,HBR⟩:=hrel
  cases q with
  | false=>
   have HF:=zh (show r=false from by rw[<-HRR.out];exact zdj HQ.out)
   go_wp2_with fail
   go_ret
   exact ⟨by rw[HF.out];rfl,Below.next HBL2.out HBR.out⟩
  | true=>
   by_cases hlt:i<len1
   ·have hd:decide ((i:Int)<(len1:Int))=true:=by simp;omega
    obtain ⟨z9,hy⟩:∃z9,(h::y::t)[i]?=some z9:=⟨_,List.getElem?_eq_getElem (by rw[<-HL1.out];exact hlt)⟩
    obtain ⟨b1,off1,ky,ny,dy,sy,oy,lny,cpy,he, -, -, -,hel⟩:=zbm HR1.out qzL hy
    cases he
    obtain ⟨e0,e1,e2,e3,e4,er⟩:=hel wr HBR.out
    have HRC:=zh (hC z9 (zbH hi hy) _ _ wr er qzL)
    have HST:=zh (zbJ (C:=C) hi hy)
    rw[HQ.out,Bool.true_and] at HST
    clear hy hel er
    generalize C z9=cy at HRC HST
    go_wp2_with (first | (go_at_call 41;refine HRC.out.mono ?_;rintro e' w8 ⟨rfl,hb8⟩) | fail)
    go_roundg (len1+1-(i+1))
    case measure=>omega
    case rel=>exact ⟨i+1,cy,by go_num,rfl,rfl,by omega,by omega,HST,zh (Below.next HBR.out hb8)⟩
   ·have hd:decide ((i:Int)<(len1:Int))=false:=by simp;omega
    have HF:=zh (show r=true from by rw[<-HRR.out];exact zb9 (by rw[<-HL1.out];exact hlt) HQ.out)
    go_wp2_with fail
    go_ret
    exact ⟨by rw[HF.out];rfl,Below.next HBL2.out HBR.out⟩
theorem zfB {_C:Dat->Bool} {x:Dat} {h:Dat} {v:Value} {w:World} (hin:CIn x h ([]) v w) (hh:h.kind=2) (hs:h.s=⟨#[98,101,103,105,110]⟩):ROut false v w:=by
 obtain ⟨k,n,d,s,o,len,cap,W0,rfl,hW0,⟨i0,i1,i2,i3,i4⟩,il,hk2,HBL,HIT⟩:=zaG hin
 have HKY:=zh (show Sy.keyword ⟨#[98,101,103,105,110]⟩=true from by decide +kernel)
 have HS:=zh hs
 have HH:=zh hh
 unfold ROut
 clear hin hh hs
 go_enter func41,ntmps41
 go_upto_region 34 with (first | (go_at_call 55;refine HIT.out.mono ?_;rintro e' w1 ⟨bb,ob,len1,cap1,kh,nh,dh,sh,oh,lh,ch,rfl,hkh,hsn,⟨e0,e1,e2,e3,e4⟩,hl0,hz,HL1,HR1,HB1,hlb⟩;have hkq:(kh==2)=true:=(by rw[<-hkh,HH.out];rfl);rw[HS.out] at hsn;subst hsn;clear hkh;have hn2:decide ((2:Int)<=len1)=false:=decide_eq_false (by have:=HL1.out;simp only[qzN,qzO] at this;omega)) | (go_at_call 21;refine (zao _ true HKY.out _).mono ?_;rintro e' wN ⟨rfl,rfl⟩) | fail)
 go_wp2_with fail
 go_loopg [4,10] 0 (fun g qv iv wr=>∃(i:Int),iv=.int .i64 i∧qv=.bool false∧g=0∧wN=wr)
 case atStart=>exact ⟨_,rfl,rfl,rfl,rfl⟩
 case round=>
  obtain ⟨i,rfl,rfl,rfl,rfl⟩:=hrel
  go_wp2_with fail
  go_ret
  exact ⟨rfl,HB1.out⟩
theorem zgr {C:Dat->Bool} {x:Dat} {h:Dat} {f b:Dat} {v:Value} {w:World} (hin:CIn x h ([f,b]) v w) (hh:h.kind=2) (hs:h.s=⟨#[108,97,109,98,100,97]⟩) (hC:∀c∈(h::[f,b]).drop 2,RCoreAt C c) (hf:Dat.shaped f=true) (hfa:Dat.all f<=100000) (hfo:Sy.formals f=true):ROut ([b].all C) v w:=by
 obtain ⟨k,n,d,s,o,len,cap,W0,rfl,hW0,⟨i0,i1,i2,i3,i4⟩,il,hk2,HBL,HIT⟩:=zaG hin
 obtain ⟨r,hr⟩:∃r,[b].all C=r:=⟨_,rfl⟩
 have HRR:=zh (show ((h::[f,b]).drop 2).all C=r from hr)
 rw[hr]
 have HFO:=zh (show ∀(W:World) (v:Value),RepD W W.heap.size f v->Calls prog 57 #[v] W fun e w'=>e=.returned (.bool true)∧Below W.heap.size W w' from fun W v hv=>by rw[<-hfo];exact zdg (fun _=>False) f v W.heap.size W (fun _ h=>h.elim) (hv.dug fun _ h=>h.elim) qzL hf hfa)
 have HKY:=zh (show Sy.keyword ⟨#[108,97,109,98,100,97]⟩=true from by decide +kernel)
 have HS:=zh hs
 have HH:=zh hh
 unfold ROut
 clear hin hh hs hr hf hfa hfo
 go_enter func41,ntmps41
 go_upto_region 34 with (first | (go_at_call 55;refine HIT.out.mono ?_;rintro e' w1 ⟨bb,ob,len1,cap1,kh,nh,dh,sh,oh,lh,ch,rfl,hkh,hsn,⟨e0,e1,e2,e3,e4⟩,hl0,hz,HL1,HR1,HB1,hlb⟩;have hkq:(kh==2)=true:=(by rw[<-hkh,HH.out];rfl);rw[HS.out] at hsn;subst hsn;clear hkh;have hn3:((len1:Int)==3)=true:=(by rw[HL1.out];rfl);obtain ⟨kf,nf,df,sf,of,lf,cf,HE2⟩:=zaB HR1.out (j:=1) rfl (ob+5) (ob+6) (ob+7) (ob+8) (ob+9) rfl rfl rfl rfl rfl;obtain ⟨f0,f1,f2,f3,f4,fr⟩:=HE2.out _ qzB;have HFR:=zh fr;clear fr;have hl2:1<len1:=(by have:=HL1.out;simp only[qzN,qzO] at this;omega)) | (go_at_call 21;refine (zao _ true HKY.out _).mono ?_;rintro e' wN ⟨rfl,rfl⟩) | (go_at_call 57;refine (HFO.out _ _ HFR.out).mono ?_;rintro e' wM ⟨rfl,hbM⟩) | fail)
 have HBL2:=zh (HB1.out)
 have hkl:2<=len1:=by rw[HL1.out];simp
 go_wp2_with fail
 go_loopg [4,10] len1 (fun g qv iv wr=>∃(i:Nat) (q:Bool),iv=.int .i64 i∧qv=.bool q∧g=len1+2-i∧2<=i∧i<=len1∧Hid ((((h::[f,b]).take i).drop 2).all C=q)∧Hid (Below wN.heap.size wN wr))
 case atStart=>exact ⟨2,true,rfl,rfl,by omega,qzL,hkl,zh (by simp),zh (hbM)⟩
 case round=>
  obtain ⟨i,q,rfl,rfl,rfl,hi,hi2,HQ,HBR⟩:=hrel
  cases q with
  | false=>
   have HF:=zh (show r=false from by rw[<-HRR.out];exact zdj HQ.out)
   go_wp2_with fail
   go_ret
   exact ⟨by rw[HF.out];rfl,Below.next HBL2.out HBR.out⟩
  | true=>
   by_cases hlt:i<len1
   ·have hd:decide ((i:Int)<(len1:Int))=true:=by simp;omega
    obtain ⟨z9,hy⟩:∃z9,(h::[f,b])[i]?=some z9:=⟨_,List.getElem?_eq_getElem (by rw[<-HL1.out];exact hlt)⟩
    obtain ⟨b1,off1,ky,ny,dy,sy,oy,lny,cpy,he, -, -, -,hel⟩:=zbm HR1.out qzL hy
    cases he
    obtain ⟨e0,e1,e2,e3,e4,er⟩:=hel wr HBR.out
    have HRC:=zh (hC z9 (zbH hi hy) _ _ wr er qzL)
    have HST:=zh (zbJ (C:=C) hi hy)
    rw[HQ.out,Bool.true_and] at HST
    clear hy hel er
    generalize C z9=cy at HRC HST
    go_wp2_with (first | (go_at_call 41;refine HRC.out.mono ?_;rintro e' w8 ⟨rfl,hb8⟩) | fail)
    go_roundg (len1+2-(i+1))
    case measure=>omega
    case rel=>exact ⟨i+1,cy,by go_num,rfl,rfl,by omega,by omega,HST,zh (Below.next HBR.out hb8)⟩
   ·have hd:decide ((i:Int)<(len1:Int))=false:=by simp;omega
    have HF:=zh (show r=true from by rw[<-HRR.out];exact zb9 (by rw[<-HL1.out];exact hlt) HQ.out)
    go_wp2_with fail
    go_ret
    exact ⟨by rw[HF.out];rfl,Below.next HBL2.out HBR.out⟩
theorem zfg {_C:Dat->Bool} {x:Dat} {h:Dat} {f b:Dat} {v:Value} {w:World} (hin:CIn x h ([f,b]) v w) (hh:h.kind=2) (hs:h.s=⟨#[108,97,109,98,100,97]⟩) (hf:Dat.shaped f=true) (hfa:Dat.all f<=100000) (hfo:Sy.formals f=false):ROut false v w:=by
 obtain ⟨k,n,d,s,o,len,cap,W0,rfl,hW0,⟨i0,i1,i2,i3,i4⟩,il,hk2,HBL,HIT⟩:=zaG hin
 have HFO:=zh (show ∀(W:World) (v:Value),RepD W W.heap.size f v->Calls prog 57 #[v] W fun e w'=>e=.returned (.bool false)∧Below W.heap.size W w' from fun W v hv=>by rw[<-hfo];exact zdg (fun _=>False) f v W.heap.size W (fun _ h=>h.elim) (hv.dug fun _ h=>h.elim) qzL hf hfa)
 have HKY:=zh (show Sy.keyword ⟨#[108,97,109,98,100,97]⟩=true from by decide +kernel)
 have HS:=zh hs
 have HH:=zh hh
 unfold ROut
 clear hin hh hs hf hfa hfo
 go_enter func41,ntmps41
 go_upto_region 34 with (first | (go_at_call 55;refine HIT.out.mono ?_;rintro e' w1 ⟨bb,ob,len1,cap1,kh,nh,dh,sh,oh,lh,ch,rfl,hkh,hsn,⟨e0,e1,e2,e3,e4⟩,hl0,hz,HL1,HR1,HB1,hlb⟩;have hkq:(kh==2)=true:=(by rw[<-hkh,HH.out];rfl);rw[HS.out] at hsn;subst hsn;clear hkh;have hn3:((len1:Int)==3)=true:=(by rw[HL1.out];rfl);obtain ⟨kf,nf,df,sf,of,lf,cf,HE2⟩:=zaB HR1.out (j:=1) rfl (ob+5) (ob+6) (ob+7) (ob+8) (ob+9) rfl rfl rfl rfl rfl;obtain ⟨f0,f1,f2,f3,f4,fr⟩:=HE2.out _ qzB;have HFR:=zh fr;clear fr;have hl2:1<len1:=(by have:=HL1.out;simp only[qzN,qzO] at this;omega)) | (go_at_call 21;refine (zao _ true HKY.out _).mono ?_;rintro e' wN ⟨rfl,rfl⟩) | (go_at_call 57;refine (HFO.out _ _ HFR.out).mono ?_;rintro e' wM ⟨rfl,hbM⟩) | fail)
 go_wp2_with fail
 go_loopg [4,10] 0 (fun g qv iv wr=>∃(i:Int),iv=.int .i64 i∧qv=.bool false∧g=0∧wM=wr)
 case atStart=>exact ⟨_,rfl,rfl,rfl,rfl⟩
 case round=>
  obtain ⟨i,rfl,rfl,rfl,rfl⟩:=hrel
  go_wp2_with fail
  go_ret
  exact ⟨rfl,Below.next HB1.out hbM⟩
theorem zfA {_C:Dat->Bool} {x:Dat} {h:Dat} {t:List Dat} {v:Value} {w:World} (hin:CIn x h (t) v w) (hh:h.kind=2) (hs:h.s=⟨#[108,97,109,98,100,97]⟩) (hn:t.length≠2):ROut false v w:=by
 obtain ⟨k,n,d,s,o,len,cap,W0,rfl,hW0,⟨i0,i1,i2,i3,i4⟩,il,hk2,HBL,HIT⟩:=zaG hin
 have HN:=zh hn
 have HKY:=zh (show Sy.keyword ⟨#[108,97,109,98,100,97]⟩=true from by decide +kernel)
 have HS:=zh hs
 have HH:=zh hh
 unfold ROut
 clear hin hh hs hn
 go_enter func41,ntmps41
 go_upto_region 34 with (first | (go_at_call 55;refine HIT.out.mono ?_;rintro e' w1 ⟨bb,ob,len1,cap1,kh,nh,dh,sh,oh,lh,ch,rfl,hkh,hsn,⟨e0,e1,e2,e3,e4⟩,hl0,hz,HL1,HR1,HB1,hlb⟩;have hkq:(kh==2)=true:=(by rw[<-hkh,HH.out];rfl);rw[HS.out] at hsn;subst hsn;clear hkh;have hn3:((len1:Int)==3)=false:=beq_eq_false_iff_ne.2 (by have:=HN.out;have:=HL1.out;rw[qzN] at this;omega)) | (go_at_call 21;refine (zao _ true HKY.out _).mono ?_;rintro e' wN ⟨rfl,rfl⟩) | fail)
 go_wp2_with fail
 go_loopg [4,10] 0 (fun g qv iv wr=>∃(i:Int),iv=.int .i64 i∧qv=.bool false∧g=0∧wN=wr)
 case atStart=>exact ⟨_,rfl,rfl,rfl,rfl⟩
 case round=>
  obtain ⟨i,rfl,rfl,rfl,rfl⟩:=hrel
  go_wp2_with fail
  go_ret
  exact ⟨rfl,HB1.out⟩
theorem zi0 {C:Dat->Bool} {x:Dat} {h:Dat} {f b:Dat} {v:Value} {w:World} (hin:CIn x h ([f,b]) v w) (hh:h.kind=2) (hs:h.s=⟨#[115,101,116,33]⟩) (hC:∀c∈(h::[f,b]).drop 2,RCoreAt C c) (hfo:Sy.isVar f=true):ROut ([b].all C) v w:=by
 obtain ⟨k,n,d,s,o,len,cap,W0,rfl,hW0,⟨i0,i1,i2,i3,i4⟩,il,hk2,HBL,HIT⟩:=zaG hin
 obtain ⟨r,hr⟩:∃r,[b].all C=r:=⟨_,rfl⟩
 have HRR:=zh (show ((h::[f,b]).drop 2).all C=r from hr)
 rw[hr]
 have HFO:=zh (show ∀(W:World) (v:Value),RepD W W.heap.size f v->Calls prog 78 #[v] W fun e w'=>e=.returned (.bool true)∧Below W.heap.size W w' from fun W v hv=>by rw[<-hfo];exact zbw f v hv)
 have HKY:=zh (show Sy.keyword ⟨#[115,101,116,33]⟩=true from by decide +kernel)
 have HS:=zh hs
 have HH:=zh hh
 unfold ROut
 clear hin hh hs hr hfo
 go_enter func41,ntmps41
 go_upto_region 34 with (first | (go_at_call 55;refine HIT.out.mono ?_;rintro e' w1 ⟨bb,ob,len1,cap1,kh,nh,dh,sh,oh,lh,ch,rfl,hkh,hsn,⟨e0,e1,e2,e3,e4⟩,hl0,hz,HL1,HR1,HB1,hlb⟩;have hkq:(kh==2)=true:=(by rw[<-hkh,HH.out];rfl);rw[HS.out] at hsn;subst hsn;clear hkh;have hn3:((len1:Int)==3)=true:=(by rw[HL1.out];rfl);obtain ⟨kf,nf,df,sf,of,lf,cf,HE2⟩:=zaB HR1.out (j:=1) rfl (ob+5) (ob+6) (ob+7) (ob+8) (ob+9) rfl rfl rfl rfl rfl;obtain ⟨f0,f1,f2,f3,f4,fr⟩:=HE2.out _ qzB;have HFR:=zh fr;clear fr;have hl2:1<len1:=(by have:=HL1.out;simp only[qzN,qzO] at this;omega)) | (go_at_call 21;refine (zao _ true HKY.out _).mono ?_;rintro e' wN ⟨rfl,rfl⟩) | (go_at_call 78;refine (HFO.out _ _ HFR.out).mono ?_;rintro e' wM ⟨rfl,hbM⟩) | fail)
 have HBL2:=zh (HB1.out)
 have hkl:2<=len1:=by rw[HL1.out];simp
 go_wp2_with fail
 go_loopg [4,10] len1 (fun g qv iv wr=>∃(i:Nat) (q:Bool),iv=.int .i64 i∧qv=.bool q∧g=len1+2-i∧2<=i∧i<=len1∧Hid ((((h::[f,b]).take i).drop 2).all C=q)∧Hid (Below wN.heap.size wN wr))
 case atStart=>exact ⟨2,true,rfl,rfl,by omega,qzL,hkl,zh (by simp),zh (hbM)⟩
 case round=>
  obtain ⟨i,q,rfl,rfl,rfl,hi,hi2,HQ,HBR⟩:=hrel
  cases q with
  | false=>
   have HF:=zh (show r=false from by rw[<-HRR.out];exact zdj HQ.out)
   go_wp2_with fail
   go_ret
   exact ⟨by rw[HF.out];rfl,Below.next HBL2.out HBR.out⟩
  | true=>
   by_cases hlt:i<len1
   ·have hd:decide ((i:Int)<(len1:Int))=true:=by simp;omega
    obtain ⟨z9,hy⟩:∃z9,(h::[f,b])[i]?=some z9:=⟨_,List.getElem?_eq_getElem (by rw[<-HL1.out];exact hlt)⟩
    obtain ⟨b1,off1,ky,ny,dy,sy,oy,lny,cpy,he, -, -, -,hel⟩:=zbm HR1.out qzL hy
    cases he
    obtain ⟨e0,e1,e2,e3,e4,er⟩:=hel wr HBR.out
    have HRC:=zh (hC z9 (zbH hi hy) _ _ wr er qzL)
    have HST:=zh (zbJ (C:=C) hi hy)
    rw[HQ.out,Bool.true_and] at HST
    clear hy hel er
    generalize C z9=cy at HRC HST
    go_wp2_with (first | (go_at_call 41;refine HRC.out.mono ?_;rintro e' w8 ⟨rfl,hb8⟩) | fail)
    go_roundg (len1+2-(i+1))
    case measure=>omega
    case rel=>exact ⟨i+1,cy,by go_num,rfl,rfl,by omega,by omega,HST,zh (Below.next HBR.out hb8)⟩
   ·have hd:decide ((i:Int)<(len1:Int))=false:=by simp;omega
    have HF:=zh (show r=true from by rw[<-HRR.out];exact zb9 (by rw[<-HL1.out];exact hlt) HQ.out)
    go_wp2_with fail
    go_ret
    exact ⟨by rw[HF.out];rfl,Below.next HBL2.out HBR.out⟩
theorem zid {_C:Dat->Bool} {x:Dat} {h:Dat} {f b:Dat} {v:Value} {w:World} (hin:CIn x h ([f,b]) v w) (hh:h.kind=2) (hs:h.s=⟨#[115,101,116,33]⟩) (hfo:Sy.isVar f=false):ROut false v w:=by
 obtain ⟨k,n,d,s,o,len,cap,W0,rfl,hW0,⟨i0,i1,i2,i3,i4⟩,il,hk2,HBL,HIT⟩:=zaG hin
 have HFO:=zh (show ∀(W:World) (v:Value),RepD W W.heap.size f v->Calls prog 78 #[v] W fun e w'=>e=.returned (.bool false)∧Below W.heap.size W w' from fun W v hv=>by rw[<-hfo];exact zbw f v hv)
 have HKY:=zh (show Sy.keyword ⟨#[115,101,116,33]⟩=true from by decide +kernel)
 have HS:=zh hs
 have HH:=zh hh
 unfold ROut
 clear hin hh hs hfo
 go_enter func41,ntmps41
 go_upto_region 34 with (first | (go_at_call 55;refine HIT.out.mono ?_;rintro e' w1 ⟨bb,ob,len1,cap1,kh,nh,dh,sh,oh,lh,ch,rfl,hkh,hsn,⟨e0,e1,e2,e3,e4⟩,hl0,hz,HL1,HR1,HB1,hlb⟩;have hkq:(kh==2)=true:=(by rw[<-hkh,HH.out];rfl);rw[HS.out] at hsn;subst hsn;clear hkh;have hn3:((len1:Int)==3)=true:=(by rw[HL1.out];rfl);obtain ⟨kf,nf,df,sf,of,lf,cf,HE2⟩:=zaB HR1.out (j:=1) rfl (ob+5) (ob+6) (ob+7) (ob+8) (ob+9) rfl rfl rfl rfl rfl;obtain ⟨f0,f1,f2,f3,f4,fr⟩:=HE2.out _ qzB;have HFR:=zh fr;clear fr;have hl2:1<len1:=(by have:=HL1.out;simp only[qzN,qzO] at this;omega)) | (go_at_call 21;refine (zao _ true HKY.out _).mono ?_;rintro e' wN ⟨rfl,rfl⟩) | (go_at_call 78;refine (HFO.out _ _ HFR.out).mono ?_;rintro e' wM ⟨rfl,hbM⟩) | fail)
 go_wp2_with fail
 go_loopg [4,10] 0 (fun g qv iv wr=>∃(i:Int),iv=.int .i64 i∧qv=.bool false∧g=0∧wM=wr)
 case atStart=>exact ⟨_,rfl,rfl,rfl,rfl⟩
 case round=>
  obtain ⟨i,rfl,rfl,rfl,rfl⟩:=hrel
  go_wp2_with fail
  go_ret
  exact ⟨rfl,Below.next HB1.out hbM⟩
theorem zh0 {_C:Dat->Bool} {x:Dat} {h:Dat} {t:List Dat} {v:Value} {w:World} (hin:CIn x h (t) v w) (hh:h.kind=2) (hs:h.s=⟨#[115,101,116,33]⟩) (hn:t.length≠2):ROut false v w:=by
 obtain ⟨k,n,d,s,o,len,cap,W0,rfl,hW0,⟨i0,i1,i2,i3,i4⟩,il,hk2,HBL,HIT⟩:=zaG hin
 have HN:=zh hn
 have HKY:=zh (show Sy.keyword ⟨#[115,101,116,33]⟩=true from by decide +kernel)
 have HS:=zh hs
 have HH:=zh hh
 unfold ROut
 clear hin hh hs hn
 go_enter func41,ntmps41
 go_upto_region 34 with (first | (go_at_call 55;refine HIT.out.mono ?_;rintro e' w1 ⟨bb,ob,len1,cap1,kh,nh,dh,sh,oh,lh,ch,rfl,hkh,hsn,⟨e0,e1,e2,e3,e4⟩,hl0,hz,HL1,HR1,HB1,hlb⟩;have hkq:(kh==2)=true:=(by rw[<-hkh,HH.out];rfl);rw[HS.out] at hsn;subst hsn;clear hkh;have hn3:((len1:Int)==3)=false:=beq_eq_false_iff_ne.2 (by have:=HN.out;have:=HL1.out;rw[qzN] at this;omega)) | (go_at_call 21;refine (zao _ true HKY.out _).mono ?_;rintro e' wN ⟨rfl,rfl⟩) | fail)
 go_wp2_with fail
 go_loopg [4,10] 0 (fun g qv iv wr=>∃(i:Int),iv=.int .i64 i∧qv=.bool false∧g=0∧wN=wr)
 case atStart=>exact ⟨_,rfl,rfl,rfl,rfl⟩
 case round=>
  obtain ⟨i,rfl,rfl,rfl,rfl⟩:=hrel
  go_wp2_with fail
  go_ret
  exact ⟨rfl,HB1.out⟩
end
end Go.Proofs.YtnbjhmafnigefaaGreatDoor
