/- .. -/
import Derived.Maps.Own
import Derived.Maps.OwnOps
import Derived.Maps.OwnSet
import Derived.Maps.Views
import Derived.Test.YtnbjhmafnigefaaGreatDoorSckA07
open Go.Proofs.Tryz
set_option maxRecDepth 100000
set_option maxHeartbeats 16000000
namespace Go.Proofs.YtnbjhmafnigefaaGreatDoor
section
open Go Go.RowKit Go.Maps Go.ChangeMaps Go.MapKept
theorem zi1:Keyed prog 9:=string_keyed underlying9
theorem isKeyS (x:List UInt8):WideAt.IsKeyLit (.string x):=by simp[WideAt.IsKeyLit]
theorem zeroSB (w:World):(zeroValue 4).run prog w=.ok (.bool false) w:=by kernel_rfl
theorem zgm (x:ByteArray) (hx:x.size<=140737488351232):keyOf prog 9 (.string x)=some (.string x.data.toList):=by
 simp[keyOf,mapKey,underlying9]
 unfold maxLen;omega
theorem zcA {H:Type} {P:Program} {e:TypeId} (he:P.underlying e=some .bool) {v:Value} {z:DataW H × List MemPlace} (h:plainElem P e v=some z):∃a,v=.bool a∧z=(.lit (.bool a),[]):=by
 unfold plainElem at h
 rw[he] at h
 cases v<;>simp at h
 exact ⟨_,rfl,h.symm⟩
def MapSB (W:World) (b n:Nat) (f:List UInt8->Bool):Prop:=∃D:DataW Unit,W.ownsMap prog 9 (plainElem prog 4) b n D∧IsMap D∧∀x,D.atKey (.string x) (.lit (.bool false))=.lit (.bool (f x))
theorem MapSB.new (W:World):MapSB (W.alloc (.map #[] 0)) W.heap.size 0 (fun _=>false):=⟨_,World.ownsMap_made _ _ _ _,isMap_empty,fun x=>by simp[DataW.atKey]⟩
theorem MapSB.lt {W:World} {b n:Nat} {f:List UInt8->Bool} (h:MapSB W b n f):b<W.heap.size:=let ⟨_,h,_⟩:=h;h.lt
theorem zes {P:Program} {k:TypeId} {R:Value->Option (DataW Unit × List MemPlace)} {W W':World} {b n:Nat} {D:DataW Unit} (h:W.ownsMap P k R b n D) (hb:W'.heap[b]?=W.heap[b]?):W'.ownsMap P k R b n D:=by
 obtain ⟨es,clock,h1,h2⟩:=h
 exact ⟨es,clock,hb.trans h1,h2⟩
theorem MapSB.same {W W':World} {b n:Nat} {f:List UInt8->Bool} (h:MapSB W b n f) (hb:W'.heap[b]?=W.heap[b]?):MapSB W' b n f:=let ⟨D,h1,h2⟩:=h;⟨D,zes h1 hb,h2⟩
theorem MapSB.keep {W W':World} {b n:Nat} {f:List UInt8->Bool} (h:MapSB W b n f) (hb:Below W.heap.size W W'):MapSB W' b n f:=h.same (hb.block _ h.lt)
theorem MapSB.put {D:DataW Unit} {f:List UInt8->Bool} (hD:IsMap D) (hf:∀x,D.atKey (.string x) (.lit (.bool false))=.lit (.bool (f x))) (k:List UInt8) (c:Bool):∀x,(D.put (.string k) (.lit (.bool c))).atKey (.string x) (.lit (.bool false))=.lit (.bool (if x=k then c else f x)):=fun x=>by
 by_cases h:x=k
 ·subst h;rw[atKey_put_same hD (isKeyS x),if_pos rfl]
 ·rw[atKey_put_other (by intro e;simp only[Lit.string.injEq] at e;exact h e),hf x,if_neg h]
section
variable {w : World} {ops : Array Oper} {rest : List Oper} {o : Oper} {a : Act} {Q : Exit -> Act -> World -> Prop}
theorem zc0 (hg:Region.wanted o (yielded ops a.tmps)=true) (m x:Operand) (hop:o.op=Op.lookup 93 m x false) (b n:Nat) (f:List UInt8->Bool) (hm:a.eval m=.map (some b)) (hown:MapSB w b n f) (k:ByteArray) (hkz:k.size<=140737488351232) (c:Bool) (hc:f k.data.toList=c) (hx:a.eval x=.string k)
  (hK:wpList prog ops Q rest (a.put o.dst (.bool c)) w):wpList prog ops Q (o::rest) a w:=by
 subst hc
 obtain ⟨D,h1,h2,h3⟩:=hown
 obtain ⟨v,ps,hrun,hv⟩:=h1.lookup zi1 underlying93 (zeroSB w) (plainElem_bool underlying4 false) (zgm k hkz)
 obtain ⟨c',rfl,hc⟩:=zcA underlying4 hv
 simp only[Prod.mk.injEq] at hc
 rw[h3] at hc
 obtain rfl:f k.data.toList=c':=by simpa using hc.1
 unfold wpList
 rw[if_pos hg]
 left
 unfold Oper.wp
 simp[execOp,hop,hm,hx,hrun,Result.andThen]
 exact hK
theorem zgg (hg:o.guard=none) (m x v:Operand) (hop:o.op=Op.mapUpdate 93 m x v) (b n:Nat) (f:List UInt8->Bool) (hm:a.eval m=.map (some b)) (hown:MapSB w b n f) (hn:n<1000000000000000) (k:ByteArray) (hkz:k.size<=140737488351232) (c:Bool) (hx:a.eval x=.string k) (hv:a.eval v=.bool c)
  (hK:∀w',MapSB w' b (n+1) (fun x=>if x=k.data.toList then c else f x)->w.grownBy w' (some b)->wpList prog ops Q rest (a.put o.dst undef) w'):wpList prog ops Q (o::rest) a w:=by
 obtain ⟨D,h1,h2,h3⟩:=hown
 refine wpList_mapUpdate_own w hg m x v _ hop 9 4 zi1 underlying93 _ b n D hm h1 (by unfold maxLen;omega) _ _ _ hx hv (zgm k hkz) _ _ (plainElem_bool underlying4 c) ?_
 intro w' h4 h5
 exact hK w' ⟨_,h4,h2.put _ _,MapSB.put h2 h3 _ c⟩ h5
end
namespace Sy
open Dat
def isVar (x:Dat):Bool:=x.kind==2 && !keyword x.s
def distinctF:List (List UInt8)->List Dat->Bool
 | _,[]=>true
 | met,x::l=>isVar x&&(!met.contains x.s.data.toList&&distinctF (x.s.data.toList::met) l)
def distinct (l:List Dat):Bool:=distinctF [] l
end Sy
def metF (met:List (List UInt8)) (x:List UInt8):Bool:=met.contains x
theorem zkX (met:List (List UInt8)) (k:List UInt8):(fun x=>decide (x=k) || metF met x)=metF (k::met):=by
 funext x
 unfold metF
 rw[List.contains_cons]
 by_cases h:x=k
 ·subst h;simp
 ·simp[h]
theorem zaM (l:List Dat) (sl:Value) (B:Nat) (w:World) (hv:RepS w B l sl) (hB:B<=w.heap.size) (hl:l.length<=1000000) :
  Calls prog 49 #[sl] w fun e w'=>e=.returned (.bool (Sy.distinct l))∧Below w.heap.size w w':=by
 obtain ⟨o,len,cap,rfl,hln,hcp,hmx,hrc⟩:=hv
 have HLN:=zh hln
 have HRC:=zh hrc
 have hlb:len<=1000000:=by omega
 have hmm:=@run_makeMap prog
 have HM0:=zh (MapSB.new w)
 have HB0:=zh (show Below w.heap.size w (w.alloc (.map #[] 0)) from Below.one _ _)
 have HD0:=zh (show Sy.distinct l=Sy.distinctF [] (l.drop 0) from rfl)
 clear hln hrc hl
 go_enter func49,ntmps49
 go_wp2_with fail
 go_loopg [9] len (fun g iv wr=>Hid (∃(i:Nat) (met:List (List UInt8)),iv=.int .i64 i∧g=len-i∧i<=len∧met.length=i∧MapSB wr w.heap.size i (metF met)∧Below w.heap.size w wr∧Sy.distinct l=Sy.distinctF met (l.drop i)))
 case atStart=>exact zh ⟨0,[],rfl,rfl,Nat.zero_le _,rfl,HM0.out,HB0.out,HD0.out⟩
 case round=>
  obtain ⟨i,met,rfl,rfl,hi,hml,hmp,hbl,hds⟩:=hrel.out
  clear hrel
  have HMP:=zh hmp
  have HBL:=zh hbl
  have HDS:=zh hds
  have hml2:=hmp.lt
  by_cases hlt:i<len
  ·obtain ⟨y,hy⟩:∃y,l[i]?=some y:=⟨_,List.getElem?_eq_getElem (by rw[<-HLN.out];exact hlt)⟩
   obtain ⟨b1,off1,k1,n1,d1,s1,l1,o1,len1,cap1,ho1,hx1,e0,e1,e2,e3,e4,er⟩:=zat HRC.out (hbl.mono hB) hy
   subst ho1
   have hb1:=zai e0
   obtain ⟨sl,_,_,_,_,hs1,_⟩:=er.open
   have hdrop:l.drop i=y::l.drop (i+1):=by
    have hl:i<l.length:=by rw[<-HLN.out];exact hlt
    rw[List.drop_eq_getElem_cons hl]
    congr 1
    have:=List.getElem?_eq_some_iff.1 hy
    exact this.2
   have HDR:=zh (show Sy.distinct l=(Sy.isVar y&&(!metF met s1.data.toList&&Sy.distinctF (s1.data.toList::met) (l.drop (i+1)))) from by rw[hds,hdrop,hx1];rfl)
   obtain ⟨vr,hvr⟩:∃vr,(k1==2 && !Sy.keyword s1)=vr:=⟨_,rfl⟩
   have HVAR:=zh hvr
   have HYV:=zh (show Sy.isVar y=vr from by rw[hx1];exact hvr)
   have HMLn:=zh hml
   clear hds hdrop hx1 er hvr hy hml
   go_upto_region 4 with fail
   go_upto_region 5 with fail
   have hb5:Box5 (wr.alloc (.cells #[.int .i64 k1,.int .i64 n1,.int .i64 d1,.string s1,.slice o1 len1 cap1] 26)) wr.heap.size 26 (.int .i64 k1) (.int .i64 n1) (.int .i64 d1) (.string s1) (.slice o1 len1 cap1):=Box5.new wr _ _ _ _ _ _
   have hbw:Below wr.heap.size wr (wr.alloc (.cells #[.int .i64 k1,.int .i64 n1,.int .i64 d1,.string s1,.slice o1 len1 cap1] 26)):=Below.one _ _
   have hm5:=hmp.keep hbw
   have hbl5:=hbl.trans (hbw.mono hbl.size)
   generalize wr.alloc (.cells #[.int .i64 k1,.int .i64 n1,.int .i64 d1,.string s1,.slice o1 len1 cap1] 26)=W1 at hb5 hbw hm5 hbl5 ⊢
   obtain ⟨r0,r1,r2,r3,r4⟩:=hb5.cells
   have rl:=hb5.lt
   have HB5:=zh hb5
   have HM1:=zh hm5
   have HBL1:=zh hbl5
   clear hb5 hbw hm5 hbl5 hmp hbl e0 e1 e2 e3 e4
   cases vr
   ·go_wp2_with (first | (go_at_call 72;refine (zbI k1 n1 d1 s1 o1 len1 cap1 _ _ HVAR.out).mono ?_;rintro e' w2 ⟨rfl,hb2⟩;have hb6:Box5 w2 wr.heap.size 26 (.int .i64 k1) (.int .i64 n1) (.int .i64 d1) (.string s1) (.slice o1 len1 cap1):=(hb2.block _ HB5.out.lt).trans HB5.out;clear r0 r1 r2 r3 r4;obtain ⟨r0,r1,r2,r3,r4⟩:=hb6.cells;have rl2:=hb6.lt;have HM2:=zh (HM1.out.keep hb2);have HB6:=zh hb6;have HBL2:=zh (HBL1.out.trans (hb2.mono HBL1.out.size));clear hb2 hb6))
    go_ret
    exact ⟨by rw[HDR.out,HYV.out];rfl,HBL2.out⟩
   ·cases hmt:metF met s1.data.toList
    ·have HMT:=zh hmt
     go_wp2_with (first | (go_at_call 72;refine (zbI k1 n1 d1 s1 o1 len1 cap1 _ _ HVAR.out).mono ?_;rintro e' w2 ⟨rfl,hb2⟩;have hb6:Box5 w2 wr.heap.size 26 (.int .i64 k1) (.int .i64 n1) (.int .i64 d1) (.string s1) (.slice o1 len1 cap1):=(hb2.block _ HB5.out.lt).trans HB5.out;clear r0 r1 r2 r3 r4;obtain ⟨r0,r1,r2,r3,r4⟩:=hb6.cells;have rl2:=hb6.lt;have HM2:=zh (HM1.out.keep hb2);have HB6:=zh hb6;have HBL2:=zh (HBL1.out.trans (hb2.mono HBL1.out.size));clear hb2 hb6) | (at_lookup;refine zc0 rfl _ _ rfl w.heap.size i (metF met) rfl HM2.out s1 hs1 false HMT.out rfl ?_) | (at_mapUpdate;refine zgg rfl _ _ _ rfl w.heap.size i (metF met) rfl HM2.out (by omega) s1 hs1 true rfl rfl ?_))
     intro w3 hm3 hg3
     have hw3:Below w.heap.size w w3:=HBL2.out.grown hg3 HBL2.out.size (fun g hg=>by simp only[Option.some.injEq] at hg;omega)
     rw[zkX] at hm3
     have HM3:=zh hm3
     have HW3:=zh hw3
     clear hm3 hg3 hw3
     go_wp2_with fail
     go_roundg (len-(i+1))
     case measure=>omega
     case rel=>exact zh ⟨i+1,s1.data.toList::met,by go_num,rfl,by omega,by rw[qzN,HMLn.out],HM3.out,HW3.out,by rw[HDR.out,HYV.out,HMT.out];rfl⟩
    ·have HMT:=zh hmt
     go_wp2_with (first | (go_at_call 72;refine (zbI k1 n1 d1 s1 o1 len1 cap1 _ _ HVAR.out).mono ?_;rintro e' w2 ⟨rfl,hb2⟩;have hb6:Box5 w2 wr.heap.size 26 (.int .i64 k1) (.int .i64 n1) (.int .i64 d1) (.string s1) (.slice o1 len1 cap1):=(hb2.block _ HB5.out.lt).trans HB5.out;clear r0 r1 r2 r3 r4;obtain ⟨r0,r1,r2,r3,r4⟩:=hb6.cells;have rl2:=hb6.lt;have HM2:=zh (HM1.out.keep hb2);have HB6:=zh hb6;have HBL2:=zh (HBL1.out.trans (hb2.mono HBL1.out.size));clear hb2 hb6) | (at_lookup;refine zc0 rfl _ _ rfl w.heap.size i (metF met) rfl HM2.out s1 hs1 true HMT.out rfl ?_))
     go_ret
     exact ⟨by rw[HDR.out,HYV.out,HMT.out];rfl,HBL2.out⟩
  ·have HE:=zh (show Sy.distinct l=true from by rw[hds,List.drop_of_length_le (by rw[<-HLN.out];omega)];rfl)
   clear hds hmp hbl
   go_wp2_with fail
   go_ret
   exact ⟨by rw[HE.out];rfl,HBL.out⟩
end
section
open Go Go.RowKit
def RSt (s:ByteArray) (l0:List Dat) (a:Nat) (m:Int) (g:Nat):Prop:=
 (∃r,m = -1∧Rd.At s a r∧Rd.A s.data.toList=(Rd.A r).map (l0 ++ ·)∧r.length+1<=g∧l0.length+r.length<=s.size) ∨
 (∃q,m=((s.size-q.length:Nat):Int)∧Rd.A s.data.toList=.bad q)
def RInv (s:ByteArray) (w:World) (g:Nat) (lv:Value) (wr:World):Prop:=Hid (∃(l0:List Dat) (a':Nat) (m:Int),RB wr w.heap.size s a' m∧GrownH wr (w.heap.size+1) (w.heap.size+1) l0 lv∧Below w.heap.size w wr∧RSt s l0 a' m g)
theorem zg7 (HD:∀n,RDatOk n) (s:ByteArray) (w:World) (hs:s.size<=65536):Calls prog 13 #[.string s] w (ReadPost s w):=by
 have hd0:decide (65536<(s.size:Int))=false:=by simp;omega
 obtain ⟨W0,hW0⟩:∃W0,w.alloc (.cells #[.string s,.int .i64 0,.int .i64 (-1)] 53)=W0:=⟨_,rfl⟩
 have HI:=zh (show RInv s w (s.size+1) (.slice none 0 0) W0 from zh ⟨[],0, -1,by rw[<-hW0];exact BoxL.new rfl _ _,GrownH.nil _ qzL,by rw[<-hW0];exact Below.one _ _,
  .inl ⟨s.data.toList,rfl,Rd.At.zero s,by cases Rd.A s.data.toList<;>rfl,qzL,by simp only[qzO,Nat.zero_add];exact qzL⟩⟩)
 go_enter func13,ntmps13
 go_wp2_with fail
 clear hW0
 go_loopg [6] (s.size+1) (fun g lv wr=>RInv s w g lv wr)
 case atStart=>exact HI.out
 case round=>
  obtain ⟨l0,a1,m,hrb,hg,hbl,hst⟩:=hrel.out
  clear hrel HI
  obtain ⟨o3,len3,cap3,hv3,hl3⟩:=hg.form
  subst hv3
  have HLN:=zh hl3
  have HG:=zh hg
  have HRB:=zh hrb
  have HBL:=zh hbl
  have hmb:=hrb.cell 2 rfl
  have hzl:=hrb.lt
  clear hl3 hg hbl
  rcases hst with ⟨r1,rfl,hat1,hA,hle,jk⟩ | ⟨q,rfl,hA⟩
  ·have hC:=zb3 _ s a1 (-1) r1 wr hrb hat1 hs
   have hq:=hat1.suf (Rd.skip_suf r1 false)
   have hql:=Rd.skip_le r1 false
   obtain ⟨k,hk⟩:∃k,s.size-(Rd.skip false r1).length=k:=⟨_,rfl⟩
   rw[hk] at hC
   cases hsk:Rd.skip false r1 with
   | nil=>
    rw[hsk] at hC hk
    have hkn:k=s.size:=by simpa using hk.symm
    have heq:((k:Int)==(s.size:Int))=true:=by simp;omega
    have HC:=zh hC
    have HD2:=zh (zdB (l:=l0) (q:=[]) hs (by rw[hA,Rd.A_nil hsk];simp[Rd.Res.map]))
    clear hC hq hql hrb hat1 hA hsk hk hkn
    go_upto_region 7 with (first | (go_at_call 34;refine HC.out.mono ?_;rintro e' w1 ⟨rfl,hr1,ht1⟩;have c1:=hr1.cell 1 rfl;have hl:=hr1.lt;have HP9:=zh hr1;have HT:=zh ht1;clear hr1 ht1))
    go_wp2_with fail
    refine bodyPost_ret (v:=.tuple #[.slice o3 len3 cap3,.int .i64 s.size,.int .i64 0]) (by simp[results,results13,go_sem]) rfl ?_
    refine ⟨_,by rw[HD2.out];rfl,by rw[HD2.out];exact (HG.out.turned HT.out (fun q _ hq=>by unfold Lo;omega)).rep.unhide,⟨_,_,_,rfl⟩,HBL.out.trans (HT.out.below (fun q hq=>by omega) HBL.out.size)⟩
   | cons c t=>
    rw[hsk] at hC hk hq hql
    simp only[qzN] at hql
    have heq:((k:Int)==(s.size:Int))=false:=by have:=hq.1;simp only[qzN] at this hk;simp;omega
    have HC:=zh hC
    have hqk:Rd.At s k (c::t):=by rw[<-hk];exact hq
    have hgood:=Rd.D_good (c::t)
    have hAc:=Rd.A_cons hsk
    have HCL:=zh (fun (W:World) (dp':Int) (hW:RB W w.heap.size s k (-1))=>HD _ _ s k (c::t) W dp' (Nat.lt_succ_self _) hW hqk hs)
    have HK:=zh hk
    clear hC hrb hat1 hsk hk hq
    go_upto_region 10 with (first | (go_at_call 34;refine HC.out.mono ?_;rintro e' w1 ⟨rfl,hr1,ht1⟩;have c1:=hr1.cell 1 rfl;have hl:=hr1.lt;have HP9:=zh hr1;have HT:=zh ht1;clear hr1 ht1))
    go_upto_region 11 with (first | (go_at_call 35;refine (HCL.out _ _ HP9.out).mono ?_;rintro e' w2 ⟨x,k9,n9,d9,s9,o9,len9,cap9,a9,m9,rfl,ji,hrb2,ht2,hf⟩))
    have hn01:wr.heap.size<=w1.heap.size:=HT.out.size
    have hn12:w1.heap.size<=w2.heap.size:=ht2.size
    have hb4:Box5 (w2.alloc (.cells #[.int .i64 k9,.int .i64 n9,.int .i64 d9,.string s9,.slice o9 len9 cap9] 26)) w2.heap.size 26 (.int .i64 k9) (.int .i64 n9) (.int .i64 d9) (.string s9) (.slice o9 len9 cap9):=Box5.new w2 _ _ _ _ _ _
    have hr4:RB (w2.alloc (.cells #[.int .i64 k9,.int .i64 n9,.int .i64 d9,.string s9,.slice o9 len9 cap9] 26)) w.heap.size s a9 m9:=BoxL.alloc hrb2 _
    have ht4:Turned (fun c=>c=w.heap.size) wr (w2.alloc (.cells #[.int .i64 k9,.int .i64 n9,.int .i64 d9,.string s9,.slice o9 len9 cap9] 26)):=(HT.out.next ht2).next (Turned.of_below (Below.one _ _))
    have hx4:RepD (hide (w2.alloc (.cells #[.int .i64 k9,.int .i64 n9,.int .i64 d9,.string s9,.slice o9 len9 cap9] 26)) (Lo w1.heap.size)) (w2.alloc (.cells #[.int .i64 k9,.int .i64 n9,.int .i64 d9,.string s9,.slice o9 len9 cap9] 26)).heap.size x (.agg #[.int .i64 k9,.int .i64 n9,.int .i64 d9,.string s9,.slice o9 len9 cap9]):=ji.shown (Shown.below (Below.one w2 _)) (by simp)
    generalize w2.alloc (.cells #[.int .i64 k9,.int .i64 n9,.int .i64 d9,.string s9,.slice o9 len9 cap9] 26)=W4 at hb4 hr4 ht4 hx4 ⊢
    generalize w2.heap.size=E at hb4 hn12 ⊢
    have HB4:=zh hb4
    have HR4:=zh hr4
    have HT4:=zh ht4
    have HX4:=zh hx4
    have HF:=zh hf
    have u2:=hr4.cell 2 rfl
    have ul:=hr4.lt
    obtain ⟨p0,p1,p2,p3,p4⟩:=hb4.cells
    have pl:=hb4.lt
    have HG4:=zh (HG.out.turned ht4 (fun q _ hq=>by unfold Lo;omega))
    have hz4:=ht4.size
    have hl0:l0.length<=1000000:=by omega
    have hk1:w.heap.size+1<=w1.heap.size:=by omega
    have HROW:=zh (fun (g:Nat) (hg:(Value.slice o3 len3 cap3).ownBlock=some g)=>qzM (HG.out.block hg).2 hn01)
    have HBL4:=zh (HBL.out.trans (ht4.below (fun q hq=>by omega) HBL.out.size))
    clear hb4 hr4 ht4 hx4 hf hrb2 ji ht2 c1 hl hmb
    cases hD:Rd.D (c::t) with
    | bad q=>
     have hm9:=HF.out
     rw[hD] at hm9
     obtain rfl:m9=((s.size-q.length:Nat):Int):=hm9
     have hlt9:decide ((((s.size-q.length:Nat):Int))<0)=false:=by simp
     have HA2:=zh (show Rd.A s.data.toList=.bad q from by rw[hA,hAc,hD];rfl)
     have HGX:=HG4
     have HRX:=HX4
     have HBX:=HR4
     have HBLX:=HBL4
     have hk2:w.heap.size+1<=W4.heap.size:=by omega
     clear hD hA hAc hgood hqk
     go_wp2_with (first | (at_builtin;refine zbU rfl (.tmp 51) (.tmp 53) rfl (w.heap.size+1) (w.heap.size+1) w1.heap.size _ l0 x _ _ _ _ _ rfl HGX.out HRX.out hk1 (fun g hg=>HROW.out g hg) hl0 hk2 rfl ?_))
     intro g7 cap7 w3 hg3 ht3
     have hrow:∀q,(Value.slice o3 len3 cap3).ownBlock=some q->w.heap.size<q:=fun q hq=>(HG.out.block hq).1
     have HPB:=zh (show RB w3 w.heap.size s a9 ((s.size-q.length:Nat):Int) from ht3.box HBX.out (fun hq=>by have:=hrow _ hq;omega))
     have HBL3:=zh (HBLX.out.trans (ht3.below (fun q hq=>by have:=hrow q hq;omega) HBLX.out.size))
     have HG3:=zh hg3
     clear hg3 ht3 hrow
     go_wp2_with fail
     go_roundg 0
     case measure=>omega
     case rel=>exact zh ⟨l0++[x],a9,_,HPB.out,HG3.out,HBL3.out,.inr ⟨q,rfl,HA2.out⟩⟩
    | ok z q=>
     have hm9:=HF.out
     rw[hD] at hm9 hAc hgood
     obtain ⟨rfl,rfl,rfl⟩:=hm9
     have hRt:=fun (W:World) (hW:Below W4.heap.size W4 W) (r:Bool) (hr:Dat.right x 0=r)=>zgy x (.agg #[.int .i64 k9,.int .i64 n9,.int .i64 d9,.string s9,.slice o9 len9 cap9]) W4.heap.size W r hr (HX4.out.unhide.kept hW) hW.size
     have HQA:=zh (hqk.suf hgood.1)
     have hql2:q.length<r1.length:=by have:=hgood.2;simp only[qzN] at this;omega
     cases hri:Dat.right x 0 with
     | true=>
      have HRT:=zh (hRt W4 qzB true hri)
      have HA2:=zh (show Rd.A s.data.toList=(Rd.A q).map ((l0++[x]) ++ ·) from by
       rw[hA,hAc];simp only;rw[hri,if_pos rfl]
       cases Rd.A q<;>simp[Rd.Res.map])
      clear hD hA hAc hgood hqk hRt hri
      go_upto_region 13 with (first | (go_at_call 31;refine HRT.out.mono ?_;rintro e' w5 ⟨rfl,hb5⟩))
      have HGX:=zh (HG4.out.below hb5)
      have HRX:=zh (HX4.out.shown (Shown.below hb5) hb5.size)
      have HBX:=zh (show RB w5 w.heap.size s (s.size-q.length) (-1) from BoxL.keep HR4.out hb5)
      have HBLX:=zh (HBL4.out.trans (hb5.mono HBL4.out.size))
      have hk2:w.heap.size+1<=w5.heap.size:=by have:=hb5.size;omega
      have hb6:Box5 w5 E 26 (.int .i64 k9) (.int .i64 n9) (.int .i64 d9) (.string s9) (.slice o9 len9 cap9):=(hb5.block _ HB4.out.lt).trans HB4.out
      clear p0 p1 p2 p3 p4 pl hb5 u2 ul
      obtain ⟨p0,p1,p2,p3,p4⟩:=hb6.cells
      have pl:=hb6.lt
      clear hb6
      go_wp2_with (first | (at_builtin;refine zbU rfl (.tmp 51) (.tmp 53) rfl (w.heap.size+1) (w.heap.size+1) w1.heap.size _ l0 x _ _ _ _ _ rfl HGX.out HRX.out hk1 (fun g hg=>HROW.out g hg) hl0 hk2 rfl ?_))
      intro g7 cap7 w3 hg3 ht3
      have hrow:∀q,(Value.slice o3 len3 cap3).ownBlock=some q->w.heap.size<q:=fun q hq=>(HG.out.block hq).1
      have HPB:=zh (show RB w3 w.heap.size s (s.size-q.length) (-1) from ht3.box HBX.out (fun hq=>by have:=hrow _ hq;omega))
      have HBL3:=zh (HBLX.out.trans (ht3.below (fun q hq=>by have:=hrow q hq;omega) HBLX.out.size))
      have HG3:=zh hg3
      clear hg3 ht3 hrow
      go_wp2_with fail
      go_roundg (q.length+1)
      case measure=>omega
      case rel=>exact zh ⟨l0++[x],_,_,HPB.out,HG3.out,HBL3.out,.inl ⟨q,rfl,HQA.out,HA2.out,qzL,by rw[List.length_append,List.length_singleton];omega⟩⟩
     | false=>
      have HRT:=zh (hRt W4 qzB false hri)
      have HA2:=zh (show Rd.A s.data.toList=.bad (c::t) from by
       rw[hA,hAc];simp only;rw[hri];rfl)
      have HFL:=zh (fun (W:World) (hW:RB W w.heap.size s (s.size-q.length) (-1))=>zb7 w.heap.size s (s.size-q.length) (-1) (k:Int) W hW)
      clear hD hA hAc hgood hqk hRt hri
      go_upto_region 12 with (first | (go_at_call 31;refine HRT.out.mono ?_;rintro e' w5 ⟨rfl,hb5⟩))
      have HR5:=zh (show RB w5 w.heap.size s (s.size-q.length) (-1) from BoxL.keep HR4.out hb5)
      have HB5:=zh hb5
      go_upto_region 13 with (first | (go_at_call 36;refine (HFL.out _ HR5.out).mono ?_;rintro e' w6 ⟨rfl,hr6,ht6⟩))
      have HGX:=zh ((HG4.out.below HB5.out).turned ht6 (fun q _ hq=>by unfold Lo;omega))
      have HRX:=zh ((HX4.out.shown (Shown.below HB5.out) HB5.out.size).shown (Shown.turned ht6 fun q _ hq=>by unfold Lo;omega) ht6.size)
      have HBX:=zh (show RB w6 w.heap.size s (s.size-q.length) (k:Int) from by rw[if_pos (by decide)] at hr6;exact hr6)
      have HBLX:=zh ((HBL4.out.trans (HB5.out.mono HBL4.out.size)).trans (ht6.below (fun q hq=>by omega) (Nat.le_trans HBL4.out.size HB5.out.size)))
      have hk2:w.heap.size+1<=w6.heap.size:=by have:=HB5.out.size;have:=ht6.size;omega
      have hb6:Box5 w6 E 26 (.int .i64 k9) (.int .i64 n9) (.int .i64 d9) (.string s9) (.slice o9 len9 cap9):=(ht6.block _ (qzM HB4.out.lt HB5.out.size) (by omega)).trans ((HB5.out.block _ HB4.out.lt).trans HB4.out)
      clear p0 p1 p2 p3 p4 pl hb5 u2 ul hr6 ht6
      obtain ⟨p0,p1,p2,p3,p4⟩:=hb6.cells
      have pl:=hb6.lt
      clear hb6
      go_wp2_with (first | (at_builtin;refine zbU rfl (.tmp 51) (.tmp 53) rfl (w.heap.size+1) (w.heap.size+1) w1.heap.size _ l0 x _ _ _ _ _ rfl HGX.out HRX.out hk1 (fun g hg=>HROW.out g hg) hl0 hk2 rfl ?_))
      intro g7 cap7 w3 hg3 ht3
      have hrow:∀q,(Value.slice o3 len3 cap3).ownBlock=some q->w.heap.size<q:=fun q hq=>(HG.out.block hq).1
      have HPB:=zh (show RB w3 w.heap.size s (s.size-q.length) (k:Int) from ht3.box HBX.out (fun hq=>by have:=hrow _ hq;omega))
      have HBL3:=zh (HBLX.out.trans (ht3.below (fun q hq=>by have:=hrow q hq;omega) HBLX.out.size))
      have HG3:=zh hg3
      clear hg3 ht3 hrow
      go_wp2_with fail
      go_roundg 0
      case measure=>omega
      case rel=>exact zh ⟨l0++[x],_,_,HPB.out,HG3.out,HBL3.out,.inr ⟨c::t,by rw[<-HK.out],HA2.out⟩⟩
  ·have hd1:decide ((((s.size-q.length:Nat):Int))<0)=false:=by simp
   have HD2:=zh (zjE (q:=q) hs hA)
   clear hA hrb
   go_wp2_with fail
   go_quiet (fail)
   go_wp2_with fail
   refine bodyPost_ret (v:=.tuple #[.slice none 0 0,.int .i64 ((s.size-q.length:Nat):Int),.int .i64 2]) (by simp[results,results13,go_sem]) rfl ?_
   refine ⟨.slice none 0 0,by rw[HD2.out];rfl,by rw[HD2.out];exact zhT _ _,⟨_,_,_,rfl⟩,Below.drewN HBL.out _⟩
theorem zdL:∀n,RDatOk n
 | 0=>fun _ _ _ _ _ _ h=>by omega
 | n+1=>fun b s a r w dp h hp hat hs=>zhh n (zdL n) (fun b s a r w p dp h hp hat hs=>zjo n (zdL n) b s a r w p dp h hp hat hs) b s a r w dp h hp hat hs
theorem zi8 (s:ByteArray) (w:World) (hz:s.size<=9223372036854775807):Calls prog 13 #[.string s] w (ReadPost s w):=by
 by_cases h:s.size<=65536
 ·exact zg7 zdL s w h
 ·have hD:readD s=(none,65536):=by unfold readD;rw[if_pos (by omega)]
  have HD2:=zh hD
  have hd0:decide (65536<(s.size:Int))=true:=by simp;omega
  clear hD h
  go_enter func13,ntmps13
  go_wp2_with fail
  refine bodyPost_ret (v:=.tuple #[.slice none 0 0,.int .i64 65536,.int .i64 2]) (by simp[results,results13,go_sem]) rfl ?_
  exact ⟨.slice none 0 0,by rw[HD2.out];rfl,by rw[HD2.out];exact zhT _ _,⟨_,_,_,rfl⟩,qzB⟩
end
section
open Go Go.RowKit
def badE:List PanicEntry:=[{ v:=.iface 42 (.agg #[]),recovered:=false }]
theorem zah (w:World):Calls prog 30 #[.bool true] w fun e w'=>(∃v,e=.returned v)∧w'=w:=by
 go_enter func30,ntmps30
 go_wp2_with fail
 go_end0
 exact ⟨⟨_,rfl⟩,rfl⟩
theorem zaf (w:World):Calls prog 30 #[.bool false] w fun e w'=>e=.panicked badE∧w'=w:=by
 go_enter func30,ntmps30
 go_wp2_with fail
 exact ⟨rfl,rfl,rfl⟩
namespace Sy
open Dat
def formals (x:Dat):Bool:=distinct (if (split x).2.kind=4 then (split x).1 else (split x).1++[(split x).2])
end Sy
theorem zbd {w:World} {B:Nat} {l:List Dat} {o:Option Addr} {len cap:Nat} (h:RepS w B l (.slice o len cap)):len=l.length∧len<=cap:=by
 obtain ⟨o5,len5,cap5,he5,hl5,h1,_⟩:=h
 simp only[Value.slice.injEq] at he5
 obtain ⟨rfl,rfl,rfl⟩:=he5
 exact ⟨hl5,h1⟩
theorem zaY (x:Dat):(Sy.split x).1.length+1<=Dat.all x:=by
 induction x using Dat.ind with
 | h k n d s l ih=>
  by_cases hk:k=6
  ·match l,ih with
   | [a,b],ih=>
    rw[Sy.split_pair hk]
    have h1:=ih b (by simp)
    have h2:=Sy.all_pos a
    simp only[qzN,Dat.all,Dat.allL]
    omega
   | [],_=>simp[Sy.split,Dat.all]
   | [_],_=>simp[Sy.split,Dat.all]
   | _::_::_::_,_=>simp[Sy.split,Dat.all]
  ·rw[Sy.split_other hk]
   simp[Dat.all]
theorem zch (S:Nat->Prop) (x:Dat) (v:Value) (B:Nat) (w:World) (hS:∀b,S b->b<w.heap.size) (hv:RepD (hide w S) B x v) (hB:B<=w.heap.size) (hsh:Dat.shaped x=true) (hal:Dat.all x<=100000) :
  Calls prog 75 #[v] w fun e w'=>e=.returned (.bool (Sy.formals x))∧Below w.heap.size w w':=by
 obtain ⟨k,n,d,st,o,len,cap,rfl⟩:=zae hv.unhide
 obtain ⟨W0,hW0⟩:∃W0,w.alloc (.cells #[.int .i64 k,.int .i64 n,.int .i64 d,.string st,.slice o len cap] 26)=W0:=⟨_,rfl⟩
 have hb:Box5 W0 w.heap.size 26 (.int .i64 k) (.int .i64 n) (.int .i64 d) (.string st) (.slice o len cap):=by rw[<-hW0];exact Box5.new w _ _ _ _ _ _
 have hbl:Below w.heap.size w W0:=by rw[<-hW0];exact Below.one _ _
 have HC:=zh (zc8 S x (.agg #[.int .i64 k,.int .i64 n,.int .i64 d,.string st,.slice o len cap]) B W0 (fun b h=>qzM (hS b h) hbl.size) (hv.kept (zbp (hbl.mono hB))) (Nat.le_trans hB hbl.size) hsh hal)
 obtain ⟨p0,p1,p2,p3,p4⟩:=hb.cells
 have pl:=hb.lt
 have HBL:=zh hbl
 have HW0:=zh hW0
 have hsl:=zaY x
 clear hb hbl hW0 hv hsh hS
 go_enter func75,ntmps75
 go_upto_region 1 with fail
 rw[HW0.out]
 go_upto_region 2 with (first | (go_at_call 99;refine HC.out.mono ?_;rintro e' w1 ⟨o',len',cap',ek,en,ed,es,eo,el,ec,rfl,hl1,he1,hb1⟩))
 have hbe:Box5 (w1.alloc (.cells #[.int .i64 ek,.int .i64 en,.int .i64 ed,.string es,.slice eo el ec] 26)) w1.heap.size 26 (.int .i64 ek) (.int .i64 en) (.int .i64 ed) (.string es) (.slice eo el ec):=Box5.new w1 _ _ _ _ _ _
 have je:Below w1.heap.size w1 (w1.alloc (.cells #[.int .i64 ek,.int .i64 en,.int .i64 ed,.string es,.slice eo el ec] 26)):=Below.one _ _
 have hek:=zaE he1
 have hg2:=hl1.below je
 have he2:=he1.shown (Shown.below (S:=SR S (.slice o' len' cap')) je) je.size
 have hb2:=HBL.out.trans ((hb1.trans (je.mono hb1.size)).mono HBL.out.size)
 generalize w1.alloc (.cells #[.int .i64 ek,.int .i64 en,.int .i64 ed,.string es,.slice eo el ec] 26)=W2 at hbe je hg2 he2 hb2 ⊢
 have hw2:=hbe.lt
 generalize w1.heap.size=E at hbe hw2
 obtain ⟨q0,q1,q2,q3,q4⟩:=hbe.cells
 have HB2:=zh hb2
 have HG2:=zh hg2
 have HK:=zh (zax (x:=(Sy.split x).2) (sr_lt hg2 qzL) he2)
 have HSL:=zh hsl
 have HEK:=zh hek
 clear hbe je hl1 he1 hb1 hb2 hg2 he2 hsl hek p0 p1 p2 p3 p4 pl
 by_cases hk:ek=4
 ·subst hk
  have HD:=zh (zaM (Sy.split x).1 (.slice o' len' cap') W2.heap.size W2 (HG2.out.rep.unhide) qzL (by have:=HSL.out;omega))
  have HF:=zh (show Sy.formals x=Sy.distinct (Sy.split x).1 from by unfold Sy.formals;rw[if_pos HEK.out])
  go_wp2_with (first | (go_at_call 49;refine HD.out.mono ?_;rintro e' w3 ⟨rfl,hb3⟩) | fail)
  go_ret
  exact ⟨by rw[HF.out];rfl,HB2.out.trans (hb3.mono HB2.out.size)⟩
 ·have hk4:(ek != 4)=true:=by simpa using hk
  have HF:=zh (show Sy.formals x=Sy.distinct ((Sy.split x).1++[(Sy.split x).2]) from by unfold Sy.formals;rw[if_neg (by rw[HEK.out];exact hk)])
  go_wp2_with (first | (at_builtin;go_loud (refine zaj rfl fun K hK=>zav (S:=S) (.tmp 13) (.tmp 15) rfl W0.heap.size (.slice o' len' cap') (.slice (some ⟨W2.heap.size,0,none⟩) 1 1) (Sy.split x).1 [(Sy.split x).2] rfl (zh (HG2.out.below (Below.one _ _))) rfl HK (by simp;have:=HSL.out;omega) fun o7 len7 cap7 w7 h7 h8 h9 h10=>hK _ _ ?_)) | (go_at_call 49;refine (zaM _ _ _ _ (h7.out.rep.unhide) qzL (by simp;have:=HSL.out;omega)).mono ?_;rintro e' w3 ⟨rfl,hb3⟩) | fail)
  go_ret
  have je:Below w.heap.size W2 (W2.alloc (.cells #[.int .i64 ek,.int .i64 en,.int .i64 ed,.string es,.slice eo el ec] 26)):=(Below.one W2 _).mono HB2.out.size
  have h8':=h8.out.mono HBL.out.size
  exact ⟨by rw[HF.out];rfl,HB2.out.trans (je.trans (h8'.trans (hb3.mono (Nat.le_trans (Nat.le_trans HB2.out.size je.size) h8'.size))))⟩
end
section
open Go Go.RowKit
section
def InvPostH (I:Array Bool->Act->World->Prop) (listed:Array Bool) (i:Nat) (o:Oper) (a:Act) (e:Exit) (a':Act) (w':World):Prop:=e=.normal∧∃v,a'=a.put o.dst v∧I (listed.setIfInBounds i true) a' w'
theorem zbO {P:Program} {id:Nat} {Q:Exit->Act->World->Prop} {a0:Act} {w:World} {l:List Oper} (n:Nat) (I:Array Bool->Act->World->Prop) (hm:P.follows .mixedOrders=true) (hB:monoB l.toArray n a0.tmps.size=true)
  (h0:I (Array.replicate l.toArray.size false) a0 w.drew)
  (hops:∀i o,i<n->l.toArray[i]?=some o->∀(listed:Array Bool) (a:Act) (w1:World),listed.size=l.toArray.size->a.defers=a0.defers->a.tmps.size=a0.tmps.size->Rest l.toArray n a0 a->I listed a w1->listed.getD i false=false->(∀e∈o.after,Region.binds .any e=true->listed.getD e.on false=true) ->
   wpList P l.toArray (InvPostH I listed i o a) [o] a w1)
  (hend:∀(listed:Array Bool) (a:Act) (w1:World),(∀i,i<n->listed.getD i false=true)->a.defers=a0.defers->a.tmps.size=a0.tmps.size->Rest l.toArray n a0 a->I listed a w1->wpList P l.toArray Q (l.drop n) a w1) :
  (Code.region id l.toArray true).wp P Q a0 w:=by
 simp only[monoB,monoG,Bool.and_eq_true,decide_eq_true_eq] at hB
 obtain ⟨⟨h1,h2,h3,h4,h5,h6⟩,h7⟩:=hB
 refine wp_region_any hm ?_
 have inv0:HeadInv .any l.toArray n (Array.replicate l.toArray.size false):=
  ⟨by simp,fun j oj _ hl=>(by rw[getD_replicate_false] at hl;cases hl),fun t _ ht=>getD_in (by simpa using ht) (getD_replicate_false _ _)⟩
 have hcount:((List.range n).filter fun i=>!(Array.replicate l.toArray.size false).getD i true).length=n:=by
  rw[List.filter_eq_self.2]
  ·simp
  ·intro i hi
   have:i<l.toArray.size:=by have:=List.mem_range.1 hi;omega
   have h':i<l.length:=by simpa using this
   simp[h']
 have:=zdS (P:=P) (Q:=Q) (g:=l.toArray.size-n) (I:=fun listed a w=>listed.size=l.toArray.size∧a.defers=a0.defers∧a.tmps.size=a0.tmps.size∧Rest l.toArray n a0 a∧I listed a w) h1 h2 h3 h4 ?_ ?_ n _ a0 w.drew hcount inv0
  ⟨by simp,rfl,rfl,fun _ _=>rfl,h0⟩
 ·rwa[show n+(l.toArray.size-n)=l.toArray.size by omega] at this
 ·rintro listed a w1 i ⟨hls,hdf,hsz,ja,hI⟩ hi hr
  obtain ⟨hun,o,ho,hdeps⟩:=mem_ready.1 hr
  unfold wpOp
  simp only[ho]
  have hg:Region.wanted o (yielded l.toArray a.tmps)=true:=zcg (R:=fun _ _ _=>True) (w:=w1) h7 (fun _ h=>by cases h) hi ho (by rw[hsz];exact qzL) (fun _ _ _ _ _ _ _=>trivial)
  rw[if_pos hg]
  left
  refine Oper.wp_mono ?_ (zc7 (ops:=l.toArray) hg (hops i o hi ho listed a w1 hls hdf hsz ja hI (by
   have hlt:i<listed.size:=by rw[hls];omega
   simpa[hlt] using hun) hdeps))
  rintro a' w' ⟨v,rfl,hI'⟩
  refine ⟨by simpa using hls,?_,?_,?_,hI'⟩
  ·cases o.dst<;>exact hdf
  ·cases hdst:o.dst with
   | none=>exact hsz
   | some d=>simpa[Act.put] using hsz
  ·intro t ht
   cases hdst:o.dst with
   | none=>exact ja t ht
   | some d'=>
    have hd':d' < a.tmps.size:=by
     have g1:=List.all_eq_true.1 (List.all_eq_true.1 h5 i (List.mem_range.2 hi)) i (List.mem_range.2 hi)
     simp only[ho,hdst,Bool.and_eq_true,decide_eq_true_eq] at g1
     rw[hsz];exact g1.1
    rw[zaO hd',if_neg ?_]
    ·exact ja t ht
    ·rintro rfl;exact ht i o hi ho hdst
 ·rintro listed a w1 ⟨hls,hdf,hsz,ja,hI⟩ inv hall
  have hdl:(l.drop n).length=l.toArray.size-n:=by simp
  have g:=wpAny_of_seq (md:=.any) (Q':=Q) (l.drop n) n listed a w1 (fun j=>by simp[List.getElem?_drop]) (by rw[hdl,zbV h4 inv hall];exact h6)
   (hend listed a w1 (fun i hi=>by
    have:=hall i hi
    have hlt:i<listed.size:=by rw[hls];omega
    simpa[hlt] using this) hdf hsz ja hI)
  rwa[hdl] at g
theorem zaV {ops:Array Oper} {n m i j d e:Nat} {oi oj:Oper} (h:slotsB ops n m=true) (hi:i<n) (hj:j<n) (hoi:ops[i]?=some oi) (hoj:ops[j]?=some oj) (hd:oi.dst=some d) (he:oj.dst=some e):d<m∧(i=j∨d≠e):=by
 have:=List.all_eq_true.1 (List.all_eq_true.1 h i (List.mem_range.2 hi)) j (List.mem_range.2 hj)
 simp only[hoi,hoj,hd,he,Bool.and_eq_true,decide_eq_true_eq,Bool.or_eq_true] at this
 exact this
end
theorem GrownS.other {W W':World} {S:Nat->Prop} {base:Nat} {l2 l1':List Dat} {v1 v2 v1':Value} (h:GrownS W (SR S v1) base l2 v2) (h1:GrownS W' (SR S v2) base l1' v1') (ht:Turned (fun b=>v1.ownBlock=some b) W W') (hs:Shown W (SR (SR S v2) v1) W' (SR (SR S v2) v1')):GrownS W' (SR S v1') base l2 v2:=by
 have hx:=h.turned ht fun b _ hb=>.inr hb
 obtain ⟨h0,hap,h00,xs,k1,k2⟩:=h
 obtain ⟨g0,gap,g00,ys,m1,m2⟩:=hx
 obtain ⟨f0,fap,_⟩:=h1
 refine ⟨fun b hb=>?_,fun g hg hb=>?_,g00,xs,?_,?_⟩
 ·rcases hb with hb | hb
  ·exact g0 b (.inl hb)
  ·exact GrownS.block (l:=l1') ⟨f0,fap,‹_›⟩ hb |>.2
 ·rcases hb with hb | hb
  ·exact hap g hg (.inl hb)
  ·exact fap g hb (.inr hg)
 ·refine ⟨k1.1,?_⟩
  rcases k1.2 with h' | ⟨g,cap,cur,rfl,q2,q3,q4⟩
  ·exact .inl h'
  ·refine .inr ⟨g,cap,cur,rfl,q2,?_,q4⟩
   exact (ht.block g (k1.lt g rfl).2 fun hv=>hap g rfl (.inr hv)).trans q3
 ·refine k2.shown ?_ ht.size
  refine (Shown.less W (S':=SR (SR S v2) v1) fun b _ hb=>?_).trans (hs.trans (Shown.less W' fun b _ hb=>?_))
  ·rcases hb with (hb | hb) | hb
   ·exact .inl (.inl hb)
   ·exact .inr hb
   ·exact .inl (.inr hb)
  ·rcases hb with (hb | hb) | hb
   ·exact .inl (.inl hb)
   ·exact .inr hb
   ·exact .inl (.inr hb)
def Twin (W:World) (S:Nat->Prop) (base:Nat) (lA lB:List Dat) (vA vB:Value):Prop:=GrownS W (SR S vB) base lA vA∧GrownS W (SR S vA) base lB vB
theorem Twin.symm {W:World} {S:Nat->Prop} {base:Nat} {lA lB:List Dat} {vA vB:Value} (h:Twin W S base lA lB vA vB):Twin W S base lB lA vB vA:=⟨h.2,h.1⟩
theorem Shown.swap {W W':World} {S:Nat->Prop} {v1 v2 v1' v2':Value} (h:Shown W (SR (SR S v2) v1) W' (SR (SR S v2') v1')):Shown W (SR (SR S v1) v2) W' (SR (SR S v1') v2'):=by
 refine (Shown.less W (S':=SR (SR S v2) v1) fun b _ hb=>?_).trans (h.trans (Shown.less W' fun b _ hb=>?_))
 ·rcases hb with (hb | hb) | hb
  ·exact .inl (.inl hb)
  ·exact .inr hb
  ·exact .inl (.inr hb)
 ·rcases hb with (hb | hb) | hb
  ·exact .inl (.inl hb)
  ·exact .inr hb
  ·exact .inl (.inr hb)
def Half (W:World) (S:Nat->Prop) (vA vB:Value) (a:Dat) (xa:Value) (made:Bool) (x:Value):Prop:=RepD (hide W (SR (SR S vB) vA)) W.heap.size a xa∧(made=true->RepS (hide W (SR (SR S vB) vA)) W.heap.size [a] x)
theorem Half.shown {W W':World} {S:Nat->Prop} {vA vB vA' vB':Value} {a:Dat} {xa x:Value} {made:Bool} (h:Half W S vA vB a xa made x) (hs:Shown W (SR (SR S vB) vA) W' (SR (SR S vB') vA')) (hz:W.heap.size<=W'.heap.size):Half W' S vA' vB' a xa made x:=⟨h.1.shown hs hz,fun hm=>(h.2 hm).shown hs hz⟩
structure TwinI (S:Nat->Prop) (base:Nat) (lA lB:List Dat) (uA uB:Value) (a b:Dat) (xa xb:Value) (mA dA mB dB:Bool) (sA vA sB vB:Value) (W:World):Prop where
 twin:Twin W S base (if dA then lA++[a] else lA) (if dB then lB++[b] else lB) (if dA then vA else uA) (if dB then vB else uB)
 halfA:dA=false->Half W S uA (if dB then vB else uB) a xa mA sA
 halfB:dB=false->Half W S uB (if dA then vA else uA) b xb mB sB
theorem TwinI.symm {S:Nat->Prop} {base:Nat} {lA lB:List Dat} {uA uB:Value} {a b:Dat} {xa xb:Value} {mA dA mB dB:Bool} {sA vA sB vB:Value} {W:World} (h:TwinI S base lA lB uA uB a b xa xb mA dA mB dB sA vA sB vB W):TwinI S base lB lA uB uA b a xb xa mB dB mA dA sB vB sA vA W:=⟨h.twin.symm,h.halfB,h.halfA⟩
theorem TwinI.below {S:Nat->Prop} {base:Nat} {lA lB:List Dat} {uA uB:Value} {a b:Dat} {xa xb:Value} {mA dA mB dB:Bool} {sA vA sB vB:Value} {W W':World} (h:TwinI S base lA lB uA uB a b xa xb mA dA mB dB sA vA sB vB W) (hb:Below W.heap.size W W'):TwinI S base lA lB uA uB a b xa xb mA dA mB dB sA vA sB vB W':=
 ⟨⟨h.twin.1.below hb,h.twin.2.below hb⟩,fun e=>(h.halfA e).shown (Shown.below hb) hb.size,fun e=>(h.halfB e).shown (Shown.below hb) hb.size⟩
theorem TwinI.made {S:Nat->Prop} {base:Nat} {lA lB:List Dat} {uA uB:Value} {a b:Dat} {c0 c1 c2 c3 c4 xb:Value} {mA dA mB dB:Bool} {sA vA sB vB:Value} {W:World} (h:TwinI S base lA lB uA uB a b (.agg #[c0,c1,c2,c3,c4]) xb mA dA mB dB sA vA sB vB W) :
  TwinI S base lA lB uA uB a b (.agg #[c0,c1,c2,c3,c4]) xb true dA mB dB (.slice (some ⟨W.heap.size,0,none⟩) 1 1) vA sB vB (W.alloc (.cells #[c0,c1,c2,c3,c4] 26)):=by
 have hb:Below W.heap.size W (W.alloc (.cells #[c0,c1,c2,c3,c4] 26)):=Below.one _ _
 have h':=h.below hb
 refine ⟨h'.twin,fun e=>⟨(h'.halfA e).1,fun _=>zax ?_ (h.halfA e).1⟩,h'.halfB⟩
 have ht:=h.twin.1
 subst e
 exact sr_lt ht qzL
theorem TwinI.grown {S:Nat->Prop} {base:Nat} {lA lB:List Dat} {uA uB:Value} {a b:Dat} {xa xb:Value} {mA mB dB:Bool} {sA vA sB vB vA':Value} {W W':World} (h:TwinI S base lA lB uA uB a b xa xb mA false mB dB sA vA sB vB W)
  (hg:GrownS W' (SR S (if dB then vB else uB)) base (lA++[a]) vA') (ht:Turned (fun c=>uA.ownBlock=some c) W W') (hs:Shown W (SR (SR S (if dB then vB else uB)) uA) W' (SR (SR S (if dB then vB else uB)) vA')):TwinI S base lA lB uA uB a b xa xb mA true mB dB sA vA' sB vB W':=by
 obtain ⟨h1,h2,h3⟩:=h
 simp only[Bool.false_eq_true,if_false] at h1 h3
 refine ⟨⟨hg,?_⟩,(fun e=>Bool.noConfusion e),fun e=>?_⟩
 ·exact GrownS.other (h1.2) hg ht hs
 ·have h4:=h3 e
  subst e
  exact h4.shown (Shown.swap hs) ht.size
theorem zaF {ops:Array Oper} {n m i:Nat} {o:Oper} (h:guardsB .any ops n m []=true) (hi:i<n) (ho:ops[i]?=some o):o.guard=none:=by
 have:=List.all_eq_true.1 h i (List.mem_range.2 hi)
 simp only[ho] at this
 cases hg:o.guard with
 | none=>rfl
 | some p=>
  obtain ⟨g,b⟩:=p
  rw[hg] at this
  simp at this
theorem zau {P:Program} {ops:Array Oper} {o:Oper} {a:Act} {w:World} {Q:Exit->Act->World->Prop} {K:Act->World->Prop} (hg:o.guard=none) (h:wpList P ops (fun e a' w'=>e=.normal∧K a' w') [o] a w) (hQ:∀a' w',K a' w'->Q .normal a' w'):wpList P ops Q [o] a w:=by
 have hw:Region.wanted o (yielded ops a.tmps)=true:=by simp[Region.wanted,hg]
 have h':o.wp P a w K Q:=zc7 hw h
 unfold wpList
 rw[if_pos hw]
 left
 refine Oper.wp_mono ?_ h'
 intro a' w' hk
 unfold wpList
 exact hQ _ _ hk
def DepsC (ops:Array Oper) (n:Nat) (sp:List Nat) (R:Nat->Value->Prop) (o:Oper) (a:Act):Prop:=∀j oj d,j<n->¬j∈sp->ops[j]?=some oj->(∃e∈o.after,Region.binds .any e=true∧e.on=j)->oj.dst=some d->R j (a.tmps.getD d undef)
theorem zen {P:Program} {id:Nat} {Q:Exit->Act->World->Prop} {a0:Act} {w:World} {l:List Oper} (n ba pa bb pb:Nat) (oba opa obb opb:Oper) (dba dpa dbb dpb:Nat) (R:Nat->Value->Prop) {S:Nat->Prop} {base:Nat} {lA lB:List Dat} {uA uB:Value} {a b:Dat} {c0 c1 c2 c3 c4 e0 e1 e2 e3 e4:Value}
  (hm:P.follows .mixedOrders=true) (hB:monoB l.toArray n a0.tmps.size=true)
  (hba:l.toArray[ba]?=some oba∧oba.dst=some dba∧ba<n) (hpa:l.toArray[pa]?=some opa∧opa.dst=some dpa∧pa<n) (hbb:l.toArray[bb]?=some obb∧obb.dst=some dbb∧bb<n) (hpb:l.toArray[pb]?=some opb∧opb.dst=some dpb∧pb<n)
  (hne:[ba,pa,bb,pb].Nodup) (hdA:∃e∈opa.after,Region.binds .any e=true∧e.on=ba) (hdB:∃e∈opb.after,Region.binds .any e=true∧e.on=bb)
  (htw:Twin w.drew S base lA lB uA uB) (hxa:RepD (hide w.drew (SR (SR S uB) uA)) w.drew.heap.size a (.agg #[c0,c1,c2,c3,c4])) (hxb:RepD (hide w.drew (SR (SR S uA) uB)) w.drew.heap.size b (.agg #[e0,e1,e2,e3,e4]))
  (hops:∀i o,i<n->¬i∈[ba,pa,bb,pb]->l.toArray[i]?=some o->∀(x:Act) (w1:World),x.defers=a0.defers->x.tmps.size=a0.tmps.size->Turned (fun c=>uA.ownBlock=some c∨uB.ownBlock=some c) w.drew w1->DepsC l.toArray n [ba,pa,bb,pb] R o x->Rest l.toArray n a0 x ->
   wpList P l.toArray (fun e x' w'=>e=.normal∧w'=w1∧∃v,x'=x.put o.dst v∧R i v) [o] x w1)
  (hmA:∀(x:Act) (w1:World),x.defers=a0.defers->x.tmps.size=a0.tmps.size->DepsC l.toArray n [ba,pa,bb,pb] R oba x->Rest l.toArray n a0 x ->
   wpList P l.toArray (fun e x' w'=>e=.normal∧x'=x.put oba.dst (.slice (some ⟨w1.heap.size,0,none⟩) 1 1)∧w'=w1.alloc (.cells #[c0,c1,c2,c3,c4] 26)) [oba] x w1)
  (hmB:∀(x:Act) (w1:World),x.defers=a0.defers->x.tmps.size=a0.tmps.size->DepsC l.toArray n [ba,pa,bb,pb] R obb x->Rest l.toArray n a0 x ->
   wpList P l.toArray (fun e x' w'=>e=.normal∧x'=x.put obb.dst (.slice (some ⟨w1.heap.size,0,none⟩) 1 1)∧w'=w1.alloc (.cells #[e0,e1,e2,e3,e4] 26)) [obb] x w1)
  (hgA:∀(x:Act) (w1:World) (T:Nat->Prop),x.defers=a0.defers->x.tmps.size=a0.tmps.size->DepsC l.toArray n [ba,pa,bb,pb] R opa x->Rest l.toArray n a0 x->GrownS w1 T base lA uA->RepS (hide w1 (SR T uA)) w1.heap.size [a] (x.tmps.getD dba undef) ->
   wpList P l.toArray (fun e x' w'=>e=.normal∧∃o' len' cap',x'=x.put opa.dst (.slice o' len' cap')∧GrownS w' T base (lA++[a]) (.slice o' len' cap')∧Turned (fun c=>uA.ownBlock=some c) w1 w'∧Shown w1 (SR T uA) w' (SR T (.slice o' len' cap'))) [opa] x w1)
  (hgB:∀(x:Act) (w1:World) (T:Nat->Prop),x.defers=a0.defers->x.tmps.size=a0.tmps.size->DepsC l.toArray n [ba,pa,bb,pb] R opb x->Rest l.toArray n a0 x->GrownS w1 T base lB uB->RepS (hide w1 (SR T uB)) w1.heap.size [b] (x.tmps.getD dbb undef) ->
   wpList P l.toArray (fun e x' w'=>e=.normal∧∃o' len' cap',x'=x.put opb.dst (.slice o' len' cap')∧GrownS w' T base (lB++[b]) (.slice o' len' cap')∧Turned (fun c=>uB.ownBlock=some c) w1 w'∧Shown w1 (SR T uB) w' (SR T (.slice o' len' cap'))) [opb] x w1)
  (hend:∀(x:Act) (w1:World),x.defers=a0.defers->x.tmps.size=a0.tmps.size->Turned (fun c=>uA.ownBlock=some c∨uB.ownBlock=some c) w.drew w1->Rest l.toArray n a0 x->Twin w1 S base (lA++[a]) (lB++[b]) (x.tmps.getD dpa undef) (x.tmps.getD dpb undef) ->
   (∀i o d,i<n->¬i∈[ba,pa,bb,pb]->l.toArray[i]?=some o->o.dst=some d->R i (x.tmps.getD d undef))->wpList P l.toArray Q (l.drop n) x w1) :
  (Code.region id l.toArray true).wp P Q a0 w:=by
 have hB':=hB
 simp only[monoB,monoG,Bool.and_eq_true,decide_eq_true_eq] at hB'
 obtain ⟨⟨_,_,_,hn,hsl,_⟩,hgd⟩:=hB'
 obtain ⟨hba1,hba2,hba3⟩:=hba
 obtain ⟨hpa1,hpa2,hpa3⟩:=hpa
 obtain ⟨hbb1,hbb2,hbb3⟩:=hbb
 obtain ⟨hpb1,hpb2,hpb3⟩:=hpb
 have jn:∀{i j o oj d x v},i<n->j<n->l.toArray[i]?=some o->l.toArray[j]?=some oj->oj.dst=some d->x.tmps.size=a0.tmps.size->i≠j->(Act.put x o.dst v).tmps.getD d undef=x.tmps.getD d undef:=by
  intro i j o oj d x v hi hj ho hoj hd hsz hij
  cases hdo:o.dst with
  | none=>rfl
  | some d'=>
   obtain ⟨hd',hne'⟩:=zaV hsl hi hj ho hoj hdo hd
   rw[zaO (by rw[hsz];exact hd'),if_neg (hne'.resolve_left hij)]
 have hself:∀{i o d x v},i<n->l.toArray[i]?=some o->o.dst=some d->x.tmps.size=a0.tmps.size->(Act.put x o.dst v).tmps.getD d undef=v:=by
  intro i o d x v hi ho hd hsz
  have hd':=(zaV hsl hi hi ho ho hd hd).1
  rw[hd,zaO (by rw[hsz];exact hd'),if_pos rfl]
 simp only[List.nodup_cons,List.mem_cons,List.not_mem_nil,or_false,not_or,List.nodup_nil,and_true,not_false_eq_true] at hne
 obtain ⟨⟨n1,n2,n3⟩,⟨n4,n5⟩,n6⟩:=hne
 refine zbO n (fun listed x W=>Turned (fun c=>uA.ownBlock=some c∨uB.ownBlock=some c) w.drew W∧TwinI S base lA lB uA uB a b (.agg #[c0,c1,c2,c3,c4]) (.agg #[e0,e1,e2,e3,e4]) (listed.getD ba false) (listed.getD pa false) (listed.getD bb false) (listed.getD pb false) (x.tmps.getD dba undef) (x.tmps.getD dpa undef) (x.tmps.getD dbb undef) (x.tmps.getD dpb undef) W ∧
  ∀i o d,i<n->¬i∈[ba,pa,bb,pb]->l.toArray[i]?=some o->listed.getD i false=true->o.dst=some d->R i (x.tmps.getD d undef)) hm hB ?_ ?_ ?_
 ·refine ⟨Turned.refl _ _,?_,fun i o d _ _ _ h=>by rw[getD_replicate_false] at h;cases h⟩
  simp only[getD_replicate_false]
  exact ⟨htw,fun _=>⟨hxa,fun h=>Bool.noConfusion h⟩,fun _=>⟨hxb,fun h=>Bool.noConfusion h⟩⟩
 ·intro i o hi ho listed x w1 hls hdf hsz ja ⟨hT,hI,hR⟩ hun hdeps
  have hdC:DepsC l.toArray n [ba,pa,bb,pb] R o x:=fun j oj d hj hsp hoj ⟨e,he,hb,hon⟩ hd=>hR j oj d hj hsp hoj (by have:=hdeps e he hb;rwa[hon] at this) hd
  have hlt:i<listed.size:=by rw[hls];omega
  have hset:(listed.setIfInBounds i true).getD i false=true:=by simp[hlt]
  have jm:∀{j},i≠j->(listed.setIfInBounds i true).getD j false=listed.getD j false:=fun h=>getD_set_ne false h
  have hRs:∀v,i∈[ba,pa,bb,pb]->∀j oj d,j<n->¬j∈[ba,pa,bb,pb]->l.toArray[j]?=some oj->(listed.setIfInBounds i true).getD j false=true->oj.dst=some d->R j ((Act.put x o.dst v).tmps.getD d undef):=by
   intro v hs j oj d hj hsp hoj hl hd
   have hij:i≠j:=fun e=>hsp (e ▸ hs)
   rw[jn hi hj ho hoj hd hsz hij]
   exact hR j oj d hj hsp hoj (by rwa[jm hij] at hl) hd
  by_cases h1:i=ba
  ·subst h1
   obtain rfl:oba=o:=Option.some.inj (hba1.symm.trans ho)
   refine zau (zaF hgd hi ho) (hmA x w1 hdf hsz hdC ja) ?_
   rintro x' w' ⟨rfl,rfl⟩
   refine ⟨rfl,_,rfl,hT.next (Turned.of_below (Below.one _ _)),?_,hRs _ (by simp)⟩
   rw[hset,jm n1,jm n2,jm n3,hself hba3 hba1 hba2 hsz,jn hba3 hpa3 hba1 hpa1 hpa2 hsz n1,jn hba3 hbb3 hba1 hbb1 hbb2 hsz n2,jn hba3 hpb3 hba1 hpb1 hpb2 hsz n3]
   exact hI.made
  ·by_cases h2:i=pa
   ·subst h2
    obtain rfl:opa=o:=Option.some.inj (hpa1.symm.trans ho)
    have hmade:listed.getD ba false=true:=by
     obtain ⟨e,he,hb,hon⟩:=hdA
     have:=hdeps e he hb
     rwa[hon] at this
    have hI':=hI
    rw[hun,hmade] at hI'
    have hg:=hI'.twin.1
    have hh:=(hI'.halfA rfl).2 rfl
    simp only[Bool.false_eq_true,if_false] at hg
    refine zau (zaF hgd hi ho) (hgA x w1 _ hdf hsz hdC ja hg hh) ?_
    rintro x' w' ⟨o',len',cap',rfl,k1,k2,k3⟩
    refine ⟨rfl,_,rfl,hT.next (k2.wider fun _ _ h=>.inl h),?_,hRs _ (by simp)⟩
    rw[hset,jm (Ne.symm n1),jm n4,jm n5,hself hpa3 hpa1 hpa2 hsz,jn hpa3 hba3 hpa1 hba1 hba2 hsz (Ne.symm n1),jn hpa3 hbb3 hpa1 hbb1 hbb2 hsz n4,jn hpa3 hpb3 hpa1 hpb1 hpb2 hsz n5,hmade]
    exact hI'.grown k1 k2 k3
   ·by_cases h3:i=bb
    ·subst h3
     obtain rfl:obb=o:=Option.some.inj (hbb1.symm.trans ho)
     refine zau (zaF hgd hi ho) (hmB x w1 hdf hsz hdC ja) ?_
     rintro x' w' ⟨rfl,rfl⟩
     refine ⟨rfl,_,rfl,hT.next (Turned.of_below (Below.one _ _)),?_,hRs _ (by simp)⟩
     rw[hset,jm (Ne.symm n2),jm (Ne.symm n4),jm n6,hself hbb3 hbb1 hbb2 hsz,jn hbb3 hba3 hbb1 hba1 hba2 hsz (Ne.symm n2),jn hbb3 hpa3 hbb1 hpa1 hpa2 hsz (Ne.symm n4),jn hbb3 hpb3 hbb1 hpb1 hpb2 hsz n6]
     exact hI.symm.made.symm
    ·by_cases h4:i=pb
     ·subst h4
      obtain rfl:opb=o:=Option.some.inj (hpb1.symm.trans ho)
      have hmade:listed.getD bb false=true:=by
       obtain ⟨e,he,hb,hon⟩:=hdB
       have:=hdeps e he hb
       rwa[hon] at this
      have hI':=hI.symm
      rw[hun,hmade] at hI'
      have hg:=hI'.twin.1
      have hh:=(hI'.halfA rfl).2 rfl
      simp only[Bool.false_eq_true,if_false] at hg
      refine zau (zaF hgd hi ho) (hgB x w1 _ hdf hsz hdC ja hg hh) ?_
      rintro x' w' ⟨o',len',cap',rfl,k1,k2,k3⟩
      refine ⟨rfl,_,rfl,hT.next (k2.wider fun _ _ h=>.inr h),?_,hRs _ (by simp)⟩
      rw[hset,jm (Ne.symm n3),jm (Ne.symm n5),jm (Ne.symm n6),hself hpb3 hpb1 hpb2 hsz,jn hpb3 hba3 hpb1 hba1 hba2 hsz (Ne.symm n3),jn hpb3 hpa3 hpb1 hpa1 hpa2 hsz (Ne.symm n5),jn hpb3 hbb3 hpb1 hbb1 hbb2 hsz (Ne.symm n6),hmade]
      exact (hI'.grown k1 k2 k3).symm
     ·have hsp:¬i∈[ba,pa,bb,pb]:=by simp[h1,h2,h3,h4]
      refine zau (zaF hgd hi ho) (hops i o hi hsp ho x w1 hdf hsz hT hdC ja) ?_
      rintro x' w' ⟨rfl,v,rfl,hv⟩
      refine ⟨rfl,_,rfl,hT,?_,?_⟩
      ·rw[jm h1,jm h2,jm h3,jm h4,jn hi hba3 ho hba1 hba2 hsz h1,jn hi hpa3 ho hpa1 hpa2 hsz h2,jn hi hbb3 ho hbb1 hbb2 hsz h3,jn hi hpb3 ho hpb1 hpb2 hsz h4]
       exact hI
      ·intro j oj d hj hspj hoj hl hd
       by_cases hij:i=j
       ·subst hij
        obtain rfl:oj=o:=Option.some.inj (hoj.symm.trans ho)
        rw[hself hi ho hd hsz]
        exact hv
       ·rw[jn hi hj ho hoj hd hsz hij]
        exact hR j oj d hj hspj hoj (by rwa[jm hij] at hl) hd
 ·intro listed x w1 hall hdf hsz ja ⟨hT,hI,hR⟩
  have htw':=hI.twin
  rw[hall pa hpa3,hall pb hpb3] at htw'
  simp only[if_true] at htw'
  exact hend x w1 hdf hsz hT ja htw' fun i o d hi hsp ho hd=>hR i o d hi hsp ho (hall i hi) hd
theorem zaH {ops:Array Oper} {n:Nat} {sp:List Nat} {R:Nat->Value->Prop} {o:Oper} {a:Act} (h:DepsC ops n sp R o a) (j d:Nat) (hB:depB ops n o j d=true) (hsp:¬j∈sp):R j (a.tmps.getD d undef):=by
 simp only[depB,Bool.and_eq_true,decide_eq_true_eq] at hB
 obtain ⟨h1,h2,h3⟩:=hB
 cases hj:ops[j]? with
 | none=>rw[hj] at h2;cases h2
 | some oj=>
  rw[hj] at h2
  rw[Array.any_eq_true'] at h3
  obtain ⟨e,he,hb⟩:=h3
  simp only[Bool.and_eq_true,beq_iff_eq] at hb
  exact h j oj d h1 hsp hj ⟨e,he,hb.1,hb.2⟩ (by simpa using h2)
section
variable {ops : Array Oper} {o : Oper} {a : Act} {w w' : World}
theorem zak {P:Program} {R:Nat->Value->Prop} {i:Nat} {v:Value} (hg:o.guard=none) (h:(execOp a.eval o).run P w=.ok (.value v) w) (hv:R i v):wpList P ops (fun e x' w'=>e=.normal∧w'=w∧∃v,x'=a.put o.dst v∧R i v) [o] a w:=
 wpList_plain hg fun K hK=>by unfold Oper.wp;rw[h];exact hK _ _ ⟨rfl,rfl,v,rfl,hv⟩
theorem zhL (w:World) (k n d:Int) (s:ByteArray) (o:Option Addr) (l c:Nat):(Instr.buildSlice 22 1 #[(0,.agg #[.int .i64 k,.int .i64 n,.int .i64 d,.string s,.slice o l c])]).run prog w=.ok (.slice (some ⟨w.heap.size,0,none⟩) 1 1) (w.alloc (.cells #[.int .i64 k,.int .i64 n,.int .i64 d,.string s,.slice o l c] 26)):=by go_simp
theorem zbj {s:Nat} {k n d:Int} {st:ByteArray} {p:Option Addr} {l c:Nat} (hg:o.guard=none) (ho:o.op=.buildSlice 22 1 #[(0,.tmp s)]) (hx:a.tmps.getD s undef=.agg #[.int .i64 k,.int .i64 n,.int .i64 d,.string st,.slice p l c]) :
  wpList prog ops (fun e x' w'=>e=.normal∧x'=a.put o.dst (.slice (some ⟨w.heap.size,0,none⟩) 1 1)∧w'=w.alloc (.cells #[.int .i64 k,.int .i64 n,.int .i64 d,.string st,.slice p l c] 26)) [o] a w:=by
 refine wpList_plain hg fun K hK=>?_
 have hmap:(#[(0,Operand.tmp s)]:Array (Nat × Operand)).map (fun (i,x)=>(i,a.eval x))=#[(0,.agg #[.int .i64 k,.int .i64 n,.int .i64 d,.string st,.slice p l c])]:=by
  simp only[List.map_toArray,List.map_cons,List.map_nil]
  rw[<-hx];rfl
 have h:(execOp a.eval o).run prog w=.ok (.value (.slice (some ⟨w.heap.size,0,none⟩) 1 1)) (w.alloc (.cells #[.int .i64 k,.int .i64 n,.int .i64 d,.string st,.slice p l c] 26)):=by
  unfold execOp
  rw[ho]
  show (do let r <-Instr.buildSlice 22 1 ((#[(0,Operand.tmp s)]:Array (Nat × Operand)).map (fun (i,x)=>(i,a.eval x)));pure (Next.value r):Sem Next).run prog w=_
  rw[hmap]
  simp only[Sem.run_bind,Sem.run_pure,zhL,Result.andThen_ok]
 unfold Oper.wp
 rw[h]
 exact hK _ _ ⟨rfl,rfl,rfl⟩
theorem za1 {T:Nat->Prop} {base s x:Nat} {l k:List Dat} {v:Value} (hg:o.guard=none) (ho:o.op=.call { callee:=.builtin .append,args:=#[.tmp s,.tmp x],argTypes:=#[22,22] }) (hs:a.tmps.getD s undef=v) (hgr:GrownS w T base l v) (hk:RepS (hide w (SR T v)) w.heap.size k (a.tmps.getD x undef)) (hm:l.length+k.length<=1000000) :
  wpList prog ops (fun e x' w'=>e=.normal∧∃o' len' cap',x'=a.put o.dst (.slice o' len' cap')∧GrownS w' T base (l++k) (.slice o' len' cap')∧Turned (fun c=>v.ownBlock=some c) w w'∧Shown w (SR T v) w' (SR T (.slice o' len' cap'))) [o] a w:=
 wpList_plain hg fun _K hK=>zav (.tmp s) (.tmp x) ho base v _ l k hs (zh hgr) rfl (zh hk) hm fun o' len' cap' _w' h1 _ h3 h4=>hK _ _ ⟨rfl,o',len',cap',rfl,h1.out,h3.out,h4.out⟩
end
def spellH (f:Nat->Value):Nat->List Bool->List Value->List Value
 | _,_,[]=>[]
 | _,[],l=>l
 | i,true::m,_::l=>f i::spellH f (i+1) m l
 | i,false::m,v::l=>v::spellH f (i+1) m l
theorem zc6 (f:Nat->Value):∀(l:List Value) (i:Nat) (m:List Bool) (j:Nat),(spellH f i m l)[j]?=(l[j]?).map fun v=>if m.getD j false=true then f (i+j) else v
 | [],i,m,j=>by simp[spellH]
 | v::l,i,[],j=>by
  have:spellH f i [] (v::l)=v::l:=by rw[spellH];simp
  rw[this]
  cases h:(v::l)[j]?<;>simp
 | v::l,i,true::m,0=>by simp[spellH]
 | v::l,i,false::m,0=>by simp[spellH]
 | v::l,i,true::m,j+1=>by
  rw[spellH,List.getElem?_cons_succ,List.getElem?_cons_succ,zc6 f l (i+1) m j]
  simp only[List.getD_cons_succ,show i+1+j=i+(j+1) by omega]
 | v::l,i,false::m,j+1=>by
  rw[spellH,List.getElem?_cons_succ,List.getElem?_cons_succ,zc6 f l (i+1) m j]
  simp only[List.getD_cons_succ,show i+1+j=i+(j+1) by omega]
def maskBH (ops:Array Oper) (n:Nat) (m:List Bool):Bool:=(List.range n).all fun i=>match ops[i]? with | some o=>(match o.dst with | some d=>m.getD d false | none=>true) | none=>true
theorem zaq {ops:Array Oper} {n:Nat} {a a0:Act} (m:List Bool) (hB:maskBH ops n m=true) (hd:a.defers=a0.defers) (hs:a.tmps.size=a0.tmps.size) (hr:Rest ops n a0 a):∃f:Nat->Value,a = { tmps:=(spellH f 0 m a0.tmps.toList).toArray,defers:=a0.defers }∧∀t,f t=a.tmps.getD t undef:=by
 refine ⟨fun t=>a.tmps.getD t undef,?_,fun _=>rfl⟩
 obtain ⟨t,d⟩:=a
 obtain ⟨t0,d0⟩:=a0
 simp only at hd hs
 subst hd
 simp only[Act.mk.injEq,and_true]
 apply Array.ext_getElem?
 intro j
 have h0:∀l:List Value,l.toArray[j]?=l[j]?:=fun l=>by simp
 rw[h0 (spellH _ _ _ _),zc6]
 rw[Array.getElem?_toList]
 by_cases hj:j<t0.size
 ·rw[Array.getElem?_eq_getElem hj,Array.getElem?_eq_getElem (by rw[hs];exact hj)]
  simp only[Option.map_some,Option.some.injEq,Nat.zero_add]
  by_cases hm:m.getD j false=true
  ·rw[if_pos hm]
   simp[Array.getD,hs,hj]
  ·rw[if_neg hm]
   have h1:=hr j (fun i o hi ho e=>by
    have h2:=List.all_eq_true.1 hB i (List.mem_range.2 hi)
    simp only[ho,e] at h2
    exact hm h2)
   simpa[Array.getD,hs,hj] using h1
 ·rw[Array.getElem?_eq_none (by omega),Array.getElem?_eq_none (by omega)]
  rfl
end
section
open Go Go.RowKit
namespace Sy
open Dat
def bindsL:List Dat->Option (List Dat × List Dat)
 | []=>some ([],[])
 | x::l=>match (split x).1 with
  | [a,b]=>if (split x).2.kind=4 then (bindsL l).map fun p=>(a::p.1,b::p.2) else none
  | _=>none
def binds (x:Dat):Option (List Dat × List Dat):=if (split x).2.kind=4 then bindsL (split x).1 else none
theorem split_parts (x:Dat) (hs:shaped x=true):(∀y∈(split x).1,shaped y=true∧all y<=all x)∧shaped (split x).2=true:=by
 induction x using Dat.ind with
 | h k n d s l ih=>
  by_cases hk:k=6
  ·obtain ⟨a,b,rfl,ha,hb⟩:=shaped_pair hs hk
   rw[split_pair hk]
   obtain ⟨h1,h2⟩:=ih b (by simp) hb
   refine ⟨fun y hy=>?_,h2⟩
   have hb2:all b<=all (mk k n d s [a,b]):=by simp only[all,allL];omega
   rcases List.mem_cons.1 hy with rfl | hy
   ·exact ⟨ha,by simp only[all,allL];omega⟩
   ·exact ⟨(h1 y hy).1,Nat.le_trans (h1 y hy).2 hb2⟩
  ·rw[split_other hk]
   exact ⟨fun y hy=>by simp at hy,hs⟩
end Sy
theorem Shown.flip (W:World) {S:Nat->Prop} {v1 v2:Value}:Shown W (SR (SR S v2) v1) W (SR (SR S v1) v2):=Shown.less W fun b _ hb=>by
 rcases hb with (hb | hb) | hb
 ·exact .inl (.inl hb)
 ·exact .inr hb
 ·exact .inl (.inr hb)
theorem zbi {o:Oper} (j:Nat) (h3:(o.after.any fun e=>Region.binds .any e&&e.on==j)=true):∃e∈o.after,Region.binds .any e=true∧e.on=j:=by
 rw[Array.any_eq_true'] at h3
 obtain ⟨e,he,hb⟩:=h3
 simp only[Bool.and_eq_true,beq_iff_eq] at hb
 exact ⟨e,he,hb.1,hb.2⟩
def BindPost (S:Nat->Prop) (r:Option (List Dat × List Dat)) (w:World) (e:Ending) (w':World):Prop:=
 ∃(ln lv:List Dat) (vn vv:Value) (ok:Bool),e=.returned (.tuple #[vn,vv,.bool ok])∧GrownS w' (SR S vv) w.heap.size ln vn∧GrownS w' (SR S vn) w.heap.size lv vv∧Below w.heap.size w w'∧(ok=true->r=some (ln,lv))∧(ok=false->r=none)∧lv.length<=100000
def BiR (u2 u3 sl pa va pb vb:Value) (i:Nat) (v:Value):Prop:=match i with
 | 0=>v=u2
 | 1=>v=sl
 | 2=>v=pa
 | 3=>v=va
 | 6=>v=u3
 | 7=>v=sl
 | 8=>v=pb
 | 9=>v=vb
 | _=>True
def BiI (S:Nat->Prop) (l:List Dat) (w:World) (g:Nat) (vn vv iv:Value) (wr:World):Prop:=Hid (∃(i:Nat) (dn dv:List Dat),iv=.int .i64 i∧g=l.length-i∧i<=l.length∧dn.length=i∧dv.length=i∧GrownS wr (SR S vv) w.heap.size dn vn∧GrownS wr (SR S vn) w.heap.size dv vv∧Below w.heap.size w wr∧Sy.bindsL l=(Sy.bindsL (l.drop i)).map fun p=>(dn++p.1,dv++p.2))
theorem zbv (S:Nat->Prop) (x:Dat) (v:Value) (B:Nat) (w:World) (hS:∀b,S b->b<w.heap.size) (hv:RepD (hide w S) B x v) (hB:B<=w.heap.size) (hsh:Dat.shaped x=true) (hal:Dat.all x<=100000) :
  Calls prog 76 #[v] w (BindPost S (Sy.binds x) w):=by
 obtain ⟨k,n,d,st,o,len,cap,rfl⟩:=zae hv.unhide
 obtain ⟨W0,hW0⟩:∃W0,w.alloc (.cells #[.int .i64 k,.int .i64 n,.int .i64 d,.string st,.slice o len cap] 26)=W0:=⟨_,rfl⟩
 have hb:Box5 W0 w.heap.size 26 (.int .i64 k) (.int .i64 n) (.int .i64 d) (.string st) (.slice o len cap):=by rw[<-hW0];exact Box5.new w _ _ _ _ _ _
 have hbl:Below w.heap.size w W0:=by rw[<-hW0];exact Below.one _ _
 obtain ⟨r,hr⟩:∃r,((Sy.split x).2.kind==4)=r:=⟨_,rfl⟩
 have HS0:=zh (fun b h=>qzM (hS b h) hbl.size)
 have HC:=zh (zbn S x (.agg #[.int .i64 k,.int .i64 n,.int .i64 d,.string st,.slice o len cap]) B W0 r hr HS0.out (hv.kept (zbp (hbl.mono hB))) (Nat.le_trans hB hbl.size) hsh hal)
 have HPT:=zh (Sy.split_parts x hsh).1
 have HLE:=zh (zaY x)
 obtain ⟨L,hL⟩:∃L,(Sy.split x).1=L:=⟨_,rfl⟩
 have HR:=zh (show Sy.binds x=if r=true then Sy.bindsL L else none from by
  unfold Sy.binds
  rw[<-hL,<-hr]
  simp only[beq_iff_eq])
 rw[hL] at HC HPT HLE
 have HAL:=zh hal
 obtain ⟨p0,p1,p2,p3,p4⟩:=hb.cells
 have pl:=hb.lt
 have HBL:=zh hbl
 have HW0:=zh hW0
 clear hb hbl hW0 hv hsh hr hS hL hal
 go_enter func76,ntmps76
 go_upto_region 1 with fail
 rw[HW0.out]
 go_upto_region 2 with (first | (go_at_call 73;refine HC.out.mono ?_;rintro e' w1 ⟨o',len',cap',rfl,hl1,hb1⟩))
 obtain ⟨o5,len5,cap5,he5,hl5,hc5,hm5,hr5⟩:=id hl1
 simp only[Value.slice.injEq] at he5
 obtain ⟨rfl,rfl,rfl⟩:=he5
 have HLN:=zh hl5
 have HL1:=zh hl1
 have HB1:=zh hb1
 have hS1:∀b,S b->b<w1.heap.size:=fun b h=>qzM (HS0.out b h) hb1.size
 have HI0:=zh (show BiI S L w1 L.length (.slice none 0 0) (.slice none 0 0) (.int .i64 0) w1 from
  zh ⟨0,[],[],rfl,rfl,Nat.zero_le _,rfl,rfl,GrownS.nil _ (fun b h=>h.elim (hS1 b) fun h=>by simp[Value.ownBlock] at h) qzL,GrownS.nil _ (fun b h=>h.elim (hS1 b) fun h=>by simp[Value.ownBlock] at h) qzL,qzB,by simp⟩)
 have HS1:=zh hS1
 clear hl1 hb1 hl5 hr5 hS1 p0 p1 p2 p3 p4 pl
 go_upto_region 3 with fail
 go_loopg [2,3,4,17] L.length (fun g vn vv rv iv wr=>BiI S L w1 g vn vv iv wr∧rv=.bool r)
 case atStart=>exact ⟨HI0.out,rfl⟩
 case round=>
  obtain ⟨hrel,rfl⟩:=hrel
  obtain ⟨i,dn,dv,rfl,rfl,hi,hln,hlv,hgn,hgv,hbl,hbd⟩:=hrel.out
  clear hrel HI0
  have hlw:=zh (sr_lt hgn qzL)
  by_cases hlt:i<len'
  ·obtain ⟨y,hy⟩:∃y,L[i]?=some y:=⟨_,List.getElem?_eq_getElem (by rw[<-HLN.out];exact hlt)⟩
   have HT:=zh (HL1.out.shown (S':=SR (SR S u3) u2) (W':=wr) (fun c o' u hc hu=>by
    have hcl:=zai hu
    refine ⟨fun h=>?_,(hbl.cell (p:=⟨c,o',none⟩) hcl).trans hu⟩
    rcases h with (h | h) | h
    ·exact hc h
    ·have:=(hgv.block h).1;omega
    ·have:=(hgn.block h).1;omega) hbl.size)
   have hmem:y∈L:=List.mem_of_getElem? hy
   obtain ⟨hysh,hyal⟩:=HPT.out y hmem
   obtain ⟨o6,len6,cap6,he6,hl6,hc6,hm6,hr6⟩:=HT.out
   simp only[Value.slice.injEq] at he6
   obtain ⟨rfl,rfl,rfl⟩:=he6
   obtain ⟨b1,off1,k1,n1,d1,s1,l1,o1,len1,cap1,ho1,hx1,e0,e1,e2,e3,e4,er⟩:=zat hr6 qzB hy
   subst ho1
   replace e0:=(zaa e0).2
   replace e1:=(zaa e1).2
   replace e2:=(zaa e2).2
   replace e3:=(zaa e3).2
   replace e4:=(zaa e4).2
   have hbw:Below wr.heap.size wr (wr.alloc (.cells #[.int .i64 k1,.int .i64 n1,.int .i64 d1,.string s1,.slice o1 len1 cap1] 26)):=Below.one _ _
   have hb5:Box5 (wr.alloc (.cells #[.int .i64 k1,.int .i64 n1,.int .i64 d1,.string s1,.slice o1 len1 cap1] 26)) wr.heap.size 26 (.int .i64 k1) (.int .i64 n1) (.int .i64 d1) (.string s1) (.slice o1 len1 cap1):=Box5.new wr _ _ _ _ _ _
   obtain ⟨r2,hr2⟩:∃r2,((Sy.split y).2.kind==4)=r2:=⟨_,rfl⟩
   have HIT:=zh (zbn (SR (SR S u3) u2) y (.agg #[.int .i64 k1,.int .i64 n1,.int .i64 d1,.string s1,.slice o1 len1 cap1]) wr.heap.size _ r2 hr2 (fun b hb=>qzM (hlw.out b hb) hbw.size) ((by rw[hx1];exact er:RepD (hide wr (SR (SR S u3) u2)) wr.heap.size y _).shown (Shown.below hbw) qzL) hbw.size hysh (Nat.le_trans hyal HAL.out))
   have HBD:=zh hbd
   have HGN:=zh hgn
   have HGV:=zh hgv
   have HBLr:=zh hbl
   have HBW:=zh hbw
   have HY:=zh hy
   have HR2:=zh hr2
   have HLI:=zh (show i<L.length from by rw[<-HLN.out];exact hlt)
   have HDN:=zh hln
   have HDV:=zh hlv
   clear hbd hgn hgv hbl er hy hx1 hr2 hr6 hysh hyal hl6 hmem hln hlv hbw
   go_upto_region 5 with fail
   obtain ⟨q0,q1,q2,q3,q4⟩:=hb5.cells
   have ql:=hb5.lt
   clear hb5
   go_upto_region 6 with (first | (go_at_call 73;refine HIT.out.mono ?_;rintro e' w2 ⟨o7,len7,cap7,rfl,hl7,hb7⟩))
   have hl7':=zbd hl7
   have HLL:=zh hl7'.1
   clear hl7'
   have hw:w.heap.size<=w1.heap.size:=Nat.le_trans HBL.out.size HB1.out.size
   have HB2:=zh (show Below w1.heap.size w1 w2 from HBLr.out.trans ((HBW.out.trans (hb7.mono HBW.out.size)).mono HBLr.out.size))
   have HB3:=zh (show Below wr.heap.size wr w2 from HBW.out.trans (hb7.mono HBW.out.size))
   have HBW2:=zh (show Below w.heap.size w w2 from (HBL.out.trans (HB1.out.mono HBL.out.size)).trans (HB2.out.mono hw))
   have hdrop:L.drop i=y::L.drop (i+1):=by
    rw[List.drop_eq_getElem_cons HLI.out]
    congr 1
    exact (List.getElem?_eq_some_iff.1 HY.out).2
   have HBD2:=zh (show Sy.bindsL L=(Sy.bindsL (y::L.drop (i+1))).map fun p=>(dn++p.1,dv++p.2) from by rw[<-hdrop];exact HBD.out)
   have HW:=zh hw
   clear hdrop hw
   by_cases hok:r2=true∧len7=2
   ·obtain ⟨rfl,rfl⟩:=hok
    obtain ⟨a,b,hab⟩:∃a b,(Sy.split y).1=[a,b]:=by
     match h:(Sy.split y).1,(show (Sy.split y).1.length=2 from HLL.out.symm) with
     | [a,b],_=>exact ⟨a,b,rfl⟩
    rw[hab] at hl7
    have HBD3:=zh (show Sy.bindsL L=(Sy.bindsL (L.drop (i+1))).map fun p=>((dn++[a])++p.1,(dv++[b])++p.2) from by
     rw[HBD2.out]
     simp only[Sy.bindsL,hab]
     rw[if_pos (by simpa using HR2.out),Option.map_map]
     simp[Function.comp_def])
    obtain ⟨o6,len6,cap6,he6,hl6,hc6,hm6,hr6⟩:=hl7
    simp only[Value.slice.injEq] at he6
    obtain ⟨rfl,rfl,rfl⟩:=he6
    obtain ⟨b7,off7,ka,na,da,sa,la,oa,lena,capa,ho7,hxa,f0,f1,f2,f3,f4,ea⟩:=zat hr6 qzB (show [a,b][0]?=some a from rfl)
    obtain ⟨b8,off8,kb,nb,db,sb,lb,ob,lenb,capb,ho8,hxb,g0,g1,g2,g3,g4,eb⟩:=zat hr6 qzB (show [a,b][1]?=some b from rfl)
    subst ho7
    simp only[Option.some.injEq,Addr.mk.injEq,and_true] at ho8
    obtain ⟨rfl,rfl⟩:=ho8
    have HF:=zh (show w2.cell? ⟨b7,off7,none⟩=some (.int .i64 ka)∧w2.cell? ⟨b7,off7+1,none⟩=some (.int .i64 na)∧w2.cell? ⟨b7,off7+2,none⟩=some (.int .i64 da)∧w2.cell? ⟨b7,off7+3,none⟩=some (.string sa)∧w2.cell? ⟨b7,off7+4,none⟩=some (.slice oa lena capa) from ⟨by simpa using (zaa f0).2,by simpa using (zaa f1).2,by simpa using (zaa f2).2,by simpa using (zaa f3).2,by simpa using (zaa f4).2⟩)
    have HG:=zh (show w2.cell? ⟨b7,off7+5,none⟩=some (.int .i64 kb)∧w2.cell? ⟨b7,off7+6,none⟩=some (.int .i64 nb)∧w2.cell? ⟨b7,off7+7,none⟩=some (.int .i64 db)∧w2.cell? ⟨b7,off7+8,none⟩=some (.string sb)∧w2.cell? ⟨b7,off7+9,none⟩=some (.slice ob lenb capb) from ⟨by simpa using (zaa g0).2,by simpa using (zaa g1).2,by simpa using (zaa g2).2,by simpa using (zaa g3).2,by simpa using (zaa g4).2⟩)
    have HNB:=zh (zaa f0).1
    have HEA:=zh (show RepD (hide w2 (SR (SR S u3) u2)) w2.heap.size a (.agg #[.int .i64 ka,.int .i64 na,.int .i64 da,.string sa,.slice oa lena capa]) from by rw[hxa];exact ea)
    have HEB:=zh (show RepD (hide w2 (SR (SR S u3) u2)) w2.heap.size b (.agg #[.int .i64 kb,.int .i64 nb,.int .i64 db,.string sb,.slice ob lenb capb]) from by rw[hxb];exact eb)
    have HN2:=zh (HGN.out.below HB3.out)
    have HV2:=zh (HGV.out.below HB3.out)
    obtain ⟨x0,x1,x2,x3,x4⟩:=HF.out
    obtain ⟨y0,y1,y2,y3,y4⟩:=HG.out
    have bl7:=zai x0
    clear f0 f1 f2 f3 f4 g0 g1 g2 g3 g4 ea eb hxa hxb hr6 hl6 hab hb7 e0 e1 e2 e3 e4 q0 q1 q2 q3 q4
    go_upto_region 8 with fail
    have HD5:=zh ((Below.refl w2.heap.size w2).drew)
    have HNE:=zh (show ¬(u2.ownBlock=some b7∨u3.ownBlock=some b7) from fun h=>HNB.out (h.elim .inr fun h=>.inl (.inr h)))
    have HCA:=zh (show ∀w1,Turned (fun c=>u2.ownBlock=some c∨u3.ownBlock=some c) w2.drew w1->w1.cell? ⟨b7,off7,none⟩=some (.int .i64 ka)∧w1.cell? ⟨b7,off7+1,none⟩=some (.int .i64 na)∧w1.cell? ⟨b7,off7+2,none⟩=some (.int .i64 da)∧w1.cell? ⟨b7,off7+3,none⟩=some (.string sa)∧w1.cell? ⟨b7,off7+4,none⟩=some (.slice oa lena capa) from fun w1 h=>by
     have hc:∀i u,w2.cell? ⟨b7,i,none⟩=some u->w1.cell? ⟨b7,i,none⟩=some u:=fun i u hu=>(Shown.turned (S:=fun c=>u2.ownBlock=some c∨u3.ownBlock=some c) h (fun _ _ h=>h) b7 i u HNE.out hu).2
     exact ⟨hc _ _ HF.out.1,hc _ _ HF.out.2.1,hc _ _ HF.out.2.2.1,hc _ _ HF.out.2.2.2.1,hc _ _ HF.out.2.2.2.2⟩)
    have HCB:=zh (show ∀w1,Turned (fun c=>u2.ownBlock=some c∨u3.ownBlock=some c) w2.drew w1->w1.cell? ⟨b7,off7+5,none⟩=some (.int .i64 kb)∧w1.cell? ⟨b7,off7+6,none⟩=some (.int .i64 nb)∧w1.cell? ⟨b7,off7+7,none⟩=some (.int .i64 db)∧w1.cell? ⟨b7,off7+8,none⟩=some (.string sb)∧w1.cell? ⟨b7,off7+9,none⟩=some (.slice ob lenb capb) from fun w1 h=>by
     have hc:∀i u,w2.cell? ⟨b7,i,none⟩=some u->w1.cell? ⟨b7,i,none⟩=some u:=fun i u hu=>(Shown.turned (S:=fun c=>u2.ownBlock=some c∨u3.ownBlock=some c) h (fun _ _ h=>h) b7 i u HNE.out hu).2
     exact ⟨hc _ _ HG.out.1,hc _ _ HG.out.2.1,hc _ _ HG.out.2.2.1,hc _ _ HG.out.2.2.2.1,hc _ _ HG.out.2.2.2.2⟩)
    have hTW:Twin w2.drew S w1.heap.size dn dv u2 u3:=⟨HN2.out.below HD5.out,HV2.out.below HD5.out⟩
    have hXA:RepD (hide w2.drew (SR (SR S u3) u2)) w2.drew.heap.size a (.agg #[.int .i64 ka,.int .i64 na,.int .i64 da,.string sa,.slice oa lena capa]):=HEA.out.shown (Shown.below HD5.out) qzL
    have hXB:RepD (hide w2.drew (SR (SR S u2) u3)) w2.drew.heap.size b (.agg #[.int .i64 kb,.int .i64 nb,.int .i64 db,.string sb,.slice ob lenb capb]):=HEB.out.shown ((Shown.flip w2).trans (Shown.below HD5.out)) qzL
    refine zen 12 4 5 10 11 _ _ _ _ 37 38 43 44 (BiR u2 u3 (.slice (some ⟨b7,off7,none⟩) 2 cap7) (.pointer (some ⟨b7,off7,none⟩)) (.agg #[.int .i64 ka,.int .i64 na,.int .i64 da,.string sa,.slice oa lena capa]) (.pointer (some ⟨b7,off7+5,none⟩)) (.agg #[.int .i64 kb,.int .i64 nb,.int .i64 db,.string sb,.slice ob lenb capb])) (by kernel_rfl) (by show monoB _ 12 49=true;kernel_rfl) ⟨rfl,rfl,by omega⟩ ⟨rfl,rfl,by omega⟩ ⟨rfl,rfl,by omega⟩ ⟨rfl,rfl,by omega⟩ (by decide) ?hdA ?hdB hTW hXA hXB ?hops ?hmA ?hmB ?hgA ?hgB ?hend
    case hdA=>exact zbi 4 (by kernel_rfl)
    case hdB=>exact zbi 10 (by kernel_rfl)
    case hops=>
     intro i o hi hsp ho x w1 hdf hsz hT jb ja
     match i,hi,hsp with
     | 0,_,_=>
      obtain rfl:_=o:=Option.some.inj ho
      have h2:x.tmps.getD 2 undef=u2:=ja.at 2 (by kernel_rfl)
      exact zak (v:=u2) rfl (by go_simp) rfl
     | 1,_,_=>
      obtain rfl:_=o:=Option.some.inj ho
      have h8:x.tmps.getD 8 undef=.slice (some ⟨b7,off7,none⟩) 2 cap7:=ja.at 8 (by kernel_rfl)
      exact zak (v:=(.slice (some ⟨b7,off7,none⟩) 2 cap7)) rfl (by go_simp) rfl
     | 2,_,_=>
      obtain rfl:_=o:=Option.some.inj ho
      have h34:x.tmps.getD 34 undef=.slice (some ⟨b7,off7,none⟩) 2 cap7:=zaH jb 1 34 (by kernel_rfl) (by decide)
      exact zak (v:=.pointer (some ⟨b7,off7,none⟩)) rfl (by go_simp) rfl
     | 3,_,_=>
      obtain rfl:_=o:=Option.some.inj ho
      have h35:x.tmps.getD 35 undef=.pointer (some ⟨b7,off7,none⟩):=zaH jb 2 35 (by kernel_rfl) (by decide)
      obtain ⟨z0,z1,z2,z3,z4⟩:=HCA.out w1 hT
      have zl:=zai z0
      exact zak (v:=.agg #[.int .i64 ka,.int .i64 na,.int .i64 da,.string sa,.slice oa lena capa]) rfl (by go_simp) rfl
     | 4,_,h | 5,_,h | 10,_,h | 11,_,h=>exact absurd (by decide) h
     | 6,_,_=>
      obtain rfl:_=o:=Option.some.inj ho
      have h3:x.tmps.getD 3 undef=u3:=ja.at 3 (by kernel_rfl)
      exact zak (v:=u3) rfl (by go_simp) rfl
     | 7,_,_=>
      obtain rfl:_=o:=Option.some.inj ho
      have h8:x.tmps.getD 8 undef=.slice (some ⟨b7,off7,none⟩) 2 cap7:=ja.at 8 (by kernel_rfl)
      exact zak (v:=(.slice (some ⟨b7,off7,none⟩) 2 cap7)) rfl (by go_simp) rfl
     | 8,_,_=>
      obtain rfl:_=o:=Option.some.inj ho
      have h40:x.tmps.getD 40 undef=.slice (some ⟨b7,off7,none⟩) 2 cap7:=zaH jb 7 40 (by kernel_rfl) (by decide)
      exact zak (v:=.pointer (some ⟨b7,off7+5,none⟩)) rfl (by go_simp) rfl
     | 9,_,_=>
      obtain rfl:_=o:=Option.some.inj ho
      have h41:x.tmps.getD 41 undef=.pointer (some ⟨b7,off7+5,none⟩):=zaH jb 8 41 (by kernel_rfl) (by decide)
      obtain ⟨z0,z1,z2,z3,z4⟩:=HCB.out w1 hT
      have zl:=zai z0
      exact zak (v:=.agg #[.int .i64 kb,.int .i64 nb,.int .i64 db,.string sb,.slice ob lenb capb]) rfl (by go_simp) rfl
    case hmA=>
     intro x w1 _ _ jb _
     exact zbj rfl rfl (zaH jb 3 36 (by kernel_rfl) (by decide))
    case hmB=>
     intro x w1 _ _ jb _
     exact zbj rfl rfl (zaH jb 9 42 (by kernel_rfl) (by decide))
    case hgA=>
     intro x w1 T _ _ jb _ hg hk
     exact za1 rfl rfl (zaH jb 0 33 (by kernel_rfl) (by decide)) hg hk (by have:=HDN.out;have:=HLI.out;have:=HLE.out;have:=HAL.out;simp only[List.length_singleton];omega)
    case hgB=>
     intro x w1 T _ _ jb _ hg hk
     exact za1 rfl rfl (zaH jb 6 39 (by kernel_rfl) (by decide)) hg hk (by have:=HDV.out;have:=HLI.out;have:=HLE.out;have:=HAL.out;simp only[List.length_singleton];omega)
    case hend=>
     intro x w9 hdf hsz hT ja htw hval
     clear hval
     obtain ⟨f,ha,hf⟩:=zaq [false,false,false,false,false,false,false,false,false,false,false,false,false,false,false,false,false,false,false,false,false,false,false,false,false,false,false,false,false,false,false,false,false,true,true,true,true,true,true,true,true,true,true,true,true,false,false,false,false] (by kernel_rfl) hdf hsz ja
     rw[<-hf,<-hf] at htw
     subst ha
     have HB9:=zh (show Below w1.heap.size w1 w9 from HB2.out.trans (((HD5.out.mono HB2.out.size).trans (Turned.below hT (fun c hc=>hc.elim (fun h=>(HN2.out.block h).1) fun h=>(HV2.out.block h).1) HB2.out.size))))
     have HTW:=zh htw
     clear htw hT hdf hsz ja hf hTW hXA hXB HCA HCB
     simp only[spellH,List.drop_succ_cons,List.drop_zero]
     go_wp2_with fail
     go_roundg (L.length-(i+1))
     case measure=>have:=HLI.out;omega
     case rel=>
      refine ⟨zh ⟨i+1,dn++[a],dv++[b],by go_num,rfl,by have:=HLI.out;omega,by simp[HDN.out],by simp[HDV.out],HTW.out.1,HTW.out.2,HB9.out,HBD3.out⟩,rfl⟩
   ·have HN:=zh (show Sy.bindsL L=none from by
     rw[HBD2.out]
     simp only[Sy.bindsL]
     split
     ·rename_i a b hab
      rw[if_neg (fun hk=>hok ⟨by rw[<-HR2.out];simpa using hk,by rw[HLL.out,hab];rfl⟩)]
      rfl
     ·rfl)
    have HNN:=zh (show Sy.binds x=none from by rw[HR.out];split<;>first | exact HN.out | rfl)
    cases r2
    ·go_wp2_with fail
     refine bodyPost_ret (v:=.tuple #[.slice none 0 0,.slice none 0 0,.bool false]) (by simp[results,results76,go_sem]) rfl ?_
     exact ⟨[],[],_,_,false,rfl,GrownS.nil _ (fun b h=>h.elim (fun h=>qzM (HS1.out b h) HB2.out.size) fun h=>by simp[Value.ownBlock] at h) HBW2.out.size,GrownS.nil _ (fun b h=>h.elim (fun h=>qzM (HS1.out b h) HB2.out.size) fun h=>by simp[Value.ownBlock] at h) HBW2.out.size,HBW2.out,fun h=>by simp at h,fun _=>HNN.out,Nat.zero_le _⟩
    ·have h72:((len7:Int) != 2)=true:=by
      simp only[true_and] at hok
      simp only[bne_iff_ne,ne_eq]
      omega
     go_wp2_with fail
     refine bodyPost_ret (v:=.tuple #[.slice none 0 0,.slice none 0 0,.bool false]) (by simp[results,results76,go_sem]) rfl ?_
     exact ⟨[],[],_,_,false,rfl,GrownS.nil _ (fun b h=>h.elim (fun h=>qzM (HS1.out b h) HB2.out.size) fun h=>by simp[Value.ownBlock] at h) HBW2.out.size,GrownS.nil _ (fun b h=>h.elim (fun h=>qzM (HS1.out b h) HB2.out.size) fun h=>by simp[Value.ownBlock] at h) HBW2.out.size,HBW2.out,fun h=>by simp at h,fun _=>HNN.out,Nat.zero_le _⟩
  ·have hE:Sy.bindsL L=some (dn,dv):=by rw[hbd,List.drop_of_length_le (by rw[<-HLN.out];omega)];simp[Sy.bindsL]
   go_wp2_with fail
   refine bodyPost_ret (v:=.tuple #[u2,u3,.bool r]) (by simp[results,results76,go_sem]) rfl ?_
   have hw:w.heap.size<=w1.heap.size:=Nat.le_trans HBL.out.size HB1.out.size
   refine ⟨dn,dv,u2,u3,r,rfl,hgn.less (fun _ h=>h) hw,hgv.less (fun _ h=>h) hw,(HBL.out.trans (HB1.out.mono HBL.out.size)).trans (hbl.mono hw),fun h=>?_,fun h=>?_,?_⟩
   ·rw[HR.out,if_pos h,hE]
   ·rw[HR.out,if_neg (by simp[h])]
   ·have:=HLE.out;have:=HAL.out;omega
end
end Go.Proofs.YtnbjhmafnigefaaGreatDoor
