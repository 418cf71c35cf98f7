/- .. -/
import Derived.Defers
import Derived.Recover
import Derived.Laws.Pointers
import Derived.Deep.RegionLaw
import Derived.Test.YtnbjhmafnigefaaGreatDoorSckA05
open Go.Proofs.Tryz
set_option maxRecDepth 100000
set_option maxHeartbeats 16000000
namespace Go.Proofs.YtnbjhmafnigefaaGreatDoor
section
open Go Go.RowKit
theorem zia {c:UInt8} (h:Dat.strByte c=true):32<=c.toNat∧c.toNat<=126∧c.toNat≠34∧c.toNat≠92:=by
 simp only[Dat.strByte,Bool.and_eq_true,decide_eq_true_eq] at h
 exact ⟨h.1,h.2.1,h.2.2.1,h.2.2.2⟩
theorem zgI {c:UInt8} (h:Dat.strByte c=false) (h34:c≠34):c.toNat<32∨126<c.toNat∨c.toNat=92:=by
 have h3:c.toNat≠34:=fun e=>h34 (UInt8.toNat_inj.1 e)
 apply Decidable.byContradiction
 intro hc
 have:Dat.strByte c=true:=by
  simp only[Dat.strByte,Bool.and_eq_true,decide_eq_true_eq]
  exact ⟨by omega,by omega,h3,by omega⟩
 rw[h] at this;cases this
def Rd.strQ (T Q:List UInt8):Rd.Res Dat:=
 match Q with
 | []=>.bad []
 | b::t=>if b=34 then .ok (.mk 3 0 0 ⟨T.toArray⟩ []) t else .bad (b::t)
theorem Rd.str_eq (r:List UInt8):Rd.str r=Rd.strQ (r.takeWhile Dat.strByte) (r.dropWhile Dat.strByte):=by unfold Rd.str Rd.strQ;rfl
end
section
open Go Go.RowKit
theorem zdY {c k:UInt8} (h:c≠k):((c.toNat:Int)==(k.toNat:Int))=false:=by
 simp only[beq_eq_false_iff_ne,ne_eq]
 intro e
 exact h (UInt8.toNat_inj.1 (by omega))
theorem zjA {c:UInt8} (h:c≠32):((c.toNat:Int)==32)=false:=zdY h
theorem zgc {c:UInt8} (h:c≠10):((c.toNat:Int)==10)=false:=zdY h
theorem zkG {c:UInt8} (h:c≠9):((c.toNat:Int)==9)=false:=zdY h
theorem RB.drewN {W:World} {b:Nat} {s:ByteArray} {a:Nat} {d:Int} (h:RB W b s a d) (n:Nat):RB (W.drewN n) b s a d:=BoxL.keep h (Below.selfN _ _)
theorem zb3 (b:Nat) (s:ByteArray) (a:Nat) (d:Int) (r:List UInt8) (w:World) (hp:RB w b s a d) (hat:Rd.At s a r) (hs:s.size<=65536) :
  Calls prog 34 #[.pointer (some ⟨b,0,none⟩)] w fun e w'=>e=.returned (.int .u8 ((Rd.skip false r).headD 0).toNat)∧RB w' b s (s.size-(Rd.skip false r).length) d∧Turned (fun c=>c=b) w w':=by
 have HI:=zh (show ∃a' r',RB w b s a' d∧Rd.At s a' r'∧Rd.skip false r'=Rd.skip false r∧r'.length<=r.length∧Turned (fun c=>c=b) w w from ⟨a,r,hp,hat,rfl,qzL,Turned.refl _ _⟩)
 clear hp hat
 go_enter func34,ntmps34
 go_wp2_with fail
 go_loopg [2] r.length (fun g rv wr=>rv=.int .u8 0∧∃a' r',RB wr b s a' d∧Rd.At s a' r'∧Rd.skip false r'=Rd.skip false r∧r'.length<=g∧Turned (fun c=>c=b) w wr)
 case atStart=>exact ⟨rfl,HI.out⟩
 case round=>
  obtain ⟨rfl,a1,r1,hp,hat,hsk,hle,hT⟩:=hrel
  have HT:=zh hT
  have HP:=zh hp
  have HA:=zh hat
  have HSK:=zh hsk
  have c0:=hp.cell 0 rfl
  have c1:=hp.cell 1 rfl
  have hz1:=hp.free 1
  have hl:=hp.lt
  clear hp hat hT hsk HI
  cases r1 with
  | nil=>
   have ha:a1=s.size:=by have:=HA.out.pos;simpa using this
   subst ha
   have hd:decide ((s.size:Int)<(s.size:Int))=false:=by simp
   go_upto_region 1 with fail
   go_quiet (fail)
   go_wp2_with fail
   go_ret
   rw[<-HSK.out]
   exact ⟨rfl,HP.out.drewN _,HT.out.next (Turned.of_below (Below.selfN _ _))⟩
  | cons c t=>
   obtain ⟨hlt,hc⟩:=HA.out.get
   have hd:decide ((a1:Int)<(s.size:Int))=true:=by simp;omega
   by_cases c59:c=59
   ·subst c59
    have HS0:=zh (show Rd.skip true t=Rd.skip false r from by rw[<-HSK.out];simp[Rd.skip])
    go_upto_region 1 with fail
    go_quiet (fail)
    go_upto_region 2 with fail
    go_quiet (fail)
    go_wp2_with fail
    go_loopg [] (t.length+1) (fun g wq=>∃a2 q,RB wq b s a2 d∧Rd.At s a2 q∧(q=59::t∨q.length<=t.length∧Rd.skip true q=Rd.skip false r)∧q.length<=g∧Turned (fun c=>c=b) w wq)
    case atStart=>exact ⟨a1,59::t,HP.out.drewN _,HA.out,.inl rfl,by simp,HT.out.next (Turned.of_below (Below.selfN _ _))⟩
    case round=>
     obtain ⟨a2,q,hp2,hat2,hq2,hle2,hT2⟩:=hrel
     have HP2:=zh hp2
     have HA2:=zh hat2
     have HT2:=zh hT2
     have HQ2:=zh hq2
     clear c0 c1 hz1 hl hd hlt hc
     have c0:=hp2.cell 0 rfl
     have c1:=hp2.cell 1 rfl
     have hz1:=hp2.free 1
     have hl:=hp2.lt
     clear hp2 hat2 hq2 hT2
     cases q with
     | nil=>
      have ha:a2=s.size:=by have:=HA2.out.pos;simpa using this
      subst ha
      have hd:decide ((s.size:Int)<(s.size:Int))=false:=by simp
      go_upto_region 4 with fail
      go_quiet (fail)
      go_wp2_with fail
      go_roundg 0
      case measure=>simp only[qzN] at hle;omega
      case rel=>exact ⟨rfl,s.size,[],RB.drewN HP2.out _,HA2.out,by rcases HQ2.out with h | h;exact absurd h (by simp);rw[<-h.2];rfl,qzL,HT2.out.next (Turned.of_below (Below.selfN _ _))⟩
     | cons e u=>
      obtain ⟨hlt,hc⟩:=HA2.out.get
      have hd:decide ((a2:Int)<(s.size:Int))=true:=by simp;omega
      by_cases c10:e=10
      ·subst c10
       go_upto_region 4 with fail
       go_quiet (fail)
       go_wp2_with fail
       have hu:(10::u).length<=t.length∧Rd.skip true (10::u)=Rd.skip false r:=by rcases HQ2.out with h | h;exact absurd h (by simp);exact h
       go_roundg (u.length+1)
       case measure=>have:=hu.1;simp only[qzN] at hle this;omega
       case rel=>exact ⟨rfl,a2,10::u,RB.drewN HP2.out _,HA2.out,by rw[<-hu.2];simp[Rd.skip],qzL,HT2.out.next (Turned.of_below (Below.selfN _ _))⟩
      ·have e10:((e.toNat:Int) != 10)=true:=by rw[bne,zgc c10];rfl
       have HN:=zh c10
       clear c10
       go_upto_region 4 with fail
       go_quiet (fail)
       go_wp2_with fail
       go_roundg u.length
       case measure=>simp only[qzN] at hle2;omega
       case rel=>exact ⟨a2+1,u,RB.at (RB.drewN HP2.out _) (a2+1),HA2.out.cons,.inr (by
        rcases HQ2.out with h | h
        ·simp only[List.cons.injEq] at h;rw[h.2];exact ⟨qzL,HS0.out⟩
        ·refine ⟨by have:=h.1;simp only[qzN] at this;omega,?_⟩;rw[<-h.2];simp only[Rd.skip];rw[if_neg HN.out]),qzL,(HT2.out.next (Turned.of_below (Below.selfN _ _))).next (Turned.set _ _ _ rfl)⟩
   ·have e59:((c.toNat:Int)==59)=false:=zdY (k:=59) c59
    by_cases hb:c=32∨c=10∨c=9
    ·have HS2:=zh (show Rd.skip false t=Rd.skip false r from by rw[<-HSK.out];simp only[Rd.skip];rw[if_neg c59,if_pos hb])
     have hA2:=HA.out.cons
     have HA2:=zh hA2
     clear hA2 c59
     rcases hb with rfl | rfl | rfl
     all_goals
      go_upto_region 1 with fail
      go_quiet (fail)
      go_upto_region 2 with fail
      go_quiet (fail)
      go_wp2_with fail
      go_roundg t.length
      case measure=>simp only[qzN] at hle;omega
      case rel=>exact ⟨rfl,a1+1,t,RB.at (RB.drewN HP.out _) (a1+1),HA2.out,HS2.out,qzL,(HT.out.next (Turned.of_below (Below.selfN _ _))).next (Turned.set _ _ _ rfl)⟩
    ·have HS2:=zh (show Rd.skip false r=c::t from by rw[<-HSK.out];simp only[Rd.skip];rw[if_neg c59,if_neg hb])
     have f1:((c.toNat:Int) != 32)=true:=by rw[bne,zjA (fun h=>hb (.inl h))];rfl
     have f2:((c.toNat:Int) != 10)=true:=by rw[bne,zgc (fun h=>hb (.inr (.inl h)))];rfl
     have f3:((c.toNat:Int) != 9)=true:=by rw[bne,zkG (fun h=>hb (.inr (.inr h)))];rfl
     clear c59 hb
     go_upto_region 1 with fail
     go_quiet (fail)
     go_upto_region 2 with fail
     go_quiet (fail)
     go_wp2_with fail
     go_ret
     rw[HS2.out]
     exact ⟨rfl,by rw[<-HA.out.pos];exact HP.out.drewN _,HT.out.next (Turned.of_below (Below.selfN _ _))⟩
end
section
open Go Go.RowKit
namespace Rd
open Dat
def pre (l0:List Dat) (res:Res (List Dat × Dat)):Res (List Dat × Dat):=res.map fun p=>(l0++p.1,p.2)
theorem pre_nil (res:Res (List Dat × Dat)):pre [] res=res:=by cases res<;>rfl
theorem S_nil {p a:Bool} {r:List UInt8} (h:skip false r=[]):S p a r=.bad []:=by rw[S_eq];unfold seqF;rw[h]
theorem S_close {p a:Bool} {r t:List UInt8} (h:skip false r=41::t):S p a r=.ok ([],null) t:=by rw[S_eq];unfold seqF;rw[h];simp only;unfold seqH;rw[if_pos rfl]
theorem zlN {p a:Bool} {r t:List UInt8} {c:UInt8} (h:skip false r=c::t) (h41:c≠41) (hp:¬(c=46∧p=true∧a=true)):S p a r=oneF D (S p true) (c::t):=by rw[S_eq];unfold seqF;rw[h];simp only;unfold seqH;rw[if_neg h41,if_neg hp]
theorem S_point {r t:List UInt8} (h:skip false r=46::t):S true true r=pointF D t:=by rw[S_eq];unfold seqF;rw[h];simp only;unfold seqH;rw[if_neg (by decide),if_pos ⟨rfl,rfl,rfl⟩]
theorem pre_ok {l0:List Dat} {p:Bool} {r q:List UInt8} {x:Dat} (h:D r=.ok x q):pre l0 (oneF D (S p true) r)=pre (l0++[x]) (S p true q):=by
 unfold oneF
 rw[h]
 simp only
 unfold pre
 cases S p true q with
 | ok y q'=>simp[Res.map]
 | bad q'=>rfl
theorem pre_bad {l0:List Dat} {p:Bool} {r q:List UInt8} (h:D r=.bad q):pre l0 (oneF D (S p true) r)=.bad q:=by
 unfold oneF
 rw[h]
 rfl
end Rd
end
section
open Go Go.RowKit
theorem zio (x:Int):(97<=x∧x<=122)∨(48<=x∧x<=57)∨x<48∨(57<x∧x<97)∨122<x:=by omega
def mk10:List UInt8:=[45,43,42,47,60,62,61,33,63,95]
theorem zkR (q:Nat) (h:q<10):∃hlt:q<(⟨#[45,43,42,47,60,62,61,33,63,95]⟩:ByteArray).size,(⟨#[45,43,42,47,60,62,61,33,63,95]⟩:ByteArray)[q]=mk10[q]'h:=by
 refine ⟨h,?_⟩
 match q,h with
 | 0,_ | 1,_ | 2,_ | 3,_ | 4,_ | 5,_ | 6,_ | 7,_ | 8,_ | 9,_=>rfl
theorem zkT:∀c:Fin 256,mk10.contains (UInt8.ofNat c.val)=false->Rd.mark (UInt8.ofNat c.val)=((decide (97<=c.val)&&decide (c.val<=122)) || (decide (48<=c.val)&&decide (c.val<=57))):=by decide +kernel
theorem zlk:∀q:Fin 10,Rd.mark (mk10[q.val]'q.isLt)=true:=by decide +kernel
theorem zd6 (c:UInt8) (w:World):Calls prog 64 #[.int .u8 c.toNat] w fun e w'=>e=.returned (.bool (Rd.mark c))∧w'=w:=by
 go_enter func64,ntmps64
 go_wp2_with fail
 go_loopg [2,4] 10 (fun g ok k wr=>∃q:Nat,g=10-q∧q<=10∧k=.int .i64 q∧ok=.bool false∧Hid ((mk10.take q).contains c=false)∧wr=w)
 case atStart=>exact ⟨0,rfl,by omega,rfl,rfl,zh rfl,rfl⟩
 case round=>
  obtain ⟨q,rfl,hq,rfl,rfl,HM,rfl⟩:=hrel
  by_cases h10:q<10
  ·obtain ⟨hlt,hg⟩:=zkR q h10
   have hd:decide ((q:Int)<10)=true:=by simp;omega
   obtain ⟨m,hm⟩:∃m,mk10[q]=m:=⟨_,rfl⟩
   rw[hm] at hg
   by_cases hc:c=m
   ·have he:((c.toNat:Int)==(m.toNat:Int))=true:=by rw[hc];simp
    have HR:=zh (show Rd.mark c=true from by rw[hc,<-hm];exact zlk ⟨q,h10⟩)
    clear hc hm
    go_wp2_with fail
    go_ret
    exact ⟨by rw[HR.out];rfl,rfl⟩
   ·have he:((c.toNat:Int)==(m.toNat:Int))=false:=zdY hc
    have HC:=zh (show (mk10.take (q+1)).contains c=false from by
     rw[<-List.take_append_getElem h10,List.contains_eq_any_beq,List.any_append,<-List.contains_eq_any_beq,HM.out,hm]
     simpa using hc)
    clear hc hm
    go_wp2_with fail
    go_roundg (10-(q+1))
    case measure=>omega
    case rel=>exact ⟨q+1,rfl,by omega,rfl,rfl,HC.out,rfl⟩
  ·obtain rfl:q=10:=by omega
   have hlt:=c.toNat_lt
   have hall:=zkT ⟨c.toNat,hlt⟩
   rw[show UInt8.ofNat (⟨c.toNat,hlt⟩:Fin 256).val=c from UInt8.ofNat_toNat] at hall
   have HR:=zh (show Rd.mark c=((decide (97<=c.toNat)&&decide (c.toNat<=122)) || (decide (48<=c.toNat)&&decide (c.toNat<=57))) from hall HM.out)
   clear hall
   obtain ⟨n,hn⟩:∃n,c.toNat=n:=⟨_,rfl⟩
   rw[hn] at HR
   rw[hn]
   clear hn hlt
   rcases zio (n:Int) with ⟨h1,h2⟩ | ⟨h1,h2⟩ | h1 | ⟨h1,h2⟩ | h1
   all_goals
    go_wp2_with fail
    go_ret
    refine ⟨?_,rfl⟩
    rw[HR.out]
    by_cases a1:97<=n<;>by_cases a2:n<=122<;>by_cases a3:48<=n<;>by_cases a4:n<=57<;>first | (exfalso;omega) | (simp[a1,a2,a3,a4,show (n:Int)<=57↔n<=57 from by omega,show (n:Int)<=122↔n<=122 from by omega];done) | fail
end
section
open Go Go.RowKit
namespace Rd
open Dat
end Rd
theorem zfm {W W':World} {b K:Nat} {x:Dat} {v:Value} (h:RepD (hide W (Lo K)) W.heap.size x v) (ht:Turned (fun c=>c=b) W W') (hb:b<K):RepD (hide W' (Lo K)) W'.heap.size x v:=
 h.shown (Shown.turned ht fun q _ hq=>by subst hq;exact hb) ht.size
end
section
open Go Go.RowKit
def RDat (b:Nat) (s:ByteArray) (res:Rd.Res Dat) (w:World) (e:Ending) (w':World):Prop:=
 match res with
 | .ok x q=>∃v,e=.returned v∧RepD (hide w' (Lo w.heap.size)) w'.heap.size x v∧RB w' b s (s.size-q.length) (-1)∧Turned (fun c=>c=b) w w'
 | .bad q=>∃v x a',e=.returned v∧RepD (hide w' (Lo w.heap.size)) w'.heap.size x v∧RB w' b s a' ((s.size-q.length:Nat):Int)∧Turned (fun c=>c=b) w w'
theorem zbR {b:Nat} {s:ByteArray} {q:List UInt8} {w wr w2:World} (k n d:Int) (S:ByteArray) (hT:Turned (fun c=>c=b) w wr) (hB:Below wr.heap.size wr w2) (hP:RB wr b s (s.size-q.length) (-1)) (hne:w.heap.size≠b)
  (hk:-9223372036854775808<=k∧k<=9223372036854775807) (hn:-9223372036854775808<=n∧n<=9223372036854775807) (hd:-9223372036854775808<=d∧d<=9223372036854775807) (hs:S.size<=140737488351232) :
  RDat b s (.ok (.mk k n d S []) q) w (.returned (.agg #[.int .i64 k,.int .i64 n,.int .i64 d,.string S,.slice none 0 0])) (set5 w2 w.heap.size (.int .i64 k) (.int .i64 n) (.int .i64 d) (.string S) (.slice none 0 0)):=by
 refine ⟨_,rfl,RepD.shut hk hn hd hs ⟨none,0,0,rfl,rfl,by omega,by omega,rfl,rfl⟩,?_,zbc (hT.next (Turned.of_below hB)) (zag _ _ _ _ _ _ _ _ qzL)⟩
 exact (zam _ _ _ _ _ _ _ (Ne.symm hne)).trans (BoxL.keep hP hB)
theorem zb0 {b:Nat} {s:ByteArray} {q:List UInt8} {w w2:World} {a':Nat} (hT:Turned (fun c=>c=b) w w2) (hP:RB w2 b s a' ((s.size-q.length:Nat):Int)) (hne:w.heap.size≠b) :
  RDat b s (.bad q) w (.returned (.agg #[.int .i64 4,.int .i64 0,.int .i64 0,.string ⟨#[]⟩,.slice none 0 0])) (set5 w2 w.heap.size (.int .i64 4) (.int .i64 0) (.int .i64 0) (.string ⟨#[]⟩) (.slice none 0 0)):=by
 refine ⟨_,.mk 4 0 0 ⟨#[]⟩ [],a',rfl,RepD.shut (by omega) (by omega) (by omega) (by decide) ⟨none,0,0,rfl,rfl,by omega,by omega,rfl,rfl⟩,?_,zbc hT (zag _ _ _ _ _ _ _ _ qzL)⟩
 exact (zam _ _ _ _ _ _ _ (Ne.symm hne)).trans hP
theorem zdR (c:UInt8) (k:Bool) (hk:Rd.mark c=k) (w:World) (n:Nat):Calls prog 64 #[.int .u8 c.toNat] (w.drewN n) fun e w'=>e=.returned (.bool k)∧∃m,w'=w.drewN m:=
 (zd6 c (w.drewN n)).mono fun _ _ h=>⟨by rw[h.1,hk],n,h.2⟩
theorem ziR (b:Nat) (s:ByteArray) (a:Nat) (r:List UInt8) (w:World) (hp:RB w b s a (-1)) (hat:Rd.At s a r) (hs:s.size<=65536) :
  Calls prog 65 #[.pointer (some ⟨b,0,none⟩)] w (RDat b s (Rd.word r) w):=by
 obtain ⟨T,hT⟩:∃T,r.takeWhile Rd.mark=T:=⟨_,rfl⟩
 obtain ⟨Q,hQ⟩:∃Q,r.dropWhile Rd.mark=Q:=⟨_,rfl⟩
 obtain ⟨P,hP⟩:∃P,Num.parse T=P:=⟨_,rfl⟩
 obtain ⟨n,d,z⟩:=P
 have hsm:(n.natAbs<=2147483647)∧(d.natAbs<=2147483647):=by have:=Num.parse_small T;rw[hP] at this;exact this
 have htq:r=T++Q:=by rw[<-hT,<-hQ];exact (List.takeWhile_append_dropWhile).symm
 have HR:=zh (show Rd.word r=if z then .ok (.mk 0 n d Dat.emptyB []) Q else if 40<T.length then .bad r else .ok (.mk 2 0 0 ⟨T.toArray⟩ []) Q from by unfold Rd.word;rw[hT,hQ,hP])
 have hlT:T.length<=s.size:=by have:=hat.1;rw[htq,List.length_append] at this;omega
 have HX:=zh (show s.extract a (s.size-Q.length)=⟨T.toArray⟩ from zea (htq ▸ hat))
 have HPA:=zh (fun W=>zfG ⟨T.toArray⟩ n d z hP (by simp[ByteArray.size];omega) W)
 have HQ:=zh hQ
 have HPP:=zh hP
 have HA:=zh hat
 have hal:a<=s.size:=by have:=hat.1;omega
 have hab:a+Q.length<=s.size:=by have:=hat.1;rw[htq,List.length_append] at this;omega
 have HP0:=zh hp
 have hb:=hp.lt
 clear hT hQ hP htq hp
 obtain ⟨W0,hW0⟩:∃W0,w.alloc (.cells #[.int .i64 0,.int .i64 0,.int .i64 0,.string ⟨#[]⟩,.slice none 0 0] 26)=W0:=⟨_,rfl⟩
 have HW0:=zh hW0
 have HB5:=zh (show Box5 W0 w.heap.size 26 (.int .i64 0) (.int .i64 0) (.int .i64 0) (.string ⟨#[]⟩) (.slice none 0 0) from by rw[<-hW0];exact Box5.new w _ _ _ _ _ _)
 have HP1:=zh (show RB W0 b s a (-1) from by rw[<-hW0];exact BoxL.alloc HP0.out _)
 have HT0:=zh (show Turned (fun c=>c=b) w W0 from by rw[<-hW0];exact Turned.of_below (Below.one _ _))
 have c1:=HP1.out.cell 1 rfl
 have hl1:=HP1.out.lt
 clear hW0
 go_enter func65,ntmps65
 go_upto_region 1 with fail
 rw[HW0.out]
 go_wp2_with fail
 go_loopg [] r.length (fun g wr=>∃a' r',RB wr b s a' (-1)∧Rd.At s a' r'∧r'.dropWhile Rd.mark=Q∧r'.length<=g∧Turned (fun c=>c=b) W0 wr)
 case atStart=>exact ⟨a,r,HP1.out,HA.out,HQ.out,qzL,Turned.refl _ _⟩
 case round=>
  obtain ⟨a1,r1,hp1,hat1,hq1,hle,hT⟩:=hrel
  have c0:=hp1.cell 0 rfl
  have d1:=hp1.cell 1 rfl
  have z1:=hp1.free 1
  have dl:=hp1.lt
  have HP2:=zh hp1
  have HT:=zh hT
  have hla:=hat1.1
  by_cases hin:∃c t,r1=c::t∧Rd.mark c=true
  ·obtain ⟨c,t,rfl,hc⟩:=hin
   obtain ⟨hlt,hget⟩:=hat1.get
   have HI:=zh (fun n=>zdR c true hc wr n)
   have HN:=zh (show Rd.At s (a1+1) t∧t.dropWhile Rd.mark=Q from ⟨hat1.cons,by rw[<-hq1,List.dropWhile_cons_of_pos hc]⟩)
   have hlt3:decide (a1<s.size)=true:=by simp;omega
   simp only[qzN] at hle hla
   clear hp1 hat1 hq1 hT
   go_wp2_with fail
   go_quiet ((go_at_call 64;exact HI.out _))
   have HADD:=zh (show ((a1:Int)+1)=((a1+1:Nat):Int) from by omega)
   go_wp2_with fail
   rw[HADD.out]
   go_roundg t.length
   case measure=>omega
   case rel=>exact ⟨a1+1,t,RB.at (BoxL.keep HP2.out (Below.selfN _ _)) _,HN.out.1,HN.out.2,qzL,(HT.out.next (Turned.of_below (Below.selfN _ _))).next (Turned.set _ _ _ rfl)⟩
  ·have hrQ:r1=Q:=by
    rw[<-hq1]
    cases r1 with
    | nil=>rfl
    | cons c t=>rw[List.dropWhile_cons_of_neg (fun h=>hin ⟨c,t,rfl,h⟩)]
   have ha1:a1=s.size-Q.length:=by rw[<-hrQ];exact hat1.pos
   have HT1:=zh (HT0.out.next hT)
   have hne:w.heap.size≠b:=by omega
   have HBX:=zh (show Box5 wr w.heap.size 26 (.int .i64 0) (.int .i64 0) (.int .i64 0) (.string ⟨#[]⟩) (.slice none 0 0) from (hT.block _ HB5.out.lt hne).trans HB5.out)
   have HPE:=zh (show RB wr b s (s.size-Q.length) (-1) from by rw[<-ha1];exact hp1)
   have hX:s.extract a a1=⟨T.toArray⟩:=by rw[ha1];exact HX.out
   have ha2:a<=a1:=by omega
   have ha3:a1<=s.size:=by omega
   have hexit:r1=[]∨∃c t,r1=c::t∧Rd.mark c=false:=by
    cases r1 with
    | nil=>exact .inl rfl
    | cons c t=>
     refine .inr ⟨c,t,rfl,?_⟩
     cases hc:Rd.mark c with
     | false=>rfl
     | true=>exact (hin ⟨c,t,rfl,hc⟩).elim
   have hat2:=hat1
   clear hin hrQ hq1 hT hp1 ha1 hat1
   rcases hexit with h | ⟨c,t,h,hc⟩
   case' inl=>
    subst h
    have hlt3:decide (a1<s.size)=false:=by simp at hla ⊢;omega
    clear hat2 hle hla
    go_wp2_with fail
    go_quiet (fail)
    go_wp2_with fail
    go_quiet (fail)
   case' inr=>
    subst h
    obtain ⟨hlt,hget⟩:=hat2.get
    have HI:=zh (fun n=>zdR c false hc wr n)
    have hlt3:decide (a1<s.size)=true:=by simp;omega
    clear hat2 hle hla hc
    go_wp2_with fail
    go_quiet ((go_at_call 64;exact HI.out _))
    go_wp2_with fail
    go_quiet (fail)
   all_goals
    have hlt5:(decide (40<T.length)=true∧decide ((40:Int)<(T.length:Int))=true)∨(decide (40<T.length)=false∧decide ((40:Int)<(T.length:Int))=false):=by
     by_cases h:40<T.length
     ·exact .inl ⟨by simp[h],by simp;omega⟩
     ·exact .inr ⟨by simp[h],by simp;omega⟩
    cases z
    case' true=>
     go_wp2_with (first | (go_at_call 96;go_loud (refine (HPA.out _).mono ?_;rintro e' w2 ⟨rfl,hb2⟩;have hbx:Box5 w2 w.heap.size 26 (.int .i64 0) (.int .i64 0) (.int .i64 0) (.string ⟨#[]⟩) (.slice none 0 0):=(hb2.block _ HBX.out.lt).trans HBX.out;have HB2:=zh (show Below wr.heap.size wr w2 from Below.next (Below.selfN wr _) hb2);obtain ⟨q0,q1,q2,q3,q4⟩:=hbx.cells;obtain ⟨z0,z2,z3,z4,z5⟩:=hbx.free;have hgl:=hbx.lt;have HBX2:=zh hbx;clear hb2 hbx)))
     have HR5:=zh (HBX2.out.set (.int .i64 0) (.int .i64 n) (.int .i64 d) (.string ⟨#[]⟩) (.slice none 0 0))
     obtain ⟨r0,r1,r2,r3,r4⟩:=HR5.out.cells
     refine bodyPost_ret (v:=.agg #[.int .i64 0,.int .i64 n,.int .i64 d,.string ⟨#[]⟩,.slice none 0 0]) (by simp[results,results65,go_sem,r0,r1,r2,r3,r4]) rfl ?_
     rw[HR.out,if_pos trivial]
     exact zbR 0 n d ⟨#[]⟩ HT1.out HB2.out HPE.out hne (by omega) (by omega) (by omega) (by decide)
    case' false=>
     rcases hlt5 with ⟨h5,h6⟩ | ⟨h5,h6⟩
     ·go_wp2_with (first | (go_at_call 96;go_loud (refine (HPA.out _).mono ?_;rintro e' w2 ⟨rfl,hb2⟩;have hbx:Box5 w2 w.heap.size 26 (.int .i64 0) (.int .i64 0) (.int .i64 0) (.string ⟨#[]⟩) (.slice none 0 0):=(hb2.block _ HBX.out.lt).trans HBX.out;have HB2:=zh (show Below wr.heap.size wr w2 from Below.next (Below.selfN wr _) hb2);obtain ⟨q0,q1,q2,q3,q4⟩:=hbx.cells;obtain ⟨z0,z2,z3,z4,z5⟩:=hbx.free;have hgl:=hbx.lt;have HBX2:=zh hbx;clear hb2 hbx)) | (go_at_call 36;refine (zb7 b s (s.size-Q.length) (-1) a _ (BoxL.keep HPE.out HB2.out)).mono ?_;rintro e' w3 ⟨rfl,hrb,ht3⟩;have HRB:=zh hrb;have hbx3:Box5 w3 w.heap.size 26 (.int .i64 0) (.int .i64 0) (.int .i64 0) (.string ⟨#[]⟩) (.slice none 0 0):=(ht3.block _ HBX2.out.lt hne).trans HBX2.out;have HT3:=zh ht3;clear q0 q1 q2 q3 q4 z0 z2 z3 z4 z5 hgl;obtain ⟨q0,q1,q2,q3,q4⟩:=hbx3.cells;obtain ⟨z0,z2,z3,z4,z5⟩:=hbx3.free;have hgl:=hbx3.lt;have HBX3:=zh hbx3;clear hrb ht3 hbx3))
      have HR5:=zh (HBX3.out.set (.int .i64 4) (.int .i64 0) (.int .i64 0) (.string ⟨#[]⟩) (.slice none 0 0))
      obtain ⟨r0,r1,r2,r3,r4⟩:=HR5.out.cells
      refine bodyPost_ret (v:=.agg #[.int .i64 4,.int .i64 0,.int .i64 0,.string ⟨#[]⟩,.slice none 0 0]) (by simp[results,results65,go_sem,r0,r1,r2,r3,r4]) rfl ?_
      rw[HR.out,if_neg (by decide),if_pos (by simpa using h5)]
      exact zb0 ((HT1.out.next (Turned.of_below HB2.out)).next HT3.out) (by have:=HRB.out;rw[if_pos (by decide),HA.out.pos] at this;exact this) hne
     ·go_wp2_with (first | (go_at_call 96;go_loud (refine (HPA.out _).mono ?_;rintro e' w2 ⟨rfl,hb2⟩;have hbx:Box5 w2 w.heap.size 26 (.int .i64 0) (.int .i64 0) (.int .i64 0) (.string ⟨#[]⟩) (.slice none 0 0):=(hb2.block _ HBX.out.lt).trans HBX.out;have HB2:=zh (show Below wr.heap.size wr w2 from Below.next (Below.selfN wr _) hb2);obtain ⟨q0,q1,q2,q3,q4⟩:=hbx.cells;obtain ⟨z0,z2,z3,z4,z5⟩:=hbx.free;have hgl:=hbx.lt;have HBX2:=zh hbx;clear hb2 hbx)))
      have HR5:=zh (HBX2.out.set (.int .i64 2) (.int .i64 0) (.int .i64 0) (.string ⟨T.toArray⟩) (.slice none 0 0))
      obtain ⟨r0,r1,r2,r3,r4⟩:=HR5.out.cells
      refine bodyPost_ret (v:=.agg #[.int .i64 2,.int .i64 0,.int .i64 0,.string ⟨T.toArray⟩,.slice none 0 0]) (by simp[results,results65,go_sem,r0,r1,r2,r3,r4]) rfl ?_
      rw[HR.out,if_neg (by decide),if_neg (by simpa using h5)]
      exact zbR 2 0 0 ⟨T.toArray⟩ HT1.out HB2.out HPE.out hne (by omega) (by omega) (by omega) (by simp[ByteArray.size];omega)
end
section
open Go Go.RowKit
theorem zla {W:World} {S:Nat->Prop} {x y:Dat} {a0 a1 a2 a3 a4 b0 b1 b2 b3 b4:Value} (hS:∀b,S b->b<W.heap.size) (hx:RepD (hide W S) W.heap.size x (.agg #[a0,a1,a2,a3,a4])) (hy:RepD (hide W S) W.heap.size y (.agg #[b0,b1,b2,b3,b4])) (t:TypeId) :
  RepS (hide (W.alloc (.cells #[a0,a1,a2,a3,a4,b0,b1,b2,b3,b4] t)) S) (W.alloc (.cells #[a0,a1,a2,a3,a4,b0,b1,b2,b3,b4] t)).heap.size [x,y] (.slice (some ⟨W.heap.size,0,none⟩) 2 2):=by
 have hk:Shown W S (W.alloc (.cells #[a0,a1,a2,a3,a4,b0,b1,b2,b3,b4] t)) S:=Shown.below (Below.one _ _)
 have hn:∀i v,#[a0,a1,a2,a3,a4,b0,b1,b2,b3,b4][i]?=some v->(hide (W.alloc (.cells #[a0,a1,a2,a3,a4,b0,b1,b2,b3,b4] t)) S).cell? ⟨W.heap.size,i,none⟩=some v:=fun i v h=>by
  rw[za0 (fun e=>by have:=hS _ e;omega),World.cell?_alloc_at _ _ _ _ rfl];exact h
 refine ⟨some ⟨W.heap.size,0,none⟩,2,2,rfl,rfl,by omega,by omega,fun _=>⟨rfl,by simp⟩,?_⟩
 exact RepC.two (hn 0 _ rfl) (hn 1 _ rfl) (hn 2 _ rfl) (hn 3 _ rfl) (hn 4 _ rfl) (hn 5 _ rfl) (hn 6 _ rfl) (hn 7 _ rfl) (hn 8 _ rfl) (hn 9 _ rfl) (hx.shown hk (by simp)) (hy.shown hk (by simp))
end
section
open Go Go.RowKit
theorem zdA {b k:Nat} {s:ByteArray} {a:Nat} {d:Int} {wr:World} {t:TypeId} {c0 c1 c2 c3 c4:Value} (n:Nat) (hp:RB wr b s a d) (hb:Box5 wr k t c0 c1 c2 c3 c4) (hne:k≠b) (p:Int) :
  Calls prog 36 #[.pointer (some ⟨b,0,none⟩),.int .i64 p] (wr.drewN n) fun e w'=>e=.returned (.agg #[.int .i64 4,.int .i64 0,.int .i64 0,.string ⟨#[]⟩,.slice none 0 0])∧RB w' b s a (if d<0 then p else d)∧Turned (fun c=>c=b) wr w'∧Box5 w' k t c0 c1 c2 c3 c4:=
 (zb7 b s a d p _ (RB.drewN hp n)).mono fun _ w' h=>by
  have ht:=(Turned.of_below (S:=fun c=>c=b) (Below.selfN wr n)).next h.2.2
  exact ⟨h.1,h.2.1,ht,(ht.block _ hb.lt hne).trans hb⟩
theorem zkB (b:Nat) (s:ByteArray) (a:Nat) (r:List UInt8) (w:World) (hp:RB w b s a (-1)) (hat0:Rd.At s a (34::r)) (hs:s.size<=65536) :
  Calls prog 66 #[.pointer (some ⟨b,0,none⟩)] w (RDat b s (Rd.str r) w):=by
 obtain ⟨T,hT⟩:∃T,r.takeWhile Dat.strByte=T:=⟨_,rfl⟩
 obtain ⟨Q,hQ⟩:∃Q,r.dropWhile Dat.strByte=Q:=⟨_,rfl⟩
 have htq:r=T++Q:=by rw[<-hT,<-hQ];exact (List.takeWhile_append_dropWhile).symm
 have hat:=hat0.cons
 have HR:=zh (show Rd.str r=Rd.strQ T Q from by rw[Rd.str_eq,hT,hQ])
 have hlT:T.length<=s.size:=by have:=hat.1;rw[htq,List.length_append] at this;omega
 have HX:=zh (show s.extract (a+1) (s.size-Q.length)=⟨T.toArray⟩ from zea (htq ▸ hat))
 have HQ:=zh hQ
 have HA:=zh hat
 have hal:a<s.size:=by have:=hat0.1;simp only[qzN] at this;omega
 have hab:a+1+Q.length<=s.size:=by have:=hat.1;rw[htq,List.length_append] at this;omega
 have HP0:=zh hp
 have hb:=hp.lt
 have HADD:=zh (show ((a:Int)+1)=((a+1:Nat):Int) from by omega)
 clear hT hQ htq hp hat hat0
 obtain ⟨W0,hW0⟩:∃W0,w.alloc (.cells #[.int .i64 0,.int .i64 0,.int .i64 0,.string ⟨#[]⟩,.slice none 0 0] 26)=W0:=⟨_,rfl⟩
 have HW0:=zh hW0
 have HB5:=zh (show Box5 W0 w.heap.size 26 (.int .i64 0) (.int .i64 0) (.int .i64 0) (.string ⟨#[]⟩) (.slice none 0 0) from by rw[<-hW0];exact Box5.new w _ _ _ _ _ _)
 have HP1:=zh (show RB W0 b s a (-1) from by rw[<-hW0];exact BoxL.alloc HP0.out _)
 have HT0:=zh (show Turned (fun c=>c=b) w W0 from by rw[<-hW0];exact Turned.of_below (Below.one _ _))
 have c1:=HP1.out.cell 1 rfl
 have y1:=HP1.out.free 1
 have hl1:=HP1.out.lt
 clear hW0
 go_enter func66,ntmps66
 go_upto_region 1 with fail
 rw[HW0.out]
 go_upto_region 2 with fail
 rw[HADD.out]
 have hP2:RB (W0.setCell ⟨b,1,none⟩ (.int .i64 ((a+1:Nat):Int))) b s (a+1) (-1):=RB.at HP1.out _
 have hT2:Turned (fun c=>c=b) W0 (W0.setCell ⟨b,1,none⟩ (.int .i64 ((a+1:Nat):Int))):=Turned.set _ _ _ rfl
 generalize W0.setCell ⟨b,1,none⟩ (.int .i64 ((a+1:Nat):Int))=W1 at hP2 hT2 ⊢
 have HP2:=zh hP2
 have HT1:=zh (HT0.out.next hT2)
 have hne:w.heap.size≠b:=by omega
 have HB6:=zh (show Box5 W1 w.heap.size 26 (.int .i64 0) (.int .i64 0) (.int .i64 0) (.string ⟨#[]⟩) (.slice none 0 0) from (hT2.block _ HB5.out.lt hne).trans HB5.out)
 have d1:=hP2.cell 1 rfl
 have e1:=hP2.lt
 clear hP2 hT2 c1 y1 hl1
 go_wp2_with fail
 clear d1 e1
 go_loopg [] r.length (fun g wr=>∃a' r',RB wr b s a' (-1)∧Rd.At s a' r'∧r'.dropWhile Dat.strByte=Q∧r'.length<=g∧Turned (fun c=>c=b) W1 wr)
 case atStart=>exact ⟨a+1,r,HP2.out,HA.out,HQ.out,qzL,Turned.refl _ _⟩
 case round=>
  obtain ⟨a1,r1,hp1,hat1,hq1,hle,hT⟩:=hrel
  have c0:=hp1.cell 0 rfl
  have d1:=hp1.cell 1 rfl
  have z1:=hp1.free 1
  have dl:=hp1.lt
  have HP3:=zh hp1
  have HT:=zh hT
  have hla:=hat1.1
  by_cases hin:∃c t,r1=c::t∧Dat.strByte c=true
  ·obtain ⟨c,t,rfl,hc⟩:=hin
   obtain ⟨hlt,hget⟩:=hat1.get
   obtain ⟨k1,k2,k3,k4⟩:=zia hc
   have m1:((c.toNat:Int) != 34)=true:=by simp;omega
   have m2:decide (c.toNat<32)=false:=by simp;omega
   have m2':decide ((c.toNat:Int)<32)=false:=by simp;omega
   have m3:decide (126<c.toNat)=false:=by simp;omega
   have m3':decide ((126:Int)<(c.toNat:Int))=false:=by simp;omega
   have m4:((c.toNat:Int)==92)=false:=by simp;omega
   have HN:=zh (show Rd.At s (a1+1) t∧t.dropWhile Dat.strByte=Q from ⟨hat1.cons,by rw[<-hq1,List.dropWhile_cons_of_pos hc]⟩)
   have hlt3:decide (a1<s.size)=true:=by simp;omega
   have HADD:=zh (show ((a1:Int)+1)=((a1+1:Nat):Int) from by omega)
   simp only[qzN] at hle hla
   clear hp1 hat1 hq1 hT
   go_wp2_with fail
   go_quiet (fail)
   go_wp2_with fail
   go_quiet (fail)
   go_wp2_with fail
   rw[HADD.out]
   go_roundg t.length
   case measure=>omega
   case rel=>exact ⟨a1+1,t,RB.at (BoxL.keep HP3.out (Below.selfN _ _)) _,HN.out.1,HN.out.2,qzL,(HT.out.next (Turned.of_below (Below.selfN _ _))).next (Turned.set _ _ _ rfl)⟩
  ·have hrQ:r1=Q:=by
    rw[<-hq1]
    cases r1 with
    | nil=>rfl
    | cons c t=>rw[List.dropWhile_cons_of_neg (fun h=>hin ⟨c,t,rfl,h⟩)]
   have HTW:=zh (HT1.out.next hT)
   have HBX:=zh (show Box5 wr w.heap.size 26 (.int .i64 0) (.int .i64 0) (.int .i64 0) (.string ⟨#[]⟩) (.slice none 0 0) from (hT.block _ HB6.out.lt hne).trans HB6.out)
   have hpos:=hat1.pos
   rw[hrQ] at hpos
   subst hrQ
   cases hr1:r1 with
   | nil=>
    subst hr1
    have ha1:a1=s.size:=by simpa using hpos
    have hlt3:decide (a1<s.size)=false:=by simp;omega
    have heq:((a1:Int)==(s.size:Int))=true:=by simp;omega
    have HE:=zh ha1
    clear hp1 hat1 hq1 hT hin hpos ha1 hle hla
    go_wp2_with fail
    go_quiet (fail)
    go_wp2_with fail
    go_quiet (fail)
    go_wp2_with (first | (go_at_call 36;refine (zdA _ HP3.out HBX.out hne _).mono ?_;rintro e' w3 ⟨rfl,hrb,ht3,hbx3⟩;have HRB:=zh hrb;have HT3:=zh ht3;obtain ⟨q0,q1,q2,q3,q4⟩:=hbx3.cells;obtain ⟨z0,z2,z3,z4,z5⟩:=hbx3.free;have hgl:=hbx3.lt;have HBX3:=zh hbx3;clear hrb ht3 hbx3))
    have HR5:=zh (HBX3.out.set (.int .i64 4) (.int .i64 0) (.int .i64 0) (.string ⟨#[]⟩) (.slice none 0 0))
    obtain ⟨r0,r1,r2,r3,r4⟩:=HR5.out.cells
    refine bodyPost_ret (v:=.agg #[.int .i64 4,.int .i64 0,.int .i64 0,.string ⟨#[]⟩,.slice none 0 0]) (by simp[results,results66,go_sem,r0,r1,r2,r3,r4]) rfl ?_
    rw[HR.out]
    exact zb0 (HTW.out.next HT3.out) (by have:=HRB.out;rw[if_pos (by decide),HE.out] at this;exact this) hne
   | cons c t=>
    subst hr1
    obtain ⟨hlt,hget⟩:=hat1.get
    have hcf:Dat.strByte c=false:=by
     cases h:Dat.strByte c with
     | false=>rfl
     | true=>exact (hin ⟨c,t,rfl,h⟩).elim
    have hlt3:decide (a1<s.size)=true:=by simp;omega
    by_cases h34:c=34
    ·have m1:((c.toNat:Int) != 34)=false:=by subst h34;rfl
     have heq:((a1:Int)==(s.size:Int))=false:=by simp;omega
     have HX1:=zh (show s.extract (a+1) a1=⟨T.toArray⟩ from by rw[hpos];exact HX.out)
     have hX1:=HX1.out
     simp only[qzN] at hla hpos hab
     have hb1:a+1<=a1:=by omega
     have hb2:a1<=s.size:=by omega
     have HPT:=zh (show a1+1=s.size-t.length from by omega)
     have HADD:=zh (show ((a1:Int)+1)=((a1+1:Nat):Int) from by omega)
     have HE:=zh h34
     clear hp1 hat1 hq1 hT hin hpos hle hcf h34
     go_wp2_with fail
     go_quiet (fail)
     go_wp2_with fail
     go_quiet (fail)
     go_upto_region 10 with fail
     rw[HADD.out]
     rename_i n1 K1 a1'
     have hp5:RB ((wr.drewN (n1+nq)).setCell ⟨b,1,none⟩ (.int .i64 ((a1+1:Nat):Int))) b s (a1+1) (-1):=RB.at (BoxL.keep HP3.out (Below.selfN _ _)) _
     have ht5:Turned (fun c=>c=b) wr ((wr.drewN (n1+nq)).setCell ⟨b,1,none⟩ (.int .i64 ((a1+1:Nat):Int))):=(Turned.of_below (Below.selfN _ _)).next (Turned.set _ _ _ rfl)
     generalize (wr.drewN (n1+nq)).setCell ⟨b,1,none⟩ (.int .i64 ((a1+1:Nat):Int))=W5 at hp5 ht5 ⊢
     have HP5:=zh hp5
     have HT5:=zh (HTW.out.next ht5)
     have HB7:=zh (show Box5 W5 w.heap.size 26 (.int .i64 0) (.int .i64 0) (.int .i64 0) (.string ⟨#[]⟩) (.slice none 0 0) from (ht5.block _ HBX.out.lt hne).trans HBX.out)
     have f0:=hp5.cell 0 rfl
     have f1:=hp5.cell 1 rfl
     have fl:=hp5.lt
     clear hp5 ht5 c0 d1 z1 dl
     refine zaQ (Below W5.heap.size W5) 12 (by kernel_rfl) (by kernel_rfl) ((Below.refl W5.heap.size W5).drew) ?_
     intro T' _ W HW HW2
     have g0:∀t,(W t).cell? _=_:=fun t=>((HW t).cell (p:=⟨b,0,none⟩) fl).trans f0
     have g1:∀t,(W t).cell? _=_:=fun t=>((HW t).cell (p:=⟨b,1,none⟩) fl).trans f1
     have HWH:=zh HW
     clear HW HW2 f0 f1
     simp only[List.take_succ_cons,List.take_zero,List.drop_succ_cons,List.drop_zero]
     repeat (go_big_quiet_step (fail))
     refine wpQuiet_nil ?_
     intro t
     have hbx:Box5 (W t) w.heap.size 26 (.int .i64 0) (.int .i64 0) (.int .i64 0) (.string ⟨#[]⟩) (.slice none 0 0):=((HWH.out t).block _ HB7.out.lt).trans HB7.out
     obtain ⟨q0,q1,q2,q3,q4⟩:=hbx.cells
     obtain ⟨z0,z2,z3,z4,z5⟩:=hbx.free
     have hgl:=hbx.lt
     have HB8:=zh hbx
     clear hbx
     go_wp2_with fail
     have HR5:=zh (HB8.out.set (.int .i64 3) (.int .i64 0) (.int .i64 0) (.string ⟨T.toArray⟩) (.slice none 0 0))
     obtain ⟨r0,r1,r2,r3,r4⟩:=HR5.out.cells
     refine bodyPost_ret (v:=.agg #[.int .i64 3,.int .i64 0,.int .i64 0,.string ⟨T.toArray⟩,.slice none 0 0]) (by simp[results,results66,go_sem,r0,r1,r2,r3,r4]) rfl ?_
     rw[HR.out,HE.out]
     exact zbR 3 0 0 ⟨T.toArray⟩ HT5.out (HWH.out t) (by rw[<-HPT.out];exact HP5.out) hne (by omega) (by omega) (by omega) (by simp[ByteArray.size];omega)
    ·have m1:((c.toNat:Int) != 34)=true:=(u8_ne c 34).trans (by rw[decide_eq_false h34];rfl)
     have hbd:=zgI hcf h34
     have HE:=zh h34
     have HEP:=zh hpos
     clear hp1 hat1 hq1 hT hin hpos hle hcf h34 hla
     rcases hbd with h | h | h
     case' inl=>
      have m2:decide (c.toNat<32)=true:=by simp;omega
      have m2':decide ((c.toNat:Int)<32)=true:=by simp;omega
     case' inr.inl=>
      have m2:decide (c.toNat<32)=false:=by simp;omega
      have m2':decide ((c.toNat:Int)<32)=false:=by simp;omega
      have m3:decide (126<c.toNat)=true:=by simp;omega
      have m3':decide ((126:Int)<(c.toNat:Int))=true:=by simp;omega
     case' inr.inr=>
      have m2:decide (c.toNat<32)=false:=by simp;omega
      have m2':decide ((c.toNat:Int)<32)=false:=by simp;omega
      have m3:decide (126<c.toNat)=false:=by simp;omega
      have m3':decide ((126:Int)<(c.toNat:Int))=false:=by simp;omega
      have m4:((c.toNat:Int)==92)=true:=by simp;omega
     all_goals
      go_wp2_with fail
      go_quiet (fail)
      go_wp2_with fail
      go_quiet (fail)
      go_wp2_with (first | (go_at_call 36;refine (zdA _ HP3.out HBX.out hne _).mono ?_;rintro e' w3 ⟨rfl,hrb,ht3,hbx3⟩;have HRB:=zh hrb;have HT3:=zh ht3;obtain ⟨q0,q1,q2,q3,q4⟩:=hbx3.cells;obtain ⟨z0,z2,z3,z4,z5⟩:=hbx3.free;have hgl:=hbx3.lt;have HBX3:=zh hbx3;clear hrb ht3 hbx3))
      have HR5:=zh (HBX3.out.set (.int .i64 4) (.int .i64 0) (.int .i64 0) (.string ⟨#[]⟩) (.slice none 0 0))
      obtain ⟨r0,r1,r2,r3,r4⟩:=HR5.out.cells
      refine bodyPost_ret (v:=.agg #[.int .i64 4,.int .i64 0,.int .i64 0,.string ⟨#[]⟩,.slice none 0 0]) (by simp[results,results66,go_sem,r0,r1,r2,r3,r4]) rfl ?_
      rw[HR.out]
      unfold Rd.strQ
      simp only
      rw[if_neg HE.out]
      exact zb0 (HTW.out.next HT3.out) (by have:=HRB.out;rw[if_pos (by decide),HEP.out] at this;exact this) hne
end
section
open Go Go.RowKit
theorem zbp {W w':World} {S:Nat->Prop} {B:Nat} (h:Below B W w'):Below B (hide W S) (hide w' S):=by
 refine ⟨h.os,h.tape,h.output,by rw[za7,za7];exact h.size,fun c hc=>?_⟩
 have hb:=h.block c hc
 simp only[hide,Array.getElem?_mapIdx,hb]
def OwnH (W:World) (S:Nat->Prop) (base:Nat) (l:List Dat) (v:Value):Prop:=∃xs,W.ownsRow base 26 5 v l.length xs∧CellsD (hide W S) base l xs
theorem OwnH.form {W:World} {S:Nat->Prop} {base:Nat} {l:List Dat} {v:Value} (h:OwnH W S base l v):∃o len cap,v=.slice o len cap∧len<=cap∧len=l.length:=by
 obtain ⟨xs,h1,_⟩:=h
 rcases h1.2 with ⟨hv,h0⟩ | ⟨g,cap,cur,hv,_,_,h2,_⟩
 ·exact ⟨_,_,_,hv,qzL,h0.symm⟩
 ·exact ⟨_,_,_,hv,h2,rfl⟩
theorem OwnH.rep {W:World} {S:Nat->Prop} {base:Nat} {l:List Dat} {v:Value} (h:OwnH W S base l v) (hb:base<=W.heap.size) (hS:∀b,S b->b<base):RepS (hide W S) W.heap.size l v:=by
 obtain ⟨xs,h1,h2⟩:=h
 have:=zbS (w:=hide W S) (base:=base) (B:=W.heap.size) (zdF h1 (fun g hg hs=>by have:=(h1.lt g hg).1;have:=hS g hs;omega)) (h2.mono (B':=W.heap.size) fun x v hx=>hx.wider hb) (by rw[za7];exact qzL)
 rwa[za7] at this
theorem zdo {W:World} (e:TypeId) (size n:Nat) (cs:List Value) (hl:cs.length=n*size) (hn:n<=maxLen):(W.alloc (.cells cs.toArray e)).ownsRow W.heap.size e size (.slice (some ⟨W.heap.size,0,none⟩) n n) n cs:=by
 refine ⟨hl,.inr ⟨W.heap.size,n,cs.toArray,rfl,qzL,World.alloc_heap_new W _,qzL,hn,by simpa using hl,?_⟩⟩
 rw[List.take_of_length_le (by simp[hl])]
theorem OwnH.one {W:World} {S:Nat->Prop} {x:Dat} {c0 c1 c2 c3 c4:Value} (hx:RepD (hide W S) W.heap.size x (.agg #[c0,c1,c2,c3,c4])):OwnH (W.alloc (.cells #[c0,c1,c2,c3,c4] 26)) S W.heap.size [x] (.slice (some ⟨W.heap.size,0,none⟩) 1 1):=
 ⟨[c0,c1,c2,c3,c4],zdo _ 5 1 _ rfl (by unfold maxLen;omega),c0,c1,c2,c3,c4,[],rfl,hx.kept (zbp (Below.one _ _)),rfl⟩
theorem zkA {W:World} {S:Nat->Prop} {o:Oper} {a:Act} {K:Act->World->Prop} {Q:Exit->Act->World->Prop} (s x:Operand)
  (ho:o.op=.call { callee:=.builtin .append,args:=#[s,x],argTypes:=#[22,22] }) (base:Nat) (v xv:Value) (l k:List Dat) (hs:a.eval s=v) (hg:Hid (OwnH W S base l v)) (hx:a.eval x=xv) (hk:Hid (RepS (hide W S) base k xv))
  (hm:l.length+k.length<=1000000) (hb:base<=W.heap.size)
  (h:∀o' len' cap' w',Hid (OwnH w' S base (l++k) (.slice o' len' cap'))->Hid (Below base W w')->K (a.put o.dst (.slice o' len' cap')) w') :
  o.wp prog a W K Q:=by
 obtain ⟨xs,h1,h2⟩:=hg.out
 obtain ⟨ox,lenx,capx,rfl,hlx,hcx,hmx,hrx⟩:=hk.out
 obtain ⟨i0,hi,hz0,hz1,hz2⟩:=info_parts zcm
 cases k with
 | nil=>
  obtain ⟨ov,lenv,capv,rfl,hlc,hlv⟩:=OwnH.form hg.out
  have h0:lenx=0:=by simpa using hlx
  subst h0
  have hr:∀ty,(Builtin.append_ #[22,22] ty #[.slice ov lenv capv,.slice ox 0 capx]).run prog W=.ok (.slice ov lenv capv) W:=fun ty=>by
   have hle:lenv+0<=capv:=by omega
   cases ov<;>cases ox<;>simp[go_sem,Builtin.append_,hlc,Builtin.firstCells,storeCells,Builtin.lenOf]
  unfold Oper.wp execOp
  simp only[ho,resolve,invoke,builtin,Sem.run_bind,Sem.run_pure,Result.andThen_ok,List.map_toArray,List.map_cons,List.map_nil,hs,hx,hr]
  exact h _ _ _ _ (by rw[List.append_nil];exact hg) (zh qzB)
 | cons y k=>
  cases ox with
  | none=>exact absurd hrx.1 (by simp)
  | some ad=>
   obtain ⟨hsp,hblk⟩:=hrx.1 (by simp)
   obtain ⟨blk,off,sp⟩:=ad
   obtain rfl:sp=none:=hsp
   obtain ⟨ys,k1,k2⟩:=zcP _ _ hrx.2
   refine wp_append_lies W s x 22 ho base 26 i0 (.agg #[.int .i64 0,.int .i64 0,.int .i64 0,.string ⟨#[]⟩,.slice none 0 0]) 5 64 underlying22 hi hz0 hz1 hz2 rfl (by decide) v l.length xs hs h1 ⟨blk,off,none⟩ lenx capx ys hx (by rw[k1.length,hlx]) (fun j u hu=>by have:=(zaa (k2 j u hu)).2;rcases j with _ | j<;>simpa[Addr.add] using this) k1.oneCell (by rw[hlx];simp) (by rw[hlx];unfold maxLen;simp only[qzN] at hm ⊢;omega) (by rw[hlx];omega) hb W.heap.size rfl ?_
   intro g cap w' m1 m2 m3 m4
   have hbl:Below base W w':=by
    refine ⟨m2.os,m2.tape,m2.output,m2.size,fun c hc=>m2.block c (by omega) fun e=>?_⟩
    have:=(h1.lt c e.symm).1
    omega
   refine h _ _ _ _ (zh ⟨xs++ys,?_,?_⟩) (zh hbl)
   ·rw[List.length_append,<-hlx];exact m1
   ·exact (zby h2 k1).mono fun z u hz=>hz.kept (zbp hbl)
namespace Sy
def sym (s:ByteArray):Dat:=.mk 2 0 0 s []
end Sy
theorem zgH {w:World} {B:Nat} (s:ByteArray) (hs:s.size<=140737488351232):RepD w B (Sy.sym s) (.agg #[.int .i64 2,.int .i64 0,.int .i64 0,.string s,.slice none 0 0]):=
 RepD.shut (by omega) (by omega) (by omega) hs ⟨none,0,0,rfl,rfl,by omega,by omega,rfl,rfl⟩
theorem zd1 (s:ByteArray) (w:World):Calls prog 90 #[.string s] w fun e w'=>e=.returned (.agg #[.int .i64 2,.int .i64 0,.int .i64 0,.string s,.slice none 0 0])∧Below w.heap.size w w':=by
 obtain ⟨W0,hW0⟩:∃W0,w.alloc (.cells #[.int .i64 0,.int .i64 0,.int .i64 0,.string ⟨#[]⟩,.slice none 0 0] 26)=W0:=⟨_,rfl⟩
 have hb:Box5 W0 w.heap.size 26 (.int .i64 0) (.int .i64 0) (.int .i64 0) (.string ⟨#[]⟩) (.slice none 0 0):=by rw[<-hW0];exact Box5.new w _ _ _ _ _ _
 have HBL:=zh (show Below w.heap.size w W0 from by rw[<-hW0];exact Below.one _ _)
 have HB:=zh hb
 have HW0:=zh hW0
 clear hb hW0
 go_enter func90,ntmps90
 go_upto_region 1 with fail
 rw[HW0.out]
 obtain ⟨p0,p1,p2,p3,p4⟩:=HB.out.cells
 obtain ⟨z0,z1,z2,z3,z4⟩:=HB.out.free
 have pl:=HB.out.lt
 go_wp2_with fail
 have HR5:=zh (HB.out.set (.int .i64 2) (.int .i64 0) (.int .i64 0) (.string s) (.slice none 0 0))
 obtain ⟨r0,r1,r2,r3,r4⟩:=HR5.out.cells
 refine bodyPost_ret (v:=.agg #[.int .i64 2,.int .i64 0,.int .i64 0,.string s,.slice none 0 0]) (by simp[results,results90,go_sem,r0,r1,r2,r3,r4]) rfl ?_
 exact ⟨rfl,HBL.out.trans (zag _ _ _ _ _ _ _ _ qzL)⟩
end
section
open Go Go.RowKit
def RFits {α:Type} (s:ByteArray) (res:Rd.Res α) (x:α) (a:Nat) (d:Int):Prop:=
 match res with
 | .ok y q=>x=y∧a=s.size-q.length∧d = -1
 | .bad q=>d=((s.size-q.length:Nat):Int)
def RUni (b:Nat) (s:ByteArray) (res:Rd.Res Dat) (w:World) (e:Ending) (w':World):Prop:=
 ∃(x:Dat) (k n d:Int) (st:ByteArray) (o:Option Addr) (len cap a':Nat) (m:Int),e=.returned (.agg #[.int .i64 k,.int .i64 n,.int .i64 d,.string st,.slice o len cap])∧RepD (hide w' (Lo w.heap.size)) w'.heap.size x (.agg #[.int .i64 k,.int .i64 n,.int .i64 d,.string st,.slice o len cap])∧RB w' b s a' m∧Turned (fun c=>c=b) w w'∧RFits s res x a' m
theorem RDat.uni {b:Nat} {s:ByteArray} {res:Rd.Res Dat} {w:World} {e:Ending} {w':World} (h:RDat b s res w e w'):RUni b s res w e w':=by
 cases res with
 | ok x q=>
  obtain ⟨v,he,hr,hb,ht⟩:=h
  obtain ⟨k,n,d,st,o,len,cap,rfl⟩:=zae hr
  exact ⟨x,k,n,d,st,o,len,cap,_,_,he,hr,hb,ht,rfl,rfl,rfl⟩
 | bad q=>
  obtain ⟨v,x,a',he,hr,hb,ht⟩:=h
  obtain ⟨k,n,d,st,o,len,cap,rfl⟩:=zae hr
  exact ⟨x,k,n,d,st,o,len,cap,_,_,he,hr,hb,ht,rfl⟩
def RSeq (b:Nat) (s:ByteArray) (res:Rd.Res (List Dat × Dat)) (w:World) (e:Ending) (w':World):Prop:=
 ∃(l:List Dat) (x:Dat) (o':Option Addr) (len' cap':Nat) (k n d:Int) (st:ByteArray) (o:Option Addr) (len cap a':Nat) (m:Int),e=.returned (.tuple #[.slice o' len' cap',.agg #[.int .i64 k,.int .i64 n,.int .i64 d,.string st,.slice o len cap]])∧RepS (hide w' (Lo w.heap.size)) w'.heap.size l (.slice o' len' cap')∧RepD (hide w' (Lo w.heap.size)) w'.heap.size x (.agg #[.int .i64 k,.int .i64 n,.int .i64 d,.string st,.slice o len cap])∧RB w' b s a' m∧Turned (fun c=>c=b) w w'∧RFits s res (l,x) a' m
theorem RFits.map {α β:Type} {s:ByteArray} {res:Rd.Res α} {x:α} {a:Nat} {d:Int} (h:RFits s res x a d) (f:α->β):RFits s (res.map f) (f x) a d:=by
 cases res with
 | ok y q=>exact ⟨congrArg f h.1,h.2⟩
 | bad q=>exact h
def RDatOk (n:Nat):Prop:=∀(b:Nat) (s:ByteArray) (a:Nat) (r:List UInt8) (w:World) (dp:Int),r.length<n->RB w b s a (-1)->Rd.At s a r->s.size<=65536 ->
 Calls prog 35 #[.pointer (some ⟨b,0,none⟩),.int .i64 dp] w (RUni b s (Rd.D r) w)
def RSeqOk (n:Nat):Prop:=∀(b:Nat) (s:ByteArray) (a:Nat) (r:List UInt8) (w:World) (p:Bool) (dp:Int),r.length<n->RB w b s a (-1)->Rd.At s a r->s.size<=65536 ->
 Calls prog 69 #[.pointer (some ⟨b,0,none⟩),.bool p,.int .i64 dp] w (RSeq b s (Rd.S p false r) w)
end
section
open Go Go.RowKit
def readD (s:ByteArray):Option (List Dat) × Nat:=
 if 65536<s.size then (none,65536) else match Rd.A s.data.toList with
  | .ok l _=>(some l,s.size)
  | .bad q=>(none,s.size-q.length)
def ReadPost (s:ByteArray) (w:World) (e:Ending) (w':World):Prop:=
 ∃v,e=.returned (.tuple #[v,.int .i64 (readD s).2,.int .i64 (if (readD s).1.isSome then 0 else 2)])∧RepS w' w'.heap.size ((readD s).1.getD []) v∧(∃o len cap,v=.slice o len cap)∧Below w.heap.size w w'
theorem zhT (w:World) (B:Nat):RepS w B [] (.slice none 0 0):=⟨none,0,0,rfl,rfl,by omega,by omega,rfl,rfl⟩
theorem zdB {s:ByteArray} {l:List Dat} {q:List UInt8} (hs:s.size<=65536) (h:Rd.A s.data.toList=.ok l q):readD s=(some l,s.size):=by
 unfold readD;rw[if_neg (by omega),h]
theorem zjE {s:ByteArray} {q:List UInt8} (hs:s.size<=65536) (h:Rd.A s.data.toList=.bad q):readD s=(none,s.size-q.length):=by
 unfold readD;rw[if_neg (by omega),h]
end
section
open Go Go.RowKit
def S1 (S:Nat->Prop) (H b:Nat):Prop:=S b∨b=H
theorem s1_lt {S:Nat->Prop} {H n:Nat} (hS:∀b,S b->b<H) (hn:H<n):∀b,S1 S H b->b<n:=fun b h=>h.elim (fun h=>Nat.lt_trans (hS b h) hn) fun h=>by omega
theorem za5 {w W:World} {S:Nat->Prop} {H:Nat} (hH:H=w.heap.size) (hb:Below w.heap.size w W):Shown w S W (S1 S H):=fun c o u hc hu=>by
 have hlt:=zai hu
 exact ⟨fun h=>h.elim hc fun h=>by omega,(hb.cell (p:=⟨c,o,none⟩) hlt).trans hu⟩
theorem zcG {w W:World} {S:Nat->Prop} {H:Nat} {x:Dat} {k n d:Int} {s:ByteArray} {o:Option Addr} {len cap:Nat} (hH:w.heap.size<=H) (hb:Below w.heap.size w W) (hx:RepD (hide W (S1 S H)) W.heap.size x (.agg #[.int .i64 k,.int .i64 n,.int .i64 d,.string s,.slice o len cap])) :
  DatPostH S x w (.returned (.agg #[.int .i64 k,.int .i64 n,.int .i64 d,.string s,.slice o len cap])) (set5 W H (.int .i64 k) (.int .i64 n) (.int .i64 d) (.string s) (.slice o len cap)):=
 ⟨_,rfl,hx.shown ((Shown.five W (S:=S1 S H) (.inr rfl) _ _ _ _ _).trans (Shown.less _ fun _ _ h=>.inl h)) (by rw[zan];exact qzL),hb.trans (zag _ _ _ _ _ _ _ _ hH)⟩
theorem zbD (S:Nat->Prop) (s:ByteArray) (hs:s.size<=140737488351232) (l:List Dat) (sl:Value) (B:Nat) (w:World) (hS:∀b,S b->b<w.heap.size) (hv:RepS (hide w S) B l sl) (hB:B<=w.heap.size) (hl:l.length<=999999) :
  Calls prog 52 #[.string s,sl] w (DatPostH S (Dat.list (Sy.sym s::l)) w):=by
 obtain ⟨W0,hW0⟩:∃W0,w.alloc (.cells #[.int .i64 0,.int .i64 0,.int .i64 0,.string ⟨#[]⟩,.slice none 0 0] 26)=W0:=⟨_,rfl⟩
 have hb:Box5 W0 w.heap.size 26 (.int .i64 0) (.int .i64 0) (.int .i64 0) (.string ⟨#[]⟩) (.slice none 0 0):=by rw[<-hW0];exact Box5.new w _ _ _ _ _ _
 have HBL:=zh (show Below w.heap.size w W0 from by rw[<-hW0];exact Below.one _ _)
 have HB:=zh hb
 have HZ:=zh (show W0.heap.size=w.heap.size+1 from by rw[<-hW0];simp)
 have HW0:=zh hW0
 obtain ⟨so,slen,scap,rfl,hsl⟩:∃o len cap,sl=.slice o len cap∧True:=by
  obtain ⟨o,len,cap,h,_⟩:=hv
  exact ⟨o,len,cap,h,trivial⟩
 have HV:=zh hv
 clear hb hW0 hv hsl
 go_enter func52,ntmps52
 go_upto_region 1 with fail
 rw[HW0.out]
 have hsz0:=HBL.out.size
 go_wp2_with (first | (go_at_call 90;refine (zd1 s _).mono ?_;rintro e' w1 ⟨rfl,hb1⟩;have HB1:=zh (HBL.out.trans (hb1.mono hsz0));have hz1:W0.heap.size<=w1.heap.size:=hb1.size;have HX1:=zh (show Box5 w1 w.heap.size 26 (.int .i64 0) (.int .i64 0) (.int .i64 0) (.string ⟨#[]⟩) (.slice none 0 0) from (hb1.block _ HB.out.lt).trans HB.out);clear hb1;have HO:=zh (OwnH.one (W:=w1) (S:=S1 S w.heap.size) (zgH s hs));have HL:=zh (HV.out.shown (za5 rfl (HB1.out.trans (Below.mono (Below.one w1 (.cells #[.int .i64 2,.int .i64 0,.int .i64 0,.string s,.slice none 0 0] 26)) HB1.out.size))) (Nat.le_trans hB HB1.out.size));have hz2:w1.heap.size<=(w1.alloc (.cells #[.int .i64 2,.int .i64 0,.int .i64 0,.string s,.slice none 0 0] 26)).heap.size:=by simp) | (at_builtin;refine zaj rfl fun K hK=>zkA (S:=S1 S w.heap.size) (.tmp 7) (.tmp 8) rfl w1.heap.size (.slice (some ⟨w1.heap.size,0,none⟩) 1 1) (.slice so slen scap) [Sy.sym s] l rfl HO rfl HL (by simp;omega) hz2 fun o7 len7 cap7 w7 h7 h8=>hK _ _ ?_;have hz7:w1.heap.size<=w7.heap.size:=Nat.le_trans hz2 h8.out.size;have HB7:=zh (HB1.out.trans (((Below.one w1 _).trans h8.out).mono HB1.out.size));have HX7:=zh (show Box5 w7 w.heap.size 26 (.int .i64 0) (.int .i64 0) (.int .i64 0) (.string ⟨#[]⟩) (.slice none 0 0) from (((Below.one w1 _).trans h8.out).block _ HX1.out.lt).trans HX1.out)) | (go_at_call 87;refine (zaW (S1 S w.heap.size) (Sy.sym s::l) _ _ _ (s1_lt hS (qzM HX1.out.lt hz7)) (h7.out.rep hz7 (s1_lt hS HX1.out.lt)) qzL).mono ?_;rintro e' w8 ⟨v8,rfl,hr8,hb8⟩;obtain ⟨k8,n8,d8,s8,o8,len8,cap8,rfl⟩:=zae hr8.unhide;have hx8:Box5 w8 w.heap.size 26 (.int .i64 0) (.int .i64 0) (.int .i64 0) (.string ⟨#[]⟩) (.slice none 0 0):=(hb8.block _ HX7.out.lt).trans HX7.out;obtain ⟨p0,p1,p2,p3,p4⟩:=hx8.cells;obtain ⟨z0,z1,z2,z3,z4⟩:=hx8.free;have pl:=hx8.lt;have HX8:=zh hx8;have HR8:=zh hr8;have HB8:=zh (HB7.out.trans (hb8.mono HB7.out.size));clear hr8 hb8 hx8))
 have HR5:=zh (HX8.out.set (.int .i64 k8) (.int .i64 n8) (.int .i64 d8) (.string s8) (.slice o8 len8 cap8))
 obtain ⟨r0,r1,r2,r3,r4⟩:=HR5.out.cells
 refine bodyPost_ret (v:=.agg #[.int .i64 k8,.int .i64 n8,.int .i64 d8,.string s8,.slice o8 len8 cap8]) (by simp[results,results52,go_sem,r0,r1,r2,r3,r4]) rfl ?_
 exact zcG qzL HB8.out HR8.out
namespace Sy
def const (x:Dat):Dat:=Dat.list [sym ⟨#[113,117,111,116,101]⟩,x]
end Sy
theorem zax {W:World} {S:Nat->Prop} {x:Dat} {c0 c1 c2 c3 c4:Value} (hS:∀b,S b->b<W.heap.size) (hx:RepD (hide W S) W.heap.size x (.agg #[c0,c1,c2,c3,c4])):RepS (hide (W.alloc (.cells #[c0,c1,c2,c3,c4] 26)) S) (W.alloc (.cells #[c0,c1,c2,c3,c4] 26)).heap.size [x] (.slice (some ⟨W.heap.size,0,none⟩) 1 1):=
 (OwnH.one hx).rep (by simp) hS
theorem zc3 (S:Nat->Prop) (x:Dat) (v:Value) (B:Nat) (w:World) (hS:∀b,S b->b<w.heap.size) (hv:RepD (hide w S) B x v) (hB:B<=w.heap.size) :
  Calls prog 89 #[v] w (DatPostH S (Sy.const x) w):=by
 obtain ⟨k,n,d,s,o,len,cap,rfl⟩:=zae hv.unhide
 obtain ⟨W0,hW0⟩:∃W0,(w.alloc (.cells #[.int .i64 k,.int .i64 n,.int .i64 d,.string s,.slice o len cap] 26)).alloc (.cells #[.int .i64 0,.int .i64 0,.int .i64 0,.string ⟨#[]⟩,.slice none 0 0] 26)=W0:=⟨_,rfl⟩
 have hb:Box5 W0 (w.heap.size+1) 26 (.int .i64 0) (.int .i64 0) (.int .i64 0) (.string ⟨#[]⟩) (.slice none 0 0):=by rw[<-hW0];have:=Box5.new (w.alloc (.cells #[.int .i64 k,.int .i64 n,.int .i64 d,.string s,.slice o len cap] 26)) 26 (.int .i64 0) (.int .i64 0) (.int .i64 0) (.string ⟨#[]⟩) (.slice none 0 0);rwa[World.size_alloc] at this
 have ha:Box5 W0 w.heap.size 26 (.int .i64 k) (.int .i64 n) (.int .i64 d) (.string s) (.slice o len cap):=by rw[<-hW0];exact (Box5.new w _ _ _ _ _ _).alloc _
 have HBL:=zh (show Below w.heap.size w W0 from by rw[<-hW0];exact (Below.one w _).trans ((Below.one _ _).mono (by simp)))
 have HB:=zh hb
 have hsz0:w.heap.size+2=W0.heap.size:=by rw[<-hW0];simp
 have HSZ:=zh hsz0
 have HW0:=zh hW0
 have HV:=zh (show RepD (hide W0 (S1 S (w.heap.size+1))) W0.heap.size x (.agg #[.int .i64 k,.int .i64 n,.int .i64 d,.string s,.slice o len cap]) from hv.shown (fun c o' u hc hu=>by
  have hlt:=zai hu
  exact ⟨fun h=>h.elim hc fun h=>by omega,(HBL.out.cell (p:=⟨c,o',none⟩) hlt).trans hu⟩) (by omega))
 clear hb hW0 hv hsz0
 go_enter func89,ntmps89
 go_upto_region 1 with fail
 rw[HW0.out]
 obtain ⟨a0,a1,a2,a3,a4⟩:=ha.cells
 have al:=ha.lt
 clear ha
 have hS1:∀b,S1 S (w.heap.size+1) b->b<W0.heap.size:=fun b h=>by
  have:=HSZ.out
  rcases h with h | h
  ·have:=hS b h;omega
  ·omega
 have HS1:=zh hS1
 clear hS1
 have h1:Below W0.heap.size W0 (W0.alloc (.cells #[.int .i64 k,.int .i64 n,.int .i64 d,.string s,.slice o len cap] 26)):=Below.one _ _
 have HF:=zh (zbD (S1 S (w.heap.size+1)) ⟨#[113,117,111,116,101]⟩ (by decide) [x] _ _ _ (fun b h=>qzM (HS1.out b h) h1.size) (zax HS1.out HV.out) qzL (by simp))
 have HB1:=zh h1
 clear h1
 go_wp2_with (first | (go_at_call 52;refine HF.out.mono ?_;rintro e' w8 ⟨v8,rfl,hr8,hb8⟩;obtain ⟨k8,n8,d8,s8,o8,len8,cap8,rfl⟩:=zae hr8.unhide;have hb9:=Below.next HB1.out hb8;have hx8:Box5 w8 (w.heap.size+1) 26 (.int .i64 0) (.int .i64 0) (.int .i64 0) (.string ⟨#[]⟩) (.slice none 0 0):=(hb9.block _ HB.out.lt).trans HB.out;obtain ⟨p0,p1,p2,p3,p4⟩:=hx8.cells;obtain ⟨z0,z1,z2,z3,z4⟩:=hx8.free;have pl:=hx8.lt;have HX8:=zh hx8;have HR8:=zh hr8;have HB8:=zh (HBL.out.trans (hb9.mono HBL.out.size));clear hr8 hb8 hx8 hb9))
 have HR5:=zh (HX8.out.set (.int .i64 k8) (.int .i64 n8) (.int .i64 d8) (.string s8) (.slice o8 len8 cap8))
 obtain ⟨r0,r1,r2,r3,r4⟩:=HR5.out.cells
 refine bodyPost_ret (v:=.agg #[.int .i64 k8,.int .i64 n8,.int .i64 d8,.string s8,.slice o8 len8 cap8]) (by simp[results,results89,go_sem,r0,r1,r2,r3,r4]) rfl ?_
 exact zcG (Nat.le_succ _) HB8.out HR8.out
namespace Sy
def truth (n:Int):Dat:=const (.mk 1 n 0 Dat.emptyB [])
def void:Dat:=const (.mk 5 0 0 Dat.emptyB [])
end Sy
theorem zeN (S:Nat->Prop) (n:Int) (hn:-9223372036854775808<=n∧n<=9223372036854775807) (w:World) (hS:∀b,S b->b<w.heap.size) :
  Calls prog 146 #[.int .i64 n] w (DatPostH S (Sy.truth n) w):=by
 obtain ⟨W0,hW0⟩:∃W0,w.alloc (.cells #[.int .i64 0,.int .i64 0,.int .i64 0,.string ⟨#[]⟩,.slice none 0 0] 26)=W0:=⟨_,rfl⟩
 have hb:Box5 W0 w.heap.size 26 (.int .i64 0) (.int .i64 0) (.int .i64 0) (.string ⟨#[]⟩) (.slice none 0 0):=by rw[<-hW0];exact Box5.new w _ _ _ _ _ _
 have HBL:=zh (show Below w.heap.size w W0 from by rw[<-hW0];exact Below.one _ _)
 have HB:=zh hb
 have HW0:=zh hW0
 have HF:=zh (zc3 (S1 S w.heap.size) (.mk 1 n 0 Dat.emptyB []) (.agg #[.int .i64 1,.int .i64 n,.int .i64 0,.string ⟨#[]⟩,.slice none 0 0]) W0.heap.size W0 (s1_lt hS hb.lt) (RepD.shut (by omega) (by omega) (by omega) (by decide) ⟨none,0,0,rfl,rfl,by omega,by omega,rfl,rfl⟩) qzL)
 clear hb hW0
 go_enter func146,ntmps146
 go_upto_region 1 with fail
 rw[HW0.out]
 go_wp2_with (first | (go_at_call 89;refine HF.out.mono ?_;rintro e' w8 ⟨v8,rfl,hr8,hb8⟩;obtain ⟨k8,n8,d8,s8,o8,len8,cap8,rfl⟩:=zae hr8.unhide;have hx8:Box5 w8 w.heap.size 26 (.int .i64 0) (.int .i64 0) (.int .i64 0) (.string ⟨#[]⟩) (.slice none 0 0):=(hb8.block _ HB.out.lt).trans HB.out;obtain ⟨p0,p1,p2,p3,p4⟩:=hx8.cells;obtain ⟨z0,z1,z2,z3,z4⟩:=hx8.free;have pl:=hx8.lt;have HX8:=zh hx8;have HR8:=zh hr8;have HB8:=zh (HBL.out.trans (hb8.mono HBL.out.size));clear hr8 hb8 hx8))
 have HR5:=zh (HX8.out.set (.int .i64 k8) (.int .i64 n8) (.int .i64 d8) (.string s8) (.slice o8 len8 cap8))
 obtain ⟨r0,r1,r2,r3,r4⟩:=HR5.out.cells
 refine bodyPost_ret (v:=.agg #[.int .i64 k8,.int .i64 n8,.int .i64 d8,.string s8,.slice o8 len8 cap8]) (by simp[results,results146,go_sem,r0,r1,r2,r3,r4]) rfl ?_
 exact zcG qzL HB8.out HR8.out
theorem zga (S:Nat->Prop) (w:World) (hS:∀b,S b->b<w.heap.size) :
  Calls prog 106 #[] w (DatPostH S (Sy.void) w):=by
 obtain ⟨W0,hW0⟩:∃W0,w.alloc (.cells #[.int .i64 0,.int .i64 0,.int .i64 0,.string ⟨#[]⟩,.slice none 0 0] 26)=W0:=⟨_,rfl⟩
 have hb:Box5 W0 w.heap.size 26 (.int .i64 0) (.int .i64 0) (.int .i64 0) (.string ⟨#[]⟩) (.slice none 0 0):=by rw[<-hW0];exact Box5.new w _ _ _ _ _ _
 have HBL:=zh (show Below w.heap.size w W0 from by rw[<-hW0];exact Below.one _ _)
 have HB:=zh hb
 have HW0:=zh hW0
 have HF:=zh (zc3 (S1 S w.heap.size) (.mk 5 0 0 Dat.emptyB []) (.agg #[.int .i64 5,.int .i64 0,.int .i64 0,.string ⟨#[]⟩,.slice none 0 0]) W0.heap.size W0 (s1_lt hS hb.lt) (RepD.shut (by omega) (by omega) (by omega) (by decide) ⟨none,0,0,rfl,rfl,by omega,by omega,rfl,rfl⟩) qzL)
 clear hb hW0
 go_enter func106,ntmps106
 go_upto_region 1 with fail
 rw[HW0.out]
 go_wp2_with (first | (go_at_call 89;refine HF.out.mono ?_;rintro e' w8 ⟨v8,rfl,hr8,hb8⟩;obtain ⟨k8,n8,d8,s8,o8,len8,cap8,rfl⟩:=zae hr8.unhide;have hx8:Box5 w8 w.heap.size 26 (.int .i64 0) (.int .i64 0) (.int .i64 0) (.string ⟨#[]⟩) (.slice none 0 0):=(hb8.block _ HB.out.lt).trans HB.out;obtain ⟨p0,p1,p2,p3,p4⟩:=hx8.cells;obtain ⟨z0,z1,z2,z3,z4⟩:=hx8.free;have pl:=hx8.lt;have HX8:=zh hx8;have HR8:=zh hr8;have HB8:=zh (HBL.out.trans (hb8.mono HBL.out.size));clear hr8 hb8 hx8))
 have HR5:=zh (HX8.out.set (.int .i64 k8) (.int .i64 n8) (.int .i64 d8) (.string s8) (.slice o8 len8 cap8))
 obtain ⟨r0,r1,r2,r3,r4⟩:=HR5.out.cells
 refine bodyPost_ret (v:=.agg #[.int .i64 k8,.int .i64 n8,.int .i64 d8,.string s8,.slice o8 len8 cap8]) (by simp[results,results106,go_sem,r0,r1,r2,r3,r4]) rfl ?_
 exact zcG qzL HB8.out HR8.out
end
section
open Go Go.RowKit
theorem zkr {b:Nat} {s:ByteArray} {res:Rd.Res (List Dat × Dat)} {res':Rd.Res Dat} {l:List Dat} {x:Dat} {w W2 w2 W4:World} {o':Option Addr} {len' cap' a':Nat} {m:Int} (hres:res'=res.map fun p=>.mk 7 0 0 ⟨#[]⟩ p.1) (hne:w.heap.size≠b)
  (hlt:w.heap.size<W2.heap.size) (hT:Turned (fun c=>c=b) w W2) (hr:RepS (hide w2 (Lo W2.heap.size)) w2.heap.size l (.slice o' len' cap')) (hB:RB w2 b s a' m) (hT2:Turned (fun c=>c=b) W2 w2) (hf:RFits s res (l,x) a' m) (h4:Below w2.heap.size w2 W4) :
  RUni b s res' w (.returned (.agg #[.int .i64 7,.int .i64 0,.int .i64 0,.string ⟨#[]⟩,.slice o' len' cap'])) (set5 W4 w.heap.size (.int .i64 7) (.int .i64 0) (.int .i64 0) (.string ⟨#[]⟩) (.slice o' len' cap')):=by
 subst hres
 have hs2:=hT2.size
 have hs4:=h4.size
 refine ⟨.mk 7 0 0 ⟨#[]⟩ l,_,_,_,_,_,_,_,a',m,rfl,RepD.shut (by omega) (by omega) (by omega) (by decide) ?_,?_,?_,hf.map _⟩
 ·refine hr.shown (((Shown.below h4).trans (Shown.five W4 (S:=Lo W2.heap.size) hlt _ _ _ _ _)).trans (Shown.less _ fun q _ hq=>?_)) (by rw[zan];exact hs4)
  unfold Lo at hq ⊢;omega
 ·exact (zam _ _ _ _ _ _ _ (Ne.symm hne)).trans (BoxL.keep hB h4)
 ·exact zbc ((hT.next hT2).next (Turned.of_below h4)) (zag _ _ _ _ _ _ _ _ qzL)
theorem zjy (n:Nat) (H:RSeqOk n) (b:Nat) (s:ByteArray) (a:Nat) (t0:List UInt8) (w:World) (dp:Int) (hn:t0.length<=n) (hp:RB w b s a (-1)) (hat0:Rd.At s a (35::t0)) (hs:s.size<=65536) :
  Calls prog 68 #[.pointer (some ⟨b,0,none⟩),.int .i64 dp] w (RUni b s (Rd.hashF Rd.S t0) w):=by
 have hat:=hat0.cons
 have hal:a<s.size:=by have:=hat0.1;simp only[qzN] at this;omega
 have hpos:=hat.pos
 have HP0:=zh hp
 have hb:=hp.lt
 have HADD:=zh (show ((a:Int)+1)=((a+1:Nat):Int) from by omega)
 clear hp hat0
 obtain ⟨W0,hW0⟩:∃W0,w.alloc (.cells #[.int .i64 0,.int .i64 0,.int .i64 0,.string ⟨#[]⟩,.slice none 0 0] 26)=W0:=⟨_,rfl⟩
 have HW0:=zh hW0
 have HB5:=zh (show Box5 W0 w.heap.size 26 (.int .i64 0) (.int .i64 0) (.int .i64 0) (.string ⟨#[]⟩) (.slice none 0 0) from by rw[<-hW0];exact Box5.new w _ _ _ _ _ _)
 have HP1:=zh (show RB W0 b s a (-1) from by rw[<-hW0];exact BoxL.alloc HP0.out _)
 have HT0:=zh (show Turned (fun c=>c=b) w W0 from by rw[<-hW0];exact Turned.of_below (Below.one _ _))
 have c1:=HP1.out.cell 1 rfl
 have y1:=HP1.out.free 1
 have hl1:=HP1.out.lt
 clear hW0
 go_enter func68,ntmps68
 go_upto_region 1 with fail
 rw[HW0.out]
 go_upto_region 2 with fail
 rw[HADD.out]
 have hP2:RB (W0.setCell ⟨b,1,none⟩ (.int .i64 ((a+1:Nat):Int))) b s (a+1) (-1):=RB.at HP1.out _
 have hT2:Turned (fun c=>c=b) W0 (W0.setCell ⟨b,1,none⟩ (.int .i64 ((a+1:Nat):Int))):=Turned.set _ _ _ rfl
 generalize W0.setCell ⟨b,1,none⟩ (.int .i64 ((a+1:Nat):Int))=W1 at hP2 hT2 ⊢
 have HP2:=zh hP2
 have HT1:=zh (HT0.out.next hT2)
 have hne:w.heap.size≠b:=by omega
 have HB6:=zh (show Box5 W1 w.heap.size 26 (.int .i64 0) (.int .i64 0) (.int .i64 0) (.string ⟨#[]⟩) (.slice none 0 0) from (hT2.block _ HB5.out.lt hne).trans HB5.out)
 have d0:=hP2.cell 0 rfl
 have d1:=hP2.cell 1 rfl
 have d2:=hP2.free 1
 have e1:=hP2.lt
 clear hP2 hT2 c1 y1 hl1
 cases t0 with
 | nil=>
  have ha1:a+1=s.size:=by simpa using hpos
  have heq:((a:Int)+1==(s.size:Int))=true:=by simp;omega
  have HE:=zh ha1
  clear hat hpos ha1
  go_quiet (fail)
  go_wp2_with (first | (go_at_call 36;refine (zdA _ HP2.out HB6.out hne _).mono ?_;rintro e' w3 ⟨rfl,hrb,ht3,hbx3⟩;have HRB:=zh hrb;have HT3:=zh ht3;obtain ⟨q0,q1,q2,q3,q4⟩:=hbx3.cells;obtain ⟨z0,z2,z3,z4,z5⟩:=hbx3.free;have hgl:=hbx3.lt;have HBX3:=zh hbx3;clear hrb ht3 hbx3))
  have HR5:=zh (HBX3.out.set (.int .i64 4) (.int .i64 0) (.int .i64 0) (.string ⟨#[]⟩) (.slice none 0 0))
  obtain ⟨r0,r1,r2,r3,r4⟩:=HR5.out.cells
  refine bodyPost_ret (v:=.agg #[.int .i64 4,.int .i64 0,.int .i64 0,.string ⟨#[]⟩,.slice none 0 0]) (by simp[results,results68,go_sem,r0,r1,r2,r3,r4]) rfl ?_
  exact (zb0 (q:=[]) (HT1.out.next HT3.out) (by have:=HRB.out;rw[if_pos (by decide)] at this;rw[show ((s.size-([]:List UInt8).length:Nat):Int)=(a:Int)+1 from by rw[<-HE.out];simp];exact this) hne).uni
 | cons c t=>
  obtain ⟨hlt,hget⟩:=hat.get
  have heq:((a:Int)+1==(s.size:Int))=false:=by simp;omega
  have q1:((c.toNat:Int)==116)=decide (c=116):=u8_eq c 116
  have q2:((c.toNat:Int)==102)=decide (c=102):=u8_eq c 102
  have q3:((c.toNat:Int)==118)=decide (c=118):=u8_eq c 118
  have q4:((c.toNat:Int)==40)=decide (c=40):=u8_eq c 40
  simp only[qzN] at hpos hn
  have hal2:a+2<=s.size:=by have:=hat.1;simp only[qzN] at this;omega
  have HPT:=zh (show a+2=s.size-t.length from by have:=hat.1;simp only[qzN] at this;omega)
  have HPS:=zh (show a+1=s.size-(c::t).length from hat.pos)
  have htl:t.length<n:=by omega
  have HAT:=zh hat.cons
  clear hat hpos
  go_quiet (fail)
  go_upto_region 4 with fail
  go_quiet (fail)
  go_upto_region 6 with fail
  rw[show ((a:Int)+1+1)=((a+2:Nat):Int) from by omega]
  rename_i n1 K1 ak1 K2 ak2
  have hP3:RB ((W1.drewN (n1+nq)).setCell ⟨b,1,none⟩ (.int .i64 ((a+2:Nat):Int))) b s (a+2) (-1):=RB.at (RB.drewN HP2.out _) _
  have hT3:Turned (fun c=>c=b) W1 ((W1.drewN (n1+nq)).setCell ⟨b,1,none⟩ (.int .i64 ((a+2:Nat):Int))):=(Turned.of_below (Below.selfN _ _)).next (Turned.set _ _ _ rfl)
  generalize (W1.drewN (n1+nq)).setCell ⟨b,1,none⟩ (.int .i64 ((a+2:Nat):Int))=W2 at hP3 hT3 ⊢
  have HP3:=zh hP3
  have HT3:=zh (HT1.out.next hT3)
  have HB7:=zh (show Box5 W2 w.heap.size 26 (.int .i64 0) (.int .i64 0) (.int .i64 0) (.string ⟨#[]⟩) (.slice none 0 0) from (hT3.block _ HB6.out.lt hne).trans HB6.out)
  have f1:=hP3.cell 1 rfl
  have fl:=hP3.lt
  obtain ⟨p0,p1,p2,p3,p4⟩:=HB7.out.cells
  obtain ⟨z0,z1,z2,z3,z4⟩:=HB7.out.free
  have pl:=HB7.out.lt
  clear hP3 hT3 d0 d1 d2 e1
  have hww:IntKind.i64.wrap ((a:Int)+2-1)=((a+1:Nat):Int):=by simp[IntKind.wrap,IntKind.bits,IntKind.signed];omega
  by_cases c1:c=116
  ·rw[decide_eq_true c1] at q1
   have HE:=zh (show Rd.hashF Rd.S (c::t)=.ok (.mk 1 1 0 ⟨#[]⟩ []) t from by subst c1;rfl)
   clear c1
   go_wp2_with fail
   have HR5:=zh (HB7.out.set (.int .i64 1) (.int .i64 1) (.int .i64 0) (.string ⟨#[]⟩) (.slice none 0 0))
   obtain ⟨r0,r1,r2,r3,r4⟩:=HR5.out.cells
   refine bodyPost_ret (v:=.agg #[.int .i64 1,.int .i64 1,.int .i64 0,.string ⟨#[]⟩,.slice none 0 0]) (by simp[results,results68,go_sem,r0,r1,r2,r3,r4]) rfl ?_
   rw[HE.out]
   exact (zbR 1 1 0 ⟨#[]⟩ HT3.out (Below.self W2) (by rw[<-HPT.out];exact HP3.out) hne (by omega) (by omega) (by omega) (by decide)).uni
  rw[decide_eq_false c1] at q1
  by_cases c2:c=102
  ·rw[decide_eq_true c2] at q2
   have HE:=zh (show Rd.hashF Rd.S (c::t)=.ok (.mk 1 0 0 ⟨#[]⟩ []) t from by subst c2;rfl)
   clear c1 c2
   go_wp2_with fail
   have HR5:=zh (HB7.out.set (.int .i64 1) (.int .i64 0) (.int .i64 0) (.string ⟨#[]⟩) (.slice none 0 0))
   obtain ⟨r0,r1,r2,r3,r4⟩:=HR5.out.cells
   refine bodyPost_ret (v:=.agg #[.int .i64 1,.int .i64 0,.int .i64 0,.string ⟨#[]⟩,.slice none 0 0]) (by simp[results,results68,go_sem,r0,r1,r2,r3,r4]) rfl ?_
   rw[HE.out]
   exact (zbR 1 0 0 ⟨#[]⟩ HT3.out (Below.self W2) (by rw[<-HPT.out];exact HP3.out) hne (by omega) (by omega) (by omega) (by decide)).uni
  rw[decide_eq_false c2] at q2
  by_cases c3:c=118
  ·rw[decide_eq_true c3] at q3
   have HE:=zh (show Rd.hashF Rd.S (c::t)=.ok (.mk 5 0 0 ⟨#[]⟩ []) t from by subst c3;rfl)
   clear c1 c2 c3
   go_wp2_with fail
   have HR5:=zh (HB7.out.set (.int .i64 5) (.int .i64 0) (.int .i64 0) (.string ⟨#[]⟩) (.slice none 0 0))
   obtain ⟨r0,r1,r2,r3,r4⟩:=HR5.out.cells
   refine bodyPost_ret (v:=.agg #[.int .i64 5,.int .i64 0,.int .i64 0,.string ⟨#[]⟩,.slice none 0 0]) (by simp[results,results68,go_sem,r0,r1,r2,r3,r4]) rfl ?_
   rw[HE.out]
   exact (zbR 5 0 0 ⟨#[]⟩ HT3.out (Below.self W2) (by rw[<-HPT.out];exact HP3.out) hne (by omega) (by omega) (by omega) (by decide)).uni
  rw[decide_eq_false c3] at q3
  by_cases c4:c=40
  ·rw[decide_eq_true c4] at q4
   have HE:=zh (show Rd.hashF Rd.S (c::t)=(Rd.S false false t).map (fun p=>.mk 7 0 0 ⟨#[]⟩ p.1) from by subst c4;rfl)
   have HCL:=zh (H b s (a+2) t W2 false dp htl HP3.out HAT.out hs)
   clear c1 c2 c3 c4
   go_upto_region 15 with (first | (go_at_call 69;refine HCL.out.mono ?_;rintro e' w2 ⟨l0,y,o3,len3,cap3,k9,n9,d9,s9,o9,len9,cap9,a9,m9,rfl,hrs,ji,hrb,ht2,hf⟩))
   have hb4:Box5 (w2.alloc (.cells #[.int .i64 k9,.int .i64 n9,.int .i64 d9,.string s9,.slice o9 len9 cap9] 26)) w.heap.size 26 (.int .i64 0) (.int .i64 0) (.int .i64 0) (.string ⟨#[]⟩) (.slice none 0 0):=Box5.alloc (show Box5 w2 w.heap.size 26 (.int .i64 0) (.int .i64 0) (.int .i64 0) (.string ⟨#[]⟩) (.slice none 0 0) from (ht2.block _ HB7.out.lt hne).trans HB7.out) _
   have h4:Below w2.heap.size w2 (w2.alloc (.cells #[.int .i64 k9,.int .i64 n9,.int .i64 d9,.string s9,.slice o9 len9 cap9] 26)):=Below.one _ _
   generalize w2.alloc (.cells #[.int .i64 k9,.int .i64 n9,.int .i64 d9,.string s9,.slice o9 len9 cap9] 26)=W4 at hb4 h4 ⊢
   clear p0 p1 p2 p3 p4 z0 z1 z2 z3 z4 pl f1 fl
   obtain ⟨p0,p1,p2,p3,p4⟩:=hb4.cells
   obtain ⟨z0,z1,z2,z3,z4⟩:=hb4.free
   have pl:=hb4.lt
   have HB8:=zh hb4
   have H4:=zh h4
   have HRS:=zh hrs
   have HRB:=zh hrb
   have HT2:=zh ht2
   have HF:=zh hf
   have HLT:=zh HB7.out.lt
   clear hb4 h4 hrs hrb ht2 hf ji
   go_wp2_with fail
   have HR5:=zh (HB8.out.set (.int .i64 7) (.int .i64 0) (.int .i64 0) (.string ⟨#[]⟩) (.slice o3 len3 cap3))
   obtain ⟨r0,r1,r2,r3,r4⟩:=HR5.out.cells
   refine bodyPost_ret (v:=.agg #[.int .i64 7,.int .i64 0,.int .i64 0,.string ⟨#[]⟩,.slice o3 len3 cap3]) (by simp[results,results68,go_sem,r0,r1,r2,r3,r4]) rfl ?_
   rw[HE.out]
   exact zkr rfl hne HLT.out HT3.out HRS.out HRB.out HT2.out HF.out H4.out
  ·rw[decide_eq_false c4] at q4
   have HE:=zh (show Rd.hashF Rd.S (c::t)=.bad (c::t) from by simp only[Rd.hashF];rw[if_neg c1,if_neg c2,if_neg c3,if_neg c4])
   clear c1 c2 c3 c4
   have HCF:∀p:Int,Calls prog 36 #[.pointer (some ⟨b,0,none⟩),.int .i64 p] W2 fun e w'=>e=.returned (.agg #[.int .i64 4,.int .i64 0,.int .i64 0,.string ⟨#[]⟩,.slice none 0 0])∧RB w' b s (a+2) p∧Turned (fun c=>c=b) W2 w'∧Box5 w' w.heap.size 26 (.int .i64 0) (.int .i64 0) (.int .i64 0) (.string ⟨#[]⟩) (.slice none 0 0):=fun p=>zdA 0 HP3.out HB7.out hne p
   have HCF:=zh HCF
   go_wp2_with (first | (go_at_call 36;refine (HCF.out _).mono ?_;rintro e' w3 ⟨rfl,hrb,ht3,hbx3⟩;have HRB:=zh hrb;have HT4:=zh ht3;clear p0 p1 p2 p3 p4 z0 z1 z2 z3 z4 pl;obtain ⟨p0,p1,p2,p3,p4⟩:=hbx3.cells;obtain ⟨z0,z1,z2,z3,z4⟩:=hbx3.free;have pl:=hbx3.lt;have HBX3:=zh hbx3;clear hrb ht3 hbx3))
   have HR5:=zh (HBX3.out.set (.int .i64 4) (.int .i64 0) (.int .i64 0) (.string ⟨#[]⟩) (.slice none 0 0))
   obtain ⟨r0,r1,r2,r3,r4⟩:=HR5.out.cells
   refine bodyPost_ret (v:=.agg #[.int .i64 4,.int .i64 0,.int .i64 0,.string ⟨#[]⟩,.slice none 0 0]) (by simp[results,results68,go_sem,r0,r1,r2,r3,r4]) rfl ?_
   rw[HE.out]
   exact (zb0 (q:=c::t) (HT3.out.next HT4.out) (by rw[<-HPS.out];exact HRB.out) hne).uni
end
end Go.Proofs.YtnbjhmafnigefaaGreatDoor
