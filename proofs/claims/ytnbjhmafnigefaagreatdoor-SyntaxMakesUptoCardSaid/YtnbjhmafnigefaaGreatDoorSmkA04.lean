/- .. -/
import Derived.Laws.EntriesVeiled
import Derived.Lib.FrozenHead
import Derived.Lib.FrozenHead2
import Derived.Lib.OthersKept
import Derived.Laws.Externs
import Derived.Deep.Cut
import Derived.Deep.CutRange
import Derived.Test.YtnbjhmafnigefaaGreatDoorSmkA03
open Go.Proofs.Tryz
set_option maxRecDepth 100000
set_option maxHeartbeats 16000000
namespace Go.Proofs.YtnbjhmafnigefaaGreatDoor
section
open Go.RowKit
theorem zfM {p:Dat→Bool} {l:List Dat} {j:Nat} {x:Dat} (hx:l[j]?=some x) (h:(l.take j).any p=false) (hp:p x=false):(l.take (j+1)).any p=false:=by
 rw[List.take_add_one,hx]
 simp[h,hp]
theorem zlD {p:Dat→Bool} {l:List Dat} {j:Nat} {x:Dat} (hx:l[j]?=some x) (hp:p x=true):l.any p=true:=
 List.any_eq_true.2 ⟨x,List.mem_of_getElem? hx,hp⟩
def IdxPost (b:Bool) (w:World) (e:Ending) (w':World):Prop:=∃r:Int,e=.returned (.int .i64 r)∧decide (0≤r)=b∧Below w.heap.size w w'
theorem zfp (F:FuncId) (caps:Array Value) (p:Dat→Bool) (l:List Dat) (o:Option Addr) (len cap:Nat) (B:Nat) (w:World) (hl:len=l.length) (hcap:len≤cap) (hmax:cap≤9223372036854775807)
  (hv:match o with | none=>l=[]∧cap=0 | some a=>(l≠[]→a.spot=none∧a.block<B)∧RepC w B l a.block a.off) (hB:B≤w.heap.size)
  (hF:∀(args:Array Value) (w:World),(callFunc F args).run prog w=.ok (.enter F args) w)
  (H:∀x∈l,∀v w',RepD w' B x v→Below w.heap.size w w'→Calls prog F (#[v]++caps) w' fun e w''=>e=.returned (.bool (p x))∧Below w'.heap.size w' w'') :
  Calls prog 43 #[.slice o len cap,.func (.func F) #[] caps] w (IdxPost (l.any p) w):=by
 obtain ⟨r,hr⟩:∃r,l.any p=r:=⟨_,rfl⟩
 rw[hr]
 have HR:=zh hr
 have HV:=zh hv
 have HL:=zh hl
 have HH:=zh H
 clear hr hv hl H
 go_enter func43,ntmps43
 go_wp2
 go_loopw [8] (fun i wr=>∃(j:Nat),i=.int .i64 j∧j≤len∧(l.take j).any p=false∧Below w.heap.size w wr) (fun i _=>len-(intOf i).toNat)
 case atStart=>exact ⟨0,rfl,by omega,rfl,Below.refl _ _⟩
 case round=>
  obtain ⟨j,rfl,hj,hany,hb⟩:=hrel
  have HA:=zh hany
  clear hany
  by_cases hjl:j<len
  ·obtain ⟨x,hx⟩:∃x,l[j]?=some x:=⟨_,List.getElem?_eq_getElem (by rw[←HL.out];exact hjl)⟩
   obtain ⟨b,off,k',n',d',s',l',o',len',cap',ho,hxe,e0,e1,e2,e3,e4,er⟩:=zay HV.out (hb.mono hB) hx
   subst ho hxe
   have HC:=zh (HH.out _ (List.mem_of_getElem? hx) _ wr er hb)
   have HX:=zh hx
   clear hx er
   cases hp:p (.mk k' n' d' s' l') with
   | true=>
    rw[hp] at HC
    have HT:=zh (zlD HX.out hp)
    clear hp
    go_wp2_with (first | ((with_reducible refine HC.out.mono ?_);rintro e' w1 ⟨rfl,hb1⟩))
    go_ret
    exact ⟨j,rfl,by rw[←HR.out,HT.out];simp,Below.next hb hb1⟩
   | false=>
    rw[hp] at HC
    have HT:=zh (zfM HX.out HA.out hp)
    clear hp
    go_wp2_with (first | ((with_reducible refine HC.out.mono ?_);rintro e' w1 ⟨rfl,hb1⟩))
    go_roundw
    case rel=>exact ⟨j+1,by go_num,by omega,HT.out,Below.next hb hb1⟩
    case measure=>simp[intOf];omega
  ·have HF:=zh (show l.any p=false by rw[←HA.out,List.take_of_length_le (by rw[←HL.out];omega)])
   go_wp2
   go_ret
   exact ⟨-1,rfl,by rw[←HR.out,HF.out];rfl,hb⟩
theorem zdD (F:FuncId) (caps:Array Value) (p:Dat→Bool) (r:Bool) (l:List Dat) (o:Option Addr) (len cap:Nat) (B:Nat) (w:World) (hl:len=l.length) (hcap:len≤cap) (hmax:cap≤9223372036854775807)
  (hv:match o with | none=>l=[]∧cap=0 | some a=>(l≠[]→a.spot=none∧a.block<B)∧RepC w B l a.block a.off) (hB:B≤w.heap.size)
  (hF:∀(args:Array Value) (w:World),(callFunc F args).run prog w=.ok (.enter F args) w)
  (H:∀x∈l,∀v w',RepD w' B x v→Below w.heap.size w w'→Calls prog F (#[v]++caps) w' fun e w''=>e=.returned (.bool (p x))∧Below w'.heap.size w' w'') (hr:l.any p=r) :
  Calls prog 24 #[.slice o len cap,.func (.func F) #[] caps] w fun e w'=>e=.returned (.bool r)∧Below w.heap.size w w':=by
 have HI:=zh (zfp F caps p l o len cap B w hl hcap hmax hv hB hF H)
 rw[hr] at HI
 clear hr hv hl H hF
 go_enter func24,ntmps24
 go_wp2_with (first | (go_at_call 43;refine HI.out.mono ?_;rintro e' w1 ⟨q,rfl,hq,hb⟩))
 subst hq
 go_ret
 exact ⟨by simp,hb⟩
theorem zbd (F:FuncId) (caps:Array Value) (p:Dat→Bool) (r:Bool) (l:List Dat) (sl:Value) (B:Nat) (w:World) (hv:RepS w B l sl) (hB:B≤w.heap.size)
  (hF:∀(args:Array Value) (w:World),(callFunc F args).run prog w=.ok (.enter F args) w)
  (H:∀x∈l,∀v w',RepD w' B x v→Below w.heap.size w w'→Calls prog F (#[v]++caps) w' fun e w''=>e=.returned (.bool (p x))∧Below w'.heap.size w' w'') (hr:l.any p=r) :
  Calls prog 24 #[sl,.func (.func F) #[] caps] w fun e w'=>e=.returned (.bool r)∧Below w.heap.size w w':=by
 obtain ⟨o,len,cap,rfl,hl,hcap,hmax,hv⟩:=hv
 exact zdD F caps p r l o len cap B w hl hcap hmax hv hB hF H hr
end
section
open Go.RowKit
theorem zd1 (w:World) (A:Obj):(w.alloc A).heap.size=w.heap.size+1:=by simp
theorem zj5 (w:World) (A:Obj) (cs:Array Value) (t:TypeId) (i:Nat) {v:Value} (h:cs[i]?=some v):((w.alloc A).alloc (.cells cs t)).cell? ⟨w.heap.size+1,i,none⟩=some v:=by
 have:=zbK (w.alloc A) cs t i h
 rw[zd1] at this
 exact this
end
section
open Go.RowKit
theorem zk5 (k n d:Int) (s:ByteArray) (o:Option Addr) (len cap:Nat) (hn:-9223372036854775808≤n∧n≤9223372036854775807) (hd:-9223372036854775808≤d∧d≤9223372036854775807) (hs:s.size≤140737488351232) :
  ∃(k' n' d':Int) (s':ByteArray) (o':Option Addr) (len' cap':Nat) (b:Bool),(∀w,Calls prog 45 #[.agg #[.int .i64 k,.int .i64 n,.int .i64 d,.string s,.slice o len cap]] w fun e w'=>e=.returned (.tuple #[.agg #[.int .i64 k',.int .i64 n',.int .i64 d',.string s',.slice o' len' cap'],.bool b])∧Below w.heap.size w w') ∧
   Dat.head k n d s.data.toList len=(b&&(decide (n'=n)&&(decide (d'=d)&&(decide (s'=s)&&decide (len'=len))))):=by
 have hz:∀m:Int,decide (0=m)=decide (m=0):=fun m=>by rw[Bool.eq_iff_iff];simp only[decide_eq_true_eq];exact eq_comm
 have hzl:∀m:Nat,decide (0=m)=decide (m=0):=fun m=>by rw[Bool.eq_iff_iff];simp only[decide_eq_true_eq];exact eq_comm
 have he:decide ((⟨#[]⟩:ByteArray)=s)=s.data.toList.isEmpty:=by
  rw[Bool.eq_iff_iff]
  simp only[decide_eq_true_eq,List.isEmpty_iff]
  constructor
  ·rintro rfl;rfl
  ·intro h;apply ByteArray.ext;apply Array.ext';rw[h]
 by_cases k0:k=0
 ·subst k0
  exact ⟨_,_,_,_,_,_,_,_,fun w=>zms n d s o len cap hn.1 hn.2 hd.1 hd.2 w,by rw[Dat.head,if_pos rfl,he,hzl];simp⟩
 by_cases k1:k=1
 ·subst k1
  have hh:Dat.head 1 n d s.data.toList len=(decide (n=0∨n=1)&&(decide (n=n)&&(decide (0=d)&&(decide ((⟨#[]⟩:ByteArray)=s)&&decide (0=len))))):=by
   rw[Dat.head,if_neg (by omega),if_pos rfl,he,hzl,hz];simp only[decide_true,Bool.true_and];rw[←Bool.and_assoc,Bool.and_comm (decide (d=0)),Bool.and_assoc]
  by_cases n0:n=0
  ·exact ⟨_,_,_,_,_,_,_,_,fun w=>zl7 n d s o len cap (by simp[n0]) w,by rw[hh,decide_eq_true (Or.inl n0)]⟩
  by_cases n1:n=1
  ·exact ⟨_,_,_,_,_,_,_,_,fun w=>zmd n d s o len cap (by simp[n0]) (by simp[n1]) w,by rw[hh,decide_eq_true (Or.inr n1)]⟩
  ·exact ⟨_,_,_,_,_,_,_,_,fun w=>zl9 n d s o len cap (by simp[n0]) (by simp[n1]) w,by rw[hh,decide_eq_false (by omega:¬(n=0∨n=1))]⟩
 have flip:∀a b c e:Bool,(a&&(b&&(c&&e)))=(c&&(b&&(a&&(true&&e)))):=by decide
 by_cases k2:k=2
 ·subst k2
  exact ⟨_,_,_,_,_,_,_,_,fun w=>zmp n d s o len cap hs w,by rw[Dat.head,if_neg (by omega),if_neg (by omega),if_pos rfl,hz,hz,hzl,decide_eq_true (rfl:s=s)];exact flip _ _ _ _⟩
 by_cases k3:k=3
 ·subst k3
  exact ⟨_,_,_,_,_,_,_,_,fun w=>zmh n d s o len cap hs w,by rw[Dat.head,if_neg (by omega),if_neg (by omega),if_neg (by omega),if_pos rfl,hz,hz,hzl,decide_eq_true (rfl:s=s)];exact flip _ _ _ _⟩
 have flip2:∀a b c e:Bool,(a&&(b&&(c&&e)))=(true&&(b&&(a&&(c&&e)))):=by decide
 by_cases k4:k=4
 ·subst k4
  exact ⟨_,_,_,_,_,_,_,_,fun w=>zmk n d s o len cap w,by rw[Dat.head,if_neg (by omega),if_neg (by omega),if_neg (by omega),if_neg (by omega),if_pos (by omega),hz,hz,hzl,he];exact flip2 _ _ _ _⟩
 by_cases k5:k=5
 ·subst k5
  exact ⟨_,_,_,_,_,_,_,_,fun w=>zmo n d s o len cap w,by rw[Dat.head,if_neg (by omega),if_neg (by omega),if_neg (by omega),if_neg (by omega),if_pos (by omega),hz,hz,hzl,he];exact flip2 _ _ _ _⟩
 have flip3:∀a b c e:Bool,(a&&(b&&(c&&e)))=(e&&(b&&(a&&(c&&true)))):=by decide
 by_cases k6:k=6
 ·subst k6
  have hh:Dat.head 6 n d s.data.toList len=(decide (len=2)&&(decide (0=n)&&(decide (0=d)&&(decide ((⟨#[]⟩:ByteArray)=s)&&decide (len=len))))):=by
   rw[Dat.head,if_neg (by omega),if_neg (by omega),if_neg (by omega),if_neg (by omega),if_neg (by omega),if_pos rfl,hz,hz,he,decide_eq_true (rfl:len=len)];exact flip3 _ _ _ _
  by_cases l2:len=2
  ·subst l2
   exact ⟨_,_,_,_,_,_,_,_,fun w=>zlT n d s o cap w,by rw[hh];rfl⟩
  ·exact ⟨_,_,_,_,_,_,_,_,fun w=>zl5 n d s o len cap (by simp;omega) w,by rw[hh,decide_eq_false l2]⟩
 have flip4:∀a b c:Bool,(a&&(b&&c))=(true&&(b&&(a&&(c&&true)))):=by decide
 by_cases k7:k=7
 ·subst k7
  exact ⟨_,_,_,_,_,_,_,_,fun w=>zmi n d s o len cap w,by rw[Dat.head,if_neg (by omega),if_neg (by omega),if_neg (by omega),if_neg (by omega),if_neg (by omega),if_neg (by omega),if_pos rfl,hz,hz,he,decide_eq_true (rfl:len=len)];exact flip4 _ _ _⟩
 ·exact ⟨_,_,_,_,_,_,_,_,fun w=>zmr k n d s o len cap (by omega) w,by rw[Dat.head,if_neg k0,if_neg k1,if_neg k2,if_neg k3,if_neg (by omega),if_neg k6,if_neg k7];rfl⟩
theorem ziP (l:List Dat) (deep:Nat):Dat.rightL l deep = !(l.any fun x=>!Dat.right x deep):=by
 induction l with
 | nil=>rfl
 | cons x l ih=>rw[Dat.rightL,ih,List.any_cons];cases Dat.right x deep<;>simp
theorem zg5 (_x:Dat) (v:Value) (deep c pb:Nat) (w:World) (r:Bool) (hfn:w.cell? ⟨c,0,none⟩=some (.func (.func 44) #[] #[.pointer (some ⟨c,0,none⟩)])) (hpb:w.cell? ⟨pb,0,none⟩=some (.int .i64 deep)) (hdeep:deep≤200) (hc:c<w.heap.size) (hp:pb<w.heap.size)
  (hv:∃(k n d:Int) (s:ByteArray) (o:Option Addr) (len cap:Nat),v=.agg #[.int .i64 k,.int .i64 n,.int .i64 d,.string s,.slice o len cap])
  (H:∀w',Below w.heap.size w w'→Calls prog 44 #[v,.int .i64 (deep+1:Nat),.pointer (some ⟨c,0,none⟩)] w' fun e w''=>e=.returned (.bool r)∧Below w'.heap.size w' w'') :
  Calls prog 46 #[v,.pointer (some ⟨c,0,none⟩),.pointer (some ⟨pb,0,none⟩)] w fun e w'=>e=.returned (.bool !r)∧Below w.heap.size w w':=by
 obtain ⟨k,n,d,s,o,len,cap,rfl⟩:=hv
 have HW:∀X,Below w.heap.size w (w.alloc X):=fun X=>(Below.refl _ _).alloc (Nat.le_refl _) _
 have HWH:=zh HW
 have HH:=zh H
 have hcn:¬c=w.heap.size:=by omega
 have hpn:¬pb=w.heap.size:=by omega
 clear HW H
 go_enter func46,ntmps46
 go_wp2_with (first | (go_at_call 44;refine (HH.out _ (HWH.out _)).mono ?_;rintro e' w1 ⟨rfl,hb⟩))
 go_ret
 exact ⟨rfl,(HWH.out _).trans (hb.mono (by simp))⟩
end
section
open Go.RowKit
theorem zgQ (l:List Dat) (deep c pb B:Nat) (sl:Value) (W:World) (r:Bool) (hr:Dat.rightL l (deep+1)=r) (hv:RepS W B l sl) (hB:B≤W.heap.size) (hc:c<W.heap.size) (hp:pb<W.heap.size) (hfn:W.cell? ⟨c,0,none⟩=some (.func (.func 44) #[] #[.pointer (some ⟨c,0,none⟩)])) (hpb:W.cell? ⟨pb,0,none⟩=some (.int .i64 deep)) (hdeep:deep≤200)
  (IH:∀x∈l,∀(v:Value) (deep c:Nat) (di:Int) (B:Nat) (w:World),di=deep→RepD w B x v→B≤w.heap.size→c<w.heap.size→w.cell? ⟨c,0,none⟩=some (.func (.func 44) #[] #[.pointer (some ⟨c,0,none⟩)])→deep≤201 →
   Calls prog 44 #[v,.int .i64 di,.pointer (some ⟨c,0,none⟩)] w fun e w'=>e=.returned (.bool (Dat.right x deep))∧Below w.heap.size w w') :
  Calls prog 24 #[sl,.func (.func 46) #[] #[.pointer (some ⟨c,0,none⟩),.pointer (some ⟨pb,0,none⟩)]] W fun e w'=>e=.returned (.bool !r)∧Below W.heap.size W w':=by
 refine zbd 46 #[.pointer (some ⟨c,0,none⟩),.pointer (some ⟨pb,0,none⟩)] (fun x=>!Dat.right x (deep+1)) (!r) l sl B W hv hB (fun _ _=>by kernel_rfl) ?_ (by rw[←hr,ziP,Bool.not_not])
 intro x hx v w' hxv hb
 have hs:=hb.size
 refine zg5 x v deep c pb w' (Dat.right x (deep+1)) ((hb.cell (p:=⟨c,0,none⟩) hc).trans hfn) ((hb.cell (p:=⟨pb,0,none⟩) hp).trans hpb) hdeep (by omega) (by omega) (zae hxv) ?_
 intro w'' hb2
 have hs2:=hb2.size
 exact IH x hx v (deep+1) c _ B w'' rfl (hxv.kept (hb2.mono (by omega))) (by omega) (by omega) ((hb2.cell (p:=⟨c,0,none⟩) (by show c<_;omega)).trans ((hb.cell (p:=⟨c,0,none⟩) hc).trans hfn)) (by omega)
theorem zkZ {deep:Nat} {n n' d d':Int} {s s':ByteArray} {len len':Nat} {b q r:Bool} (h:(decide (deep≤200)&&((b&&(decide (n'=n)&&(decide (d'=d)&&(decide (s'=s)&&decide (len'=len)))))&&q))=r)
  (hno:¬b=true∨200<(deep:Int)∨¬n'=n∨¬d'=d∨¬s'.toList=s.toList∨((len':Int) != (len:Int))=true):false=r:=by
 rw[←h]
 by_cases h1:deep≤200∧b=true∧n'=n∧d'=d∧s'=s∧len'=len
 ·obtain ⟨a,rfl,rfl,rfl,rfl,rfl⟩:=h1
  rcases hno with h | h | h | h | h | h
  ·exact absurd rfl h
  ·omega
  ·exact absurd rfl h
  ·exact absurd rfl h
  ·exact absurd rfl h
  ·simp at h
 ·symm
  rw[Bool.and_eq_false_iff]
  apply Decidable.byContradiction
  intro h2
  apply h1
  simp only[not_or,Bool.not_eq_false,Bool.and_eq_true,decide_eq_true_eq] at h2
  obtain ⟨a,⟨b,c,d,e,f⟩,_⟩:=h2
  exact ⟨a,b,c,d,e,f⟩
theorem zjU {deep:Nat} {n n' d d':Int} {s s':ByteArray} {len len':Nat} {b q r:Bool} (h:(decide (deep≤200)&&((b&&(decide (n'=n)&&(decide (d'=d)&&(decide (s'=s)&&decide (len'=len)))))&&q))=r)
  (h0:b=true) (h1:(deep:Int)≤200) (h2:n'=n) (h3:d'=d) (h4:s'.toList=s.toList) (h5:((len':Int) != (len:Int))=false):q=r:=by
 have e:s'=s:=by
  apply ByteArray.ext;apply Array.ext'
  rw[←ByteArray.toList_eq,←ByteArray.toList_eq];exact h4
 have e2:len'=len:=by have:=h5;simp at this;omega
 rw[←h,decide_eq_true (by omega:deep≤200),h0,decide_eq_true h2,decide_eq_true h3,decide_eq_true e,decide_eq_true e2];rfl
theorem ziX:∀(x:Dat) (v:Value) (deep c:Nat) (di:Int) (B:Nat) (w:World),di=deep→RepD w B x v→B≤w.heap.size→c<w.heap.size→w.cell? ⟨c,0,none⟩=some (.func (.func 44) #[] #[.pointer (some ⟨c,0,none⟩)])→deep≤201 →
    Calls prog 44 #[v,.int .i64 di,.pointer (some ⟨c,0,none⟩)] w fun e w'=>e=.returned (.bool (Dat.right x deep))∧Below w.heap.size w w':=by
  intro x
  induction x using Dat.ind with
  | h k n d s l ih=>
    intro v deep c di B w hdi hv hB hc hfn hdeep
    subst hdi
    obtain ⟨sl,rfl,bk,bn,bd,bs,o,len,cap,rfl,hlen,hcap,hmax,hc0⟩:=hv.open
    obtain ⟨k',n',d',s',o',len',cap',b,hbare,hhead⟩:=zk5 k n d s o len cap bn bd bs
    obtain ⟨r,hr⟩:∃r,Dat.right (.mk k n d s l) deep=r:=⟨_,rfl⟩
    rw[hr]
    rw[Dat.right,←hlen,hhead] at hr
    have IH:=zh ih
    have HV:=zh hc0
    have HL:=zh hlen
    have HB:=zh hbare
    have HR:=zh hr
    clear ih hv hc0 hlen hbare hhead hr
    have hcn:¬c=w.heap.size:=by omega
    go_enter func44,ntmps44
    go_wp2_with (first | (go_at_call 45;refine (HB.out _).mono ?_;rintro e' w1 ⟨rfl,hb⟩;have hz:=zif hb;have z0:w.heap.size<w1.heap.size:=(by omega);have z1:w.heap.size+1<w1.heap.size:=(by omega);have z2:c<w1.heap.size:=(by omega);obtain ⟨q0,q1,q2,q3,q4⟩:=zig hb;have q5:=zlh hb;have q6:=((zcd hb).cell (p:=⟨c,0,none⟩) hc).trans hfn;have HB1:=zh hb;clear hb))
    all_goals try
      (go_ret
       refine ⟨zan (zkZ HR.out ?_),(zcd HB1.out).alloc (by omega) _⟩
       first
       | exact .inl ‹_›
       | exact .inr (.inr (.inr (.inr (.inl ‹_›))))
       | exact .inr (.inr (.inr (.inl ‹_›)))
       | exact .inr (.inr (.inl ‹_›))
       | exact .inr (.inl ‹_›)
       | (rcases ‹200<(deep:Int)∨_› with h | h
          · exact .inr (.inl h)
          · exact .inr (.inr (.inr (.inr (.inr h))))))
    have HQ:=zh (zjU HR.out (by assumption) (by assumption) (by assumption) (by assumption) (by assumption) (‹_∧((len':Int) != (len:Int))=false›).2)
    have hd0:deep≤200:=by have:=‹(deep:Int)≤200›;omega
    have HS:RepS w B l (.slice o len cap):=⟨o,len,cap,rfl,HL.out,hcap,hmax,HV.out⟩
    have HS1:=zh HS
    clear HS
    have HK:=zh (zcd HB1.out)
    refine (zgQ l deep c (w.heap.size+1) B _ _ r HQ.out (HS1.out.kept ((HK.out.alloc (by omega) _).mono hB)) ?_ ?_ ?_ ?_ ?_ hd0 IH.out).mono ?_
    · simp;omega
    · simp;omega
    · simp;omega
    · rw[World.cell?_alloc_past _ _ _ z2];exact q6
    · rw[World.cell?_alloc_past _ _ _ z1];exact q5
    rintro e2 w2 ⟨rfl,hb2⟩
    go_wp2
    go_ret
    exact ⟨by simp,(HK.out.alloc (by omega) _).trans (hb2.mono (by simp;omega))⟩
theorem zbz (x:Dat) (v:Value) (B:Nat) (w:World) (hv:RepD w B x v) (hB:B≤w.heap.size) :
  Calls prog 26 #[v] w fun e w'=>e=.returned (.bool (Dat.right x 0))∧Below w.heap.size w w':=by
 obtain ⟨k,n,d,s,l⟩:=x
 obtain ⟨sl,rfl,_,_,_,_,o,len,cap,rfl,hx⟩:=hv.open
 clear hx
 have HV:=zh hv
 clear hv
 have HW:=zh (fun X Y=>((Below.refl w.heap.size w).alloc (Nat.le_refl _) X).alloc (by simp) Y)
 obtain ⟨y,hy⟩:∃y,Dat.right (.mk k n d s l) 0=y:=⟨_,rfl⟩
 rw[hy]
 have HY:=zh hy
 clear hy
 go_enter func26,ntmps26
 go_wp2_with fail
 refine (ziX (.mk k n d s l) _ 0 (w.heap.size+1) 0 B _ rfl (HV.out.kept ((HW.out _ _).mono hB)) ?_ ?_ (zj5 _ _ _ _ 0 rfl) (by omega)).mono ?_
 ·simp;omega
 ·simp
 rw[HY.out]
 rintro e' w1 ⟨rfl,hb1⟩
 go_wp2
 go_ret
 exact ⟨rfl,(HW.out _ _).trans (hb1.mono (by simp;omega))⟩
end
section
open Go.RowKit
theorem zdr:(prog.info? 60).map (·.size)=some 2:=by kernel_rfl
theorem zkn:(prog.info? 5).map (fun i=>(i.zero,i.size,i.bytes))=some (some (.int .u8 0),1,1):=by kernel_rfl
theorem zf3:liesAt prog prog.depth 60 (2 / prog.cellsOf 60) 0 60 1=true:=by kernel_rfl
theorem zkA (b:Nat) (w:World) (h0:w.cell? ⟨b,0,none⟩=some (.pointer (some ⟨b,0,none⟩))) :
  Calls prog 97 #[.pointer (some ⟨b,0,none⟩)] w fun e w'=>e=.returned (.tuple #[])∧w'=w:=by
 obtain ⟨j,hj,_⟩:=Option.map_eq_some_iff.1 zdr
 go_enter func97,ntmps97
 go_wp2
 rw[Lib.run_neq_ptr_same w _ underlying57 hj]
 go_wp2
 go_end0
 exact ⟨rfl,rfl⟩
theorem zi2 (b:Nat) (w:World) (h0:w.cell? ⟨b,0,none⟩=some (.pointer none)) (hsh:w.shape? b=some (60,2)) (hfz:w.frozen? ⟨b,0,none⟩=false) :
  Calls prog 97 #[.pointer (some ⟨b,0,none⟩)] w fun e w'=>e=.returned (.tuple #[])∧w'=w.setCell ⟨b,0,none⟩ (.pointer (some ⟨b,0,none⟩)):=by
 obtain ⟨j,hj,hjs⟩:=Option.map_eq_some_iff.1 zdr
 go_enter func97,ntmps97
 go_wp2
 rw[Lib.run_to_unsafe w ⟨b,0,none⟩ underlying57 underlying114 hj (by rw[hjs];decide) hsh (Nat.zero_lt_succ 1)]
 simp only[Result.andThen]
 rw[Oper.upon_value]
 go_wp2
 rw[run_callFunc_extern func126 (by kernel_rfl) (by kernel_rfl) (by kernel_rfl) (e:=Extern.AbiNoEscape.same) (by kernel_rfl)]
 rw[Lib.run_noEscape]
 simp only[Result.andThen]
 rw[Oper.upon_value]
 go_wp2
 rw[Lib.run_from_unsafe w ⟨b,0,none⟩ underlying114 underlying57 hj hsh zf3]
 simp only[Result.andThen]
 rw[Oper.upon_value]
 go_wp2
 go_end0
 exact ⟨rfl,rfl⟩
def IsB (B b:Nat) (l:List UInt8) (w:World):Prop:=Lib.IsBuilderF 60 5 B b (Lib.byteCells l) w
def BKeep (B b:Nat) (w w':World):Prop:=Below B w w'∧Lib.OthersKept 5 (some b) w w'
theorem BKeep.refl (B b:Nat) (w:World):BKeep B b w w:=⟨Below.refl _ _,Lib.OthersKept.refl _ _ _⟩
theorem BKeep.trans {B b:Nat} {w1 w2 w3:World} (h:BKeep B b w1 w2) (k:BKeep B b w2 w3):BKeep B b w1 w3:=⟨h.1.trans k.1,h.2.trans k.2⟩
theorem BKeep.of_below {B b:Nat} {w1 w2:World} (hB:B≤w1.heap.size) (h:Below w1.heap.size w1 w2):BKeep B b w1 w2:=
 ⟨h.mono hB,fun k _o hk _ _=>(h.block k (Array.getElem?_eq_some_iff.1 hk).1).trans hk⟩
theorem BKeep.size {B b:Nat} {w1 w2:World} (h:BKeep B b w1 w2):w1.heap.size≤w2.heap.size:=h.1.size
theorem zeI {w w':World} (h:Below w.heap.size w w'):w.grownBy w' none:=⟨h.os,h.tape,h.output,h.size,fun k hk _=>h.block k hk⟩
theorem zcW {B b:Nat} {p:Value} {bs:List Value} {w w':World} (h:Lib.BuilderAtF 60 5 B b p bs w) (hb:Below w.heap.size w w'):Lib.BuilderAtF 60 5 B b p bs w':=by
 have hlt:=h.lt
 obtain ⟨hB,v,hbk,hown,hne⟩:=h
 exact ⟨hB,v,(hb.block b hlt).trans hbk,hown.kept (zeI hb) (by cases hv:v.ownBlock<;>simp),hne⟩
theorem IsB.below {B b:Nat} {l:List UInt8} {w w':World} (h:IsB B b l w) (hb:Below w.heap.size w w'):IsB B b l w':=
 h.elim (fun x=>.inl (zcW x hb)) (fun x=>.inr (zcW x hb))
theorem IsB.lt {B b:Nat} {l:List UInt8} {w:World} (h:IsB B b l w):b<w.heap.size:=h.elim (fun x=>x.lt) (fun x=>x.lt)
theorem IsB.base {B b:Nat} {l:List UInt8} {w:World} (h:IsB B b l w):B≤b:=h.elim (fun x=>x.1) (fun x=>x.1)
theorem zlE (B b:Nat) (bs:List Value) (w:World) (h:Lib.IsBuilderF 60 5 B b bs w) :
  Calls prog 97 #[.pointer (some ⟨b,0,none⟩)] w fun e w'=>e=.returned (.tuple #[])∧(Lib.BuilderAtF 60 5 B b (.pointer (some ⟨b,0,none⟩)) bs w'∧BKeep B b w w'):=by
 rcases h with h | h
 ·refine (zi2 b w h.cell0 h.shape h.frozen0).mono ?_
  rintro e w' ⟨rfl,rfl⟩
  exact ⟨rfl,h.used _,(Below.refl B w).setCell (p:=⟨b,0,none⟩) h.1 _,(Lib.OthersKept.refl _ _ w).setCell ⟨b,0,none⟩ rfl _⟩
 ·refine (zkA b w h.cell0).mono ?_
  rintro e w' ⟨rfl,rfl⟩
  exact ⟨rfl,h,BKeep.refl _ _ _⟩
theorem zdA (l:List UInt8) (s:ByteArray):Lib.byteCells l++Lib.strCells s=Lib.byteCells (l++s.data.toList):=by
 unfold Lib.byteCells Lib.strCells
 simp
theorem zdF (l:List UInt8):(Lib.byteCells l).length=l.length:=by unfold Lib.byteCells;simp
theorem za7 (B b:Nat) (l:List UInt8) (s:ByteArray) (w:World) (h:IsB B b l w) (hlen:l.length+s.size≤140737488355328) (hBw:B≤w.heap.size) :
  Calls prog 70 #[.pointer (some ⟨b,0,none⟩),.string s] w fun e w'=>e=.returned (.tuple #[.int .i64 s.size,.nilIface])∧(IsB B b (l++s.data.toList) w'∧BKeep B b w w'):=by
 have hlen2:(Lib.byteCells l).length+s.size≤140737488355328:=by rw[zdF];exact hlen
 obtain ⟨i0,hi,hz0,hz1,hz2⟩:=info_parts zkn
 go_enter func70,ntmps70
 go_wp2_with (go_at_call 97;refine (zlE B b (Lib.byteCells l) _ h).mono ?_)
 rintro e w1 ⟨rfl,h1,hk1⟩
 obtain ⟨hB,v,hbk,hown,hne⟩:=h1
 have c0:w1.cell? ⟨b,0,none⟩=some (.pointer (some ⟨b,0,none⟩)):=by rw[Lib.cell_of_heap hbk];rfl
 have c1:w1.cell? ⟨b,1,none⟩=some v:=by rw[Lib.cell_of_heap hbk];rfl
 go_wp2_with (at_builtin;refine Lib.wpList_append_own_stringF _ rfl _ _ 58 9 rfl B 5 i0 underlying58 underlying9 hi hz0 hz1 hz2 _ _ _ rfl hown s rfl ?c3 ?c4 ?c5 ?_)
 case c3=>unfold maxLen;omega
 case c4=>omega
 case c5=>have:=hk1.size;omega
 intro v' w2 hown' hgrow _
 have hlt:b<w1.heap.size:=(Array.getElem?_eq_some_iff.1 hbk).1
 have hb2:w2.heap[b]?=some (.cells #[.pointer (some ⟨b,0,none⟩),v] 60 (0,0)):=by
  rw[hgrow.block b hlt (fun e=>hne e.symm)]
  exact hbk
 have d0:w2.cell? ⟨b,0,none⟩=some (.pointer (some ⟨b,0,none⟩)):=by rw[Lib.cell_of_heap hb2];rfl
 have d1:w2.cell? ⟨b,1,none⟩=some v:=by rw[Lib.cell_of_heap hb2];rfl
 have f1:w2.frozen? ⟨b,1,none⟩=false:=Lib.frozen_of_heap hb2 1
 obtain ⟨ao,n',cap,rfl⟩:∃ao n' cap,v'=.slice ao n' cap:=by
  rcases hown'.2 with ⟨hv,_⟩ | ⟨g,cap,cur,fz,hv,_⟩
  ·exact ⟨_,_,_,hv⟩
  ·exact ⟨_,_,_,hv⟩
 go_wp2
 go_ret2
 refine ⟨rfl,.inr ?_,?_⟩
 ·rw[←zdA]
  exact Lib.BuilderAtF.put (T:=60) (e:=5) hB hb2 (bs':=Lib.byteCells l++Lib.strCells s) (by simpa[Lib.strCells_length] using hown') (by decide)
 ·exact ⟨(hk1.1.grown hgrow (by have:=hk1.size;omega) (fun k hk=>(hown.lt k hk).1)).setCell (p:=⟨b,1,none⟩) hB _,(hk1.2.grown hgrow (Lib.ownsRowF_kind hown)).setCell ⟨b,1,none⟩ rfl _⟩
theorem zhv (B b:Nat) (l:List UInt8) (w:World) (h:IsB B b l w) (hBw:B≤w.heap.size) :
  Calls prog 39 #[.pointer (some ⟨b,0,none⟩)] w fun e w'=>e=.returned (.string ⟨l.toArray⟩)∧Below B w w':=
 (Tryz.Builder_String_any_f B b l w h hBw).mono fun _ _ h=>⟨h.1,h.2.2⟩
theorem BKeep.block {B b k:Nat} {w w':World} {cs:Array Value} {t:TypeId} {fz:Nat × Nat} (h:BKeep B b w w') (hk:w.heap[k]?=some (.cells cs t fz)) (hb:k≠b) (ht:t≠5):w'.heap[k]?=some (.cells cs t fz):=
 h.2 k _ hk (by simpa using hb) (fun c f e=>by cases e;exact ht rfl)
theorem IsB.fresh (w:World) (t:Value) (h:t=.pointer none):IsB w.heap.size w.heap.size [] (w.alloc (.cells #[t,.slice none 0 0] 60)):=by
 subst h;exact Lib.IsBuilderF.of (Lib.fresh_isBuilder _ _ w)
end
section
open Go.RowKit
def EnvAt (B:Nat) (w:World):Prop:=Env w∧1<B
theorem EnvAt.of {w:World} (h:Env w):EnvAt w.heap.size w:=by
 refine ⟨h,?_⟩
 have hg : prog.globalNamed "internal/strconv.uint64pow10" = some 1 := by kernel_rfl
 exact zjr hg h
theorem EnvAt.kept {B:Nat} {w w':World} (h:EnvAt B w) (hb:Below B w w'):EnvAt B w':=by
 refine ⟨?_,h.2⟩
 have h1:=h.1
 have hg : prog.globalNamed "internal/strconv.uint64pow10" = some 1 := by kernel_rfl
 unfold Env Lib.TabIs World.var? at h1 ⊢
 rw[hg] at h1 ⊢
 simp only[Option.bind_some] at h1 ⊢
 rw[hb.block _ h.2]
 exact h1
def WPost (B b:Nat) (l:List UInt8) (w:World) (e:Ending) (w':World):Prop:=e=.returned (.tuple #[])∧IsB B b l w'∧BKeep B b w w'
theorem Box5.bkeep {B b k:Nat} {w w':World} {c0 c1 c2 c3 c4:Value} (h:BKeep B b w w') (hk:Box5 w k 26 c0 c1 c2 c3 c4) (hb:k≠b):Box5 w' k 26 c0 c1 c2 c3 c4:=h.block hk hb (by decide)
theorem zaH {B b:Nat} {w:World} (hB:B≤w.heap.size) (o:Obj):BKeep B b w (w.alloc o):=BKeep.of_below hB ((Below.refl _ _).alloc (Nat.le_refl _) _)
theorem za1 {B b:Nat} {l:List UInt8} {w:World} (h:IsB B b l w) (o:Obj):IsB B b l (w.alloc o):=h.below ((Below.refl _ _).alloc (Nat.le_refl _) _)
theorem zax (B b:Nat) (l T:List UInt8) (s:ByteArray) (w:World) (hT:s.data.toList=T) (h:IsB B b l w) (hlen:l.length+T.length≤140737488355328) (hBw:B≤w.heap.size) :
  Calls prog 70 #[.pointer (some ⟨b,0,none⟩),.string s] w fun e w'=>e=.returned (.tuple #[.int .i64 s.size,.nilIface])∧(IsB B b (l++T) w'∧BKeep B b w w'):=by
 subst hT
 exact za7 B b l s w h hlen hBw
section
variable (B b : Nat) (l0 : List UInt8) (n d : Int) (s : ByteArray) (o : Option Addr) (len cap : Nat) (w : World)
theorem zlU (hb:IsB B b l0 w) (hB:B≤w.heap.size) (hE:EnvAt B w) (h0:-9223372036854775808≤n) (h1:n≤9223372036854775807) (h2:-9223372036854775808≤d) (h3:d≤9223372036854775807) (T:List UInt8) (hT:Num.text n d=T) (hl:l0.length+T.length≤140737488355328) :
  Calls prog 38 #[.pointer (some ⟨b,0,none⟩),.agg #[.int .i64 0,.int .i64 n,.int .i64 d,.string s,.slice o len cap]] w (WPost B b (l0++T) w):=by
 have HT:=zh (fun W hE=>zlF n d h0 h1 h2 h3 W hE)
 rw[hT] at HT
 clear hT
 have HK:=zh (fun X=>zaH (b:=b) hB X)
 have HE:=zh (fun X=>hE.kept (HK.out X).1)
 have HB:=zh (fun X=>za1 hb X)
 clear hE
 go_enter func38,ntmps38
 go_wp2_with fail
 refine (HT.out _ (HE.out _).1).mono ?_
 rintro e' w1 ⟨rfl,hb1⟩
 have HB1:=zh hb1
 clear hb1
 go_wp2_with fail
 refine (za7 B b l0 ⟨T.toArray⟩ _ ((HB.out _).below HB1.out) hl (by have:=HB1.out.size;simp at this;omega)).mono ?_
 rintro e' w2 ⟨rfl,hb2,hk2⟩
 go_wp2
 go_end0
 exact ⟨rfl,by simpa using hb2,((HK.out _).trans (BKeep.of_below (by simp;omega) HB1.out)).trans hk2⟩
theorem zlX (hb:IsB B b l0 w) (hB:B≤w.heap.size) (hl:l0.length+(s.data.toList).length≤140737488355328) :
  Calls prog 38 #[.pointer (some ⟨b,0,none⟩),.agg #[.int .i64 2,.int .i64 n,.int .i64 d,.string s,.slice o len cap]] w (WPost B b (l0++(s.data.toList)) w):=by
 have HK:=zh (fun X=>zaH (b:=b) hB X)
 have HB:=zh (fun X=>za1 hb X)
 go_enter func38,ntmps38
 go_wp2_with fail
 refine (za7 B b l0 s _ (HB.out _) hl (by simp;omega)).mono ?_
 rintro e' w2 ⟨rfl,hb2,hk2⟩
 go_wp2
 go_end0
 exact ⟨rfl,by simpa using hb2,(HK.out _).trans hk2⟩
theorem zlY (hb:IsB B b l0 w) (hB:B≤w.heap.size) (hs:s.size≤140737488351232) (hl:l0.length+(34::(s.data.toList++[34])).length≤140737488355328) :
  Calls prog 38 #[.pointer (some ⟨b,0,none⟩),.agg #[.int .i64 3,.int .i64 n,.int .i64 d,.string s,.slice o len cap]] w (WPost B b (l0++(34::(s.data.toList++[34]))) w):=by
 have HK:=zh (fun X=>zaH (b:=b) hB X)
 have HB:=zh (fun X=>za1 hb X)
 go_enter func38,ntmps38
 go_wp2_with fail
 refine (zax B b l0 (34::(s.data.toList++[34])) _ _ ?_ (HB.out _) hl (by simp;omega)).mono ?_
 ·rw[ByteArray.data_append,ByteArray.data_append];simp
 rintro e' w2 ⟨rfl,hb2,hk2⟩
 go_wp2
 go_end0
 exact ⟨rfl,by simpa using hb2,(HK.out _).trans hk2⟩
theorem zlW (hb:IsB B b l0 w) (hB:B≤w.heap.size) (hl:l0.length+([40,41]).length≤140737488355328) :
  Calls prog 38 #[.pointer (some ⟨b,0,none⟩),.agg #[.int .i64 4,.int .i64 n,.int .i64 d,.string s,.slice o len cap]] w (WPost B b (l0++([40,41])) w):=by
 have HK:=zh (fun X=>zaH (b:=b) hB X)
 have HB:=zh (fun X=>za1 hb X)
 go_enter func38,ntmps38
 go_wp2_with fail
 refine (za7 B b l0 ⟨#[40,41]⟩ _ (HB.out _) hl (by simp;omega)).mono ?_
 rintro e' w2 ⟨rfl,hb2,hk2⟩
 go_wp2
 go_end0
 exact ⟨rfl,by simpa using hb2,(HK.out _).trans hk2⟩
theorem zl0 (hb:IsB B b l0 w) (hB:B≤w.heap.size) (hl:l0.length+([35,118]).length≤140737488355328) :
  Calls prog 38 #[.pointer (some ⟨b,0,none⟩),.agg #[.int .i64 5,.int .i64 n,.int .i64 d,.string s,.slice o len cap]] w (WPost B b (l0++([35,118])) w):=by
 have HK:=zh (fun X=>zaH (b:=b) hB X)
 have HB:=zh (fun X=>za1 hb X)
 go_enter func38,ntmps38
 go_wp2_with fail
 refine (za7 B b l0 ⟨#[35,118]⟩ _ (HB.out _) hl (by simp;omega)).mono ?_
 rintro e' w2 ⟨rfl,hb2,hk2⟩
 go_wp2
 go_end0
 exact ⟨rfl,by simpa using hb2,(HK.out _).trans hk2⟩
theorem zk2 (hb:IsB B b l0 w) (hB:B≤w.heap.size) (hl:l0.length+2≤140737488355328) :
  Calls prog 38 #[.pointer (some ⟨b,0,none⟩),.agg #[.int .i64 1,.int .i64 0,.int .i64 d,.string s,.slice o len cap]] w (WPost B b (l0++[35,102]) w):=by
 have HK:=zh (fun X=>zaH (b:=b) hB X)
 have HB:=zh (fun X=>za1 hb X)
 go_enter func38,ntmps38
 go_wp2_with fail
 refine (zax B b l0 [35,102] _ _ rfl (za1 (HB.out _) _) hl (by simp;omega)).mono ?_
 rintro e' w2 ⟨rfl,hb2,hk2⟩
 go_wp2
 go_end0
 exact ⟨rfl,by simpa using hb2,((HK.out _).trans (zaH (by simp;omega) _)).trans hk2⟩
theorem zk8 (hb:IsB B b l0 w) (hB:B≤w.heap.size) (hl:l0.length+2≤140737488355328) :
  Calls prog 38 #[.pointer (some ⟨b,0,none⟩),.agg #[.int .i64 1,.int .i64 1,.int .i64 d,.string s,.slice o len cap]] w (WPost B b (l0++[35,116]) w):=by
 have HK:=zh (fun X=>zaH (b:=b) hB X)
 have HB:=zh (fun X=>za1 hb X)
 go_enter func38,ntmps38
 go_wp2_with fail
 refine (zax B b l0 [35,116] _ _ rfl (za1 (HB.out _) _) hl (by simp;omega)).mono ?_
 rintro e' w2 ⟨rfl,hb2,hk2⟩
 go_wp2
 go_end0
 exact ⟨rfl,by simpa using hb2,((HK.out _).trans (zaH (by simp;omega) _)).trans hk2⟩
end
end
section
open Go.RowKit
theorem ze6:∀(l:List Dat) (x:Dat) (first:Bool),Dat.textV (l++[x]) first=Dat.textV l first++((if first&&l.isEmpty then [] else [32])++Dat.text x false)
 | [],x,first=>by cases first<;>simp[Dat.textV]
 | y::l,x,first=>by
  rw[List.cons_append,Dat.textV,ze6 l x false,Dat.textV]
  simp
theorem ziF {l:List Dat} {j:Nat} {x:Dat} (h:l[j]?=some x):Dat.textV (l.take (j+1)) true=Dat.textV (l.take j) true++((if j=0 then [] else [32])++Dat.text x false):=by
 have hj:=(List.getElem?_eq_some_iff.1 h).1
 rw[List.take_add_one,h]
 show Dat.textV (l.take j++[x]) true=_
 rw[ze6]
 congr 2
 by_cases h0:j=0
 ·subst h0;simp
 ·have:(l.take j).isEmpty=false:=by
   rw[List.isEmpty_eq_false_iff];intro h1
   have:=congrArg List.length h1
   rw[List.length_take,List.length_nil] at this;omega
  simp[this,h0]
theorem zcj:∀(a c:List Dat) (first:Bool),(Dat.textV a first).length≤(Dat.textV (a++c) first).length
 | [],c,first=>by simp[Dat.textV]
 | y::a,c,first=>by
  have:=zcj a c false
  rw[List.cons_append,Dat.textV,Dat.textV]
  simp only[List.length_append];omega
theorem zcP (l:List Dat) (j:Nat):(Dat.textV (l.take j) true).length≤(Dat.textV l true).length:=by
 have:=zcj (l.take j) (l.drop j) true
 rwa[List.take_append_drop] at this
def zjs (B b:Nat) (l:List Dat):Prop:=∀x∈l,∀(v:Value) (l1:List UInt8) (W:World),IsB B b l1 W→RepD W B x v→B≤W.heap.size→EnvAt B W→l1.length+(Dat.text x false).length≤140737488355328 →
 Calls prog 38 #[.pointer (some ⟨b,0,none⟩),v] W (WPost B b (l1++Dat.text x false) W)
theorem zmf (B b:Nat) (l0:List UInt8) (n d:Int) (s:ByteArray) (l:List Dat) (sl:Value) (w:World) (hb:IsB B b l0 w) (hB:B≤w.heap.size) (hE:EnvAt B w) (hv:RepS w B l sl) (IH:zjs B b l)
  (hl:l0.length+([35,40]++(Dat.textV l true++[41])).length≤140737488355328) :
  Calls prog 38 #[.pointer (some ⟨b,0,none⟩),.agg #[.int .i64 7,.int .i64 n,.int .i64 d,.string s,sl]] w (WPost B b (l0++([35,40]++(Dat.textV l true++[41]))) w):=by
 obtain ⟨o,len,cap,rfl,hlen,hcap,hmax,hc⟩:=hv
 have HK:=zh (fun X=>zaH (b:=b) hB X)
 have HB:=zh (fun X=>za1 hb X)
 have HE:=zh hE
 have HV:=zh hc
 have HL:=zh hlen
 have HI:=zh IH
 have hbw:=hb.lt
 have hbB:=hb.base
 have hlen2:l0.length+2+(Dat.textV l true).length+1≤140737488355328:=by simp at hl;omega
 clear hE hc hlen IH hl hb
 go_enter func38,ntmps38
 go_wp2_with fail
 refine (zax B b l0 [35,40] _ _ rfl (HB.out _) (by simp;omega) (by simp;omega)).mono ?_
 rintro e' w1 ⟨rfl,hb1,hk1⟩
 have hbox:=Box5.bkeep hk1 (Box5.new w 26 _ _ _ _ _) (by omega)
 obtain ⟨q0,q1,q2,q3,q4⟩:=hbox.cells
 have HK1:=zh ((HK.out _).trans hk1)
 have HB1:=zh hb1
 have HX:=zh hbox
 clear hb1 hk1 hbox
 go_wp2_with fail
 go_loopw [4,56] (fun t i wr=>∃(j:Nat),i=.int .i64 j∧t=.string (if j=0 then ⟨#[]⟩ else ⟨#[32]⟩)∧j≤len∧IsB B b (l0++[35,40]++Dat.textV (l.take j) true) wr∧BKeep B b w wr) (fun _ i _=>len-(intOf i).toNat)
 case atStart=>exact ⟨0,rfl,rfl,by omega,by simpa[Dat.textV] using HB1.out,HK1.out⟩
 case round=>
  obtain ⟨j,rfl,rfl,hj,hbj,hkj⟩:=hrel
  have HBJ:=zh hbj
  have HKJ:=zh hkj
  have hsz:=hkj.size
  obtain ⟨S,hS⟩:∃S:ByteArray,(if j=0 then ⟨#[]⟩ else ⟨#[32]⟩:ByteArray)=S:=⟨_,rfl⟩
  obtain ⟨U,hU⟩:∃U:List UInt8,(if j=0 then [] else [32]:List UInt8)=U:=⟨_,rfl⟩
  have hSU:S.data.toList=U:=by rw[←hS,←hU];split<;>rfl
  rw[hS]
  have HU:=zh hU
  have HSU:=zh hSU
  clear hbj hkj hS hU hSU
  by_cases hjl:j<len
  ·obtain ⟨x,hx⟩:∃x,l[j]?=some x:=⟨_,List.getElem?_eq_getElem (by rw[←HL.out];exact hjl)⟩
   obtain ⟨bb,off,k',n',d',s',l',o',len',cap',ho,hxe,e0,e1,e2,e3,e4,er⟩:=zay HV.out HKJ.out.1 hx
   subst ho hxe
   have HX:=zh hx
   have ER:=zh er
   have hbb:=zai e0
   have HS:=zh (ziF hx)
   have ht1:=zcP l j
   have ht2:=zcP l (j+1)
   rw[HS.out] at ht2
   simp only[List.length_append] at ht2
   rw[HU.out] at HS ht2
   clear hx er
   go_wp2_with fail
   refine (zax B b _ U _ _ HSU.out (za1 HBJ.out _) (by simp only[List.length_append,List.length_cons,List.length_nil];omega) (by simp;omega)).mono ?_
   rintro e' w2 ⟨rfl,hb2,hk2⟩
   have hbox2:=Box5.bkeep hk2 (Box5.new wr 26 _ _ _ _ _) (by omega)
   obtain ⟨r0,r1,r2,r3,r4⟩:=hbox2.cells
   have HK2:=zh ((HKJ.out.trans (zaH (by omega) _)).trans hk2)
   have HB2:=zh hb2
   have HER2:=zh (ER.out.kept (((zaH (b:=b) (by omega) _).trans hk2).1))
   clear hb2 hk2 hbox2
   go_wp2_with fail
   have hs2:=HK2.out.size
   refine (HI.out _ (List.mem_of_getElem? HX.out) _ _ _ HB2.out HER2.out (by omega) (HE.out.kept HK2.out.1) (by simp only[List.length_append,List.length_cons,List.length_nil];omega)).mono ?_
   rintro e' w3 ⟨rfl,hb3,hk3⟩
   go_wp2
   go_roundw
   case rel=>
    refine ⟨j+1,by go_num,by simp,by omega,?_,HK2.out.trans hk3⟩
    rw[HS.out]
    simpa using hb3
   case measure=>simp[intOf];omega
  ·have HT:=zh (show l.take j=l from List.take_of_length_le (by rw[←HL.out];omega))
   go_wp2_with fail
   refine (zax B b _ [41] _ _ rfl HBJ.out (by rw[HT.out];simp only[List.length_append,List.length_cons,List.length_nil];omega) (by omega)).mono ?_
   rintro e' w2 ⟨rfl,hb2,hk2⟩
   go_wp2
   go_end0
   refine ⟨rfl,?_,HKJ.out.trans hk2⟩
   rw[HT.out] at hb2
   simpa using hb2
end
section
open Go.ChangeShapes Go.WideShapes Go.ChangeAt Go.RowKit
section
variable {H : Type} {enc : TypeId × Value → H}
theorem zft {w:World} (fuel:Nat) (c4:Value) (x4:DataW H × List MemPlace) (g4:DataW.trod enc prog w 0 (fun _=>true) true fuel 22 [c4]=some x4) (w4:∀n∈x4.1.weights prog 22,n≤reachBytes):∃l,RepS w w.heap.size l c4∧Dat.bulkL l≤Rows.uptoBulk x4.1:=by
 rcases DataW.trod_slice underlying22 g4 with ⟨e4,_⟩ | ⟨a,len,cap,elems,rest,n',rfl,e4,hx4,_,hle,_,hel,hget4,hsp,_⟩
 ·have f4:c4=.slice none 0 0:=by simpa using e4
  subst f4
  exact ⟨[],⟨none,0,0,rfl,rfl,by omega,by omega,rfl,rfl⟩,Nat.zero_le _⟩
 ·have f4:c4=.slice (some a) len cap:=by simpa using e4
  subst f4 hx4
  have hrest:=(hsp rfl).1
  have hcap:cap≤9223372036854775807:=by
   have:=w4 ((elems.length+rest.length)*64) (by simp[DataW.weights,underlying22,zcK])
   have h9:(elems.length+rest.length)*64≤140737488351232:=this
   omega
  by_cases h0:len=0
  ·subst h0
   exact ⟨[],⟨some a,0,cap,rfl,rfl,by omega,hcap,fun h=>absurd rfl h,by rw[RepC];trivial⟩,Nat.zero_le _⟩
  have hat:∀i (hi:i<len),∃cs',w.cells? 0 (a.add (i*5)) 5=some cs'∧DataW.trod enc prog w 0 (fun _=>true) true n' 26 cs'=some (elems[i]'(by omega)):=by
   intro i hi
   have hb:=hget4 i hi
   rw[zbG,List.getElem?_eq_getElem (by omega)] at hb
   exact Option.bind_eq_some_iff.1 hb
  obtain ⟨hspot,hblk⟩:a.spot=none∧a.block<w.heap.size:=by
   obtain ⟨cs',hc1,_⟩:=hat 0 (by omega)
   obtain ⟨_,hl5,hcs⟩:=World.cells?_some hc1
   have h00:=hcs 0 (by omega)
   rw[List.getElem?_eq_getElem (by omega)] at h00
   have:=zdW h00
   simpa[Addr.add] using this
  have hcell:∀i (hi:i<(elems.map Prod.fst).length),∃x c0 c1 c2 c3 c4,w.cell? ⟨a.block,a.off+i*5,none⟩=some c0∧w.cell? ⟨a.block,a.off+i*5+1,none⟩=some c1∧w.cell? ⟨a.block,a.off+i*5+2,none⟩=some c2∧w.cell? ⟨a.block,a.off+i*5+3,none⟩=some c3∧w.cell? ⟨a.block,a.off+i*5+4,none⟩=some c4∧RepD w w.heap.size x (.agg #[c0,c1,c2,c3,c4])∧Dat.bulk x≤Rows.uptoBulk (elems.map Prod.fst)[i]:=by
   intro i hi'
   have hi:i<len:=by simpa[hel] using hi'
   obtain ⟨cs',hc1,hc2⟩:=hat i hi
   obtain ⟨_,hl5,hcs⟩:=World.cells?_some hc1
   rw[zcs hspot] at hcs
   have hcs2:∀j,j<5→w.cell? ⟨a.block,a.off+i*5+j,none⟩=cs'[j]?:=by
    intro j hj
    have:=hcs j hj
    rw[zcs rfl] at this
    exact this
   match cs',hl5 with
   | [a0,a1,a2,a3,a4],_=>
    obtain ⟨x,hx,hxb⟩:=zga n' _ _ hc2 (fun q hq=>w4 q (by
     simp only[DataW.weights,underlying22,List.mem_cons,List.mem_append]
     refine Or.inr (Or.inl (zbq (d:=(elems[i]'(by omega)).1) ?_ q hq))
     exact List.mem_map_of_mem (List.getElem_mem _)))
    exact ⟨x,a0,a1,a2,a3,a4,hcs2 0 (by omega),hcs2 1 (by omega),hcs2 2 (by omega),hcs2 3 (by omega),hcs2 4 (by omega),hx,by simpa using hxb⟩
  obtain ⟨l,hl,hr,hlb⟩:=zcL (elems.map Prod.fst) a.off hcell
  exact ⟨l,⟨some a,len,cap,rfl,by rw[hl];simp[hel],hle,hcap,fun _=>⟨hspot,hblk⟩,hr⟩,Nat.le_trans hlb (by show Rows.uptoBulkAll (elems.map fun x=>x.1)≤_;simp only[Rows.uptoBulk];omega)⟩
theorem ziz {W:World} {r:Reach} {b0:Nat} {v:Value} {d:DataW H} {ps:List MemPlace} (hval:Value.okWide prog W r b0 22 v) (hd:DataW.Trod enc prog W 0 (fun _=>true) true 22 v d ps) (hw:∀n∈d.weights prog 22,n≤reachBytes):∃l,RepS W W.heap.size l v∧Dat.bulkL l≤Rows.uptoBulk d:=by
 obtain ⟨a0,len,cap,rfl⟩:=okWide_slice underlying22 hval
 obtain ⟨fuel,hf⟩:=hd
 exact zft fuel _ (d,ps) (by simpa[Value.cells] using hf) hw
end
theorem zdI {l:List Dat} {x:Dat} (h:x∈l):Dat.bulk x≤Dat.bulkL l:=by
 induction l with
 | nil=>cases h
 | cons y l ih=>
  simp only[Dat.bulkL]
  rcases List.mem_cons.1 h with rfl | h
  ·omega
  ·have:=ih h;omega
end
section
open Go Go.RowKit
structure Turned (S:Nat→Prop) (A B:World):Prop where
 os:B.os=A.os
 tape:B.tape=A.tape
 output:B.output=A.output
 size:A.heap.size≤B.heap.size
 block:∀b,b<A.heap.size→¬S b→B.heap[b]?=A.heap[b]?
theorem Turned.refl (S:Nat→Prop) (A:World):Turned S A A:=⟨rfl,rfl,rfl,Nat.le_refl _,fun _ _ _=>rfl⟩
theorem Turned.trans {S S':Nat→Prop} {A B C:World} (h:Turned S A B) (h':Turned S' B C) (hS:∀b,b<A.heap.size→S' b→S b):Turned S A C:=
 ⟨h'.os.trans h.os,h'.tape.trans h.tape,h'.output.trans h.output,Nat.le_trans h.size h'.size,fun b hb hn=>(h'.block b (Nat.lt_of_lt_of_le hb h.size) (fun hs=>hn (hS b hb hs))).trans (h.block b hb hn)⟩
theorem Turned.next {S:Nat→Prop} {A B C:World} (h:Turned S A B) (h':Turned S B C):Turned S A C:=h.trans h' fun _ _ h=>h
theorem Turned.wider {S S':Nat→Prop} {A B:World} (h:Turned S A B) (hS:∀b,b<A.heap.size→S b→S' b):Turned S' A B:=⟨h.os,h.tape,h.output,h.size,fun b hb hn=>h.block b hb fun hs=>hn (hS b hb hs)⟩
theorem Turned.of_below {S:Nat→Prop} {A B:World} (h:Below A.heap.size A B):Turned S A B:=⟨h.os,h.tape,h.output,h.size,fun b hb _=>h.block b hb⟩
theorem Turned.below {S:Nat→Prop} {A B:World} (h:Turned S A B) {b0:Nat} (hS:∀b,S b→b0≤b) (hb0:b0≤A.heap.size):Below b0 A B:=
 ⟨h.os,h.tape,h.output,h.size,fun b hb=>h.block b (Nat.lt_of_lt_of_le hb hb0) fun hs=>by have:=hS b hs;omega⟩
theorem Turned.set {S:Nat→Prop} (A:World) (a:Addr) (v:Value) (ha:S a.block):Turned S A (A.setCell a v):=⟨rfl,rfl,rfl,by rw[World.size_setCell];exact Nat.le_refl _,fun b _ hn=>zau A a v fun e=>hn (e ▸ ha)⟩
theorem Turned.grown {S:Nat→Prop} {A B:World} {row:Option Nat} (h:A.grownBy B row) (hr:∀b,row=some b→S b):Turned S A B:=⟨h.os,h.tape,h.output,h.size,fun b hb hn=>h.block b hb fun e=>hn (hr b e.symm)⟩
theorem Turned.box {S:Nat→Prop} {A B:World} (h:Turned S A B) {b:Nat} {t:TypeId} {cs:List Value} (hb:BoxL A b t cs) (hn:¬S b):BoxL B b t cs:=(h.block b hb.lt hn).trans hb
end
section
open Go.RowKit
theorem zic (s:ByteArray) (r:Bool) (hr:Dat.name s.data.toList=r) (hs:s.size≤140737488351232) (w:World) :
  Calls prog 92 #[.string s] w fun e w'=>e=.returned (.bool r)∧Below w.heap.size w w':=by
 rw[←hr];exact zjM s hs w
def Uno (w:World) (cs:Array Value) (t:TypeId) (w':World):Prop:=Below (w.heap.size+1) (w.alloc (.cells cs t)) w'
theorem Uno.refl (w:World) (cs:Array Value) (t:TypeId):Uno w cs t (w.alloc (.cells cs t)):=Below.refl _ _
theorem Uno.drewN {w w':World} {cs:Array Value} {t:TypeId} (h:Uno w cs t w') (n:Nat):Uno w cs t (w'.drewN n):=Below.drewN h n
theorem Uno.size {w w':World} {cs:Array Value} {t:TypeId} (h:Uno w cs t w'):w.heap.size+1≤w'.heap.size:=by
 have:=Below.size h;simpa using this
theorem Uno.next {w w' w2:World} {cs:Array Value} {t:TypeId} (h:Uno w cs t w') (h2:Below w'.heap.size w' w2):Uno w cs t w2:=
 Below.trans h (h2.mono h.size)
theorem Uno.below {w w':World} {cs:Array Value} {t:TypeId} (h:Uno w cs t w'):Below w.heap.size w w':=
 ((Below.refl w.heap.size w).alloc (Nat.le_refl _) _).trans (Below.mono h (by omega))
theorem Uno.cell {w w':World} {cs:Array Value} {t:TypeId} (h:Uno w cs t w') (i:Nat) {v:Value} (hv:cs[i]?=some v):w'.cell? ⟨w.heap.size,i,none⟩=some v:=
 (Below.cell (p:=⟨w.heap.size,i,none⟩) h (by simp)).trans (zbK _ _ _ _ hv)
theorem zd4 (b:UInt8):Dat.strByte b=true↔(32≤b.toNat∧b.toNat≤126∧b.toNat≠34∧b.toNat≠92):=by
 simp only[Dat.strByte,Bool.and_eq_true,decide_eq_true_eq]
theorem zi4 (l:List Dat) (deep:Nat):Dat.rightL l deep=l.all fun x=>Dat.right x deep:=by
 induction l with
 | nil=>rfl
 | cons x l ih=>rw[Dat.rightL,List.all_cons,ih]
theorem zi7:∀(x:Dat) (v:Value) (deep:Nat) (B:Nat) (w:World),RepD w B x v→B≤w.heap.size→deep≤201 →
  Calls prog 54 #[v,.int .i64 deep] w fun e w'=>e=.returned (.bool (Dat.right x deep))∧Below w.heap.size w w':=by
 intro x
 induction x using Dat.ind with
 | h k n d s l ih=>
  intro v deep B w hv hB hdeep
  obtain ⟨sl,rfl,bk,bn,bd,bs,hs⟩:=hv.open
  obtain ⟨o,len,cap,rfl,hl,hcap,hmax,hc⟩:=hs
  obtain ⟨r,hr⟩:∃r,Dat.right (.mk k n d s l) deep=r:=⟨_,rfl⟩
  rw[hr]
  rw[Dat.right,zi4] at hr
  have HIH:=zh ih
  have HC:=zh hc
  have HL:=zh hl
  have HR:=zh hr
  have HNO:=zh (show Dat.head k n d s.data.toList l.length=false→false=r from fun h=>by rw[←hr,h];simp)
  have HK:=zh (fun X=>(Below.refl w.heap.size w).alloc (Nat.le_refl _) X)
  have HU:=zh (Uno.refl w #[.int .i64 k,.int .i64 n,.int .i64 d,.string s,.slice o len cap] 26)
  have HBB:=zh hB
  clear ih hv hc hr hl hB
  by_cases h200:200<deep
  ·have HF:=zh (show false=r by rw[←HR.out,decide_eq_false (by omega)];simp)
   go_enter func54,ntmps54
   go_wp2_with fail
   go_ret
   exact ⟨zan HF.out,HK.out _⟩
  by_cases hk0:k<0
  ·have HF:=zh (HNO.out (by rw[←Bool.not_eq_true,zbJ];rintro ⟨a0,a1,a2,a3,a4,a5,a6,a7,a8,a9⟩;omega))
   go_enter func54,ntmps54
   go_wp2_with fail
   all_goals go_ret
   all_goals exact ⟨zan HF.out,by first | exact HK.out _ | exact Below.drewN (HK.out _) _ | fail⟩
  by_cases hk7:7<k
  ·have HF:=zh (HNO.out (by rw[←Bool.not_eq_true,zbJ];rintro ⟨a0,a1,a2,a3,a4,a5,a6,a7,a8,a9⟩;omega))
   go_enter func54,ntmps54
   go_wp2_with fail
   all_goals go_ret
   all_goals exact ⟨zan HF.out,by first | exact HK.out _ | exact Below.drewN (HK.out _) _ | fail⟩
  have h200b:decide (200<(deep:Int))=false:=decide_eq_false (by omega)
  obtain ⟨g3,hg3⟩:∃g,decide ((k=0→Num.right n d=true)∧(k≠0→d=0))=g:=⟨_,rfl⟩
  have HG:=zh hg3
  clear hg3
  go_enter func54,ntmps54
  go_upto_region 3 with fail
  go_cut [39] from 7 (fun c wx=>c=.bool (!g3)∧Uno w #[.int .i64 k,.int .i64 n,.int .i64 d,.string s,.slice o len cap] 26 wx)
  case first=>as_aux_lemma=>
   by_cases hz:k=0
   ·subst hz
    obtain ⟨q,hq⟩:∃q,Num.right n d=q:=⟨_,rfl⟩
    have HQ:=zh hq
    cases q with
    | false=>
     have hgg:g3=false:=by rw[←HG.out];exact decide_eq_false (by rintro ⟨a,_⟩;rw[a rfl] at hq;cases hq)
     subst hgg
     go_wp2_with (first | (go_at_call 91;refine (zgq n d false HQ.out bn.1 bn.2 bd.1 bd.2 _).mono ?_;rintro e1 w1 ⟨rfl,nk,rfl⟩) | fail)
     all_goals go_meet
     all_goals exact ⟨rfl,by first | exact HU.out | exact HU.out.drew | exact Uno.drewN HU.out _ | exact HU.out.next hb1 | fail⟩
    | true=>
     have hgg:g3=true:=by rw[←HG.out];exact decide_eq_true ⟨fun _=>hq,fun h=>absurd rfl h⟩
     subst hgg
     go_wp2_with (first | (go_at_call 91;refine (zgq n d true HQ.out bn.1 bn.2 bd.1 bd.2 _).mono ?_;rintro e1 w1 ⟨rfl,nk,rfl⟩) | fail)
     all_goals go_meet
     all_goals exact ⟨rfl,by first | exact HU.out | exact HU.out.drew | exact Uno.drewN HU.out _ | exact HU.out.next hb1 | fail⟩
   ·have hz2:(k==0)=false:=by simpa using hz
    have hz3:(k != 0)=true:=by simpa using hz
    by_cases hd:d=0
    ·subst hd
     have hgg:g3=true:=by rw[←HG.out];exact decide_eq_true ⟨fun h=>absurd h hz,fun _=>rfl⟩
     subst hgg
     go_wp2_with fail
     all_goals go_meet
     all_goals exact ⟨rfl,by first | exact HU.out | exact HU.out.drew | exact Uno.drewN HU.out _ | exact HU.out.next hb1 | fail⟩
    ·have hd2:(d != 0)=true:=by simpa using hd
     have hgg:g3=false:=by rw[←HG.out];exact decide_eq_false (by rintro ⟨_,a⟩;exact hd (a hz))
     subst hgg
     go_wp2_with fail
     all_goals go_meet
     all_goals exact ⟨rfl,by first | exact HU.out | exact HU.out.drew | exact Uno.drewN HU.out _ | exact HU.out.next hb1 | fail⟩
  case rest=>
   obtain ⟨rfl,hu⟩:=hcut
   clear HU
   have HU:=zh hu
   clear hu
   have p0:=HU.out.cell 0 (v:=.int .i64 k) rfl
   have p1:=HU.out.cell 1 (v:=.int .i64 n) rfl
   have p2:=HU.out.cell 2 (v:=.int .i64 d) rfl
   have p3:=HU.out.cell 3 (v:=.string s) rfl
   have p4:=HU.out.cell 4 (v:=.slice o len cap) rfl
   cases g3 with
   | false=>
    have HF:=zh (HNO.out (by rw[←Bool.not_eq_true,zbJ];rintro ⟨a0,a1,a2,a3,a4,a5,a6,a7,a8,a9⟩;exact absurd ⟨a1,a2⟩ (of_decide_eq_false HG.out)))
    go_wp2_with fail
    all_goals go_ret
    all_goals exact ⟨zan HF.out,HU.out.below⟩
   | true=>
    have HAg3:=zh (of_decide_eq_true HG.out)
    clear HG
    obtain ⟨g5,hg5⟩:∃g,decide ((k=1→n=0∨n=1)∧(k≠0→k≠1→n=0))=g:=⟨_,rfl⟩
    have HG:=zh hg5
    clear hg5
    go_upto_region 5 with fail
    go_cut [67] from 7 (fun c wx=>c=.bool (!g5)∧Uno w #[.int .i64 k,.int .i64 n,.int .i64 d,.string s,.slice o len cap] 26 wx)
    case first=>as_aux_lemma=>
     by_cases h1:k=1
     ·subst h1
      by_cases hn0:n=0
      ·subst hn0
       have hgg:g5=true:=by rw[←HG.out];exact decide_eq_true ⟨fun _=>.inl rfl,fun _ _=>rfl⟩
       subst hgg
       go_wp2_with fail
       all_goals go_meet
       all_goals exact ⟨rfl,by first | exact HU.out | exact HU.out.drew | exact Uno.drewN HU.out _ | exact HU.out.next hb1 | fail⟩
      have hn02:(n != 0)=true:=by simpa using hn0
      by_cases hn1:n=1
      ·subst hn1
       have hgg:g5=true:=by rw[←HG.out];exact decide_eq_true ⟨fun _=>.inr rfl,fun _ h=>absurd rfl h⟩
       subst hgg
       go_wp2_with fail
       all_goals go_meet
       all_goals exact ⟨rfl,by first | exact HU.out | exact HU.out.drew | exact Uno.drewN HU.out _ | exact HU.out.next hb1 | fail⟩
      ·have hn12:(n != 1)=true:=by simpa using hn1
       have hgg:g5=false:=by rw[←HG.out];exact decide_eq_false (by rintro ⟨a,_⟩;have:=a rfl;omega)
       subst hgg
       go_wp2_with fail
       all_goals go_meet
       all_goals exact ⟨rfl,by first | exact HU.out | exact HU.out.drew | exact Uno.drewN HU.out _ | exact HU.out.next hb1 | fail⟩
     ·have h12:(k==1)=false:=by simpa using h1
      have h13:(k != 1)=true:=by simpa using h1
      by_cases hz:k=0
      ·subst hz
       have hgg:g5=true:=by rw[←HG.out];exact decide_eq_true ⟨fun h=>by omega,fun h=>absurd rfl h⟩
       subst hgg
       go_wp2_with fail
       all_goals go_meet
       all_goals exact ⟨rfl,by first | exact HU.out | exact HU.out.drew | exact Uno.drewN HU.out _ | exact HU.out.next hb1 | fail⟩
      have hz2:(k==0)=false:=by simpa using hz
      have hz3:(k != 0)=true:=by simpa using hz
      by_cases hn0:n=0
      ·subst hn0
       have hgg:g5=true:=by rw[←HG.out];exact decide_eq_true ⟨fun h=>absurd h h1,fun _ _=>rfl⟩
       subst hgg
       go_wp2_with fail
       all_goals go_meet
       all_goals exact ⟨rfl,by first | exact HU.out | exact HU.out.drew | exact Uno.drewN HU.out _ | exact HU.out.next hb1 | fail⟩
      ·have hn02:(n != 0)=true:=by simpa using hn0
       have hgg:g5=false:=by rw[←HG.out];exact decide_eq_false (by rintro ⟨_,a⟩;exact hn0 (a hz h1))
       subst hgg
       go_wp2_with fail
       all_goals go_meet
       all_goals exact ⟨rfl,by first | exact HU.out | exact HU.out.drew | exact Uno.drewN HU.out _ | exact HU.out.next hb1 | fail⟩
    case rest=>
     obtain ⟨rfl,hu⟩:=hcut
     clear HU
     have HU:=zh hu
     clear hu
     have p0:=HU.out.cell 0 (v:=.int .i64 k) rfl
     have p1:=HU.out.cell 1 (v:=.int .i64 n) rfl
     have p2:=HU.out.cell 2 (v:=.int .i64 d) rfl
     have p3:=HU.out.cell 3 (v:=.string s) rfl
     have p4:=HU.out.cell 4 (v:=.slice o len cap) rfl
     cases g5 with
     | false=>
      have HF:=zh (HNO.out (by rw[←Bool.not_eq_true,zbJ];rintro ⟨a0,a1,a2,a3,a4,a5,a6,a7,a8,a9⟩;exact absurd ⟨a3,a4⟩ (of_decide_eq_false HG.out)))
      go_wp2_with fail
      all_goals go_ret
      all_goals exact ⟨zan HF.out,HU.out.below⟩
     | true=>
      have HAg5:=zh (of_decide_eq_true HG.out)
      clear HG
      obtain ⟨g7,hg7⟩:∃g,decide ((k=2→Dat.name s.data.toList=true)∧(k≠2→k≠3→s.data.toList=[]))=g:=⟨_,rfl⟩
      have HG:=zh hg7
      clear hg7
      go_upto_region 7 with fail
      go_cut [91] from 7 (fun c wx=>c=.bool (!g7)∧Uno w #[.int .i64 k,.int .i64 n,.int .i64 d,.string s,.slice o len cap] 26 wx)
      case first=>as_aux_lemma=>
       by_cases h2:k=2
       ·subst h2
        obtain ⟨q,hq⟩:∃q,Dat.name s.data.toList=q:=⟨_,rfl⟩
        have HQ:=zh hq
        cases q with
        | false=>
          have hgg:g7=false:=by rw[←HG.out];exact decide_eq_false (by rintro ⟨a,_⟩;rw[a rfl] at hq;cases hq)
          subst hgg
          go_wp2_with (first | (go_at_call 92;refine (zic s false HQ.out bs _).mono ?_;rintro e1 w1 ⟨rfl,hb1⟩;have HU1:=zh (HU.out.next hb1);have p0:=HU1.out.cell 0 (v:=.int .i64 2) rfl;have p1:=HU1.out.cell 1 (v:=.int .i64 n) rfl;have p2:=HU1.out.cell 2 (v:=.int .i64 d) rfl;have p3:=HU1.out.cell 3 (v:=.string s) rfl;have p4:=HU1.out.cell 4 (v:=.slice o len cap) rfl) | fail)
          all_goals go_meet
          all_goals exact ⟨rfl,by first | exact HU1.out | exact HU1.out.drew | exact HU.out.drew | exact HU.out | exact Uno.drewN HU1.out _ | exact Uno.drewN HU.out _ | fail⟩
         | true=>
          have hgg:g7=true:=by rw[←HG.out];exact decide_eq_true ⟨fun _=>hq,fun h=>absurd rfl h⟩
          subst hgg
          go_wp2_with (first | (go_at_call 92;refine (zic s true HQ.out bs _).mono ?_;rintro e1 w1 ⟨rfl,hb1⟩;have HU1:=zh (HU.out.next hb1);have p0:=HU1.out.cell 0 (v:=.int .i64 2) rfl;have p1:=HU1.out.cell 1 (v:=.int .i64 n) rfl;have p2:=HU1.out.cell 2 (v:=.int .i64 d) rfl;have p3:=HU1.out.cell 3 (v:=.string s) rfl;have p4:=HU1.out.cell 4 (v:=.slice o len cap) rfl) | fail)
          all_goals go_meet
          all_goals exact ⟨rfl,by first | exact HU1.out | exact HU1.out.drew | exact HU.out.drew | exact HU.out | exact Uno.drewN HU1.out _ | exact Uno.drewN HU.out _ | fail⟩
       ·have h22:(k==2)=false:=by simpa using h2
        have h23:(k != 2)=true:=by simpa using h2
        by_cases h3:k=3
        ·subst h3
         have hgg:g7=true:=by rw[←HG.out];exact decide_eq_true ⟨fun h=>absurd h h2,fun _ h=>absurd rfl h⟩
         subst hgg
         go_wp2_with fail
         all_goals go_meet
         all_goals exact ⟨rfl,by first | exact HU.out | exact HU.out.drew | exact Uno.drewN HU.out _ | exact HU.out.next hb1 | fail⟩
        have h33:(k != 3)=true:=by simpa using h3
        cases he:s.toList.isEmpty with
        | false=>
         have hgg:g7=false:=by rw[←HG.out];exact decide_eq_false (by rintro ⟨_,a⟩;rw[ByteArray.toList_eq,a h2 h3] at he;cases he)
         subst hgg
         go_wp2_with fail
         all_goals go_meet
         all_goals exact ⟨rfl,by first | exact HU.out | exact HU.out.drew | exact Uno.drewN HU.out _ | exact HU.out.next hb1 | fail⟩
        | true=>
         have hgg:g7=true:=by rw[←HG.out];exact decide_eq_true ⟨fun h=>absurd h h2,fun _ _=>by rw[←ByteArray.toList_eq];exact List.isEmpty_iff.1 he⟩
         subst hgg
         go_wp2_with fail
         all_goals go_meet
         all_goals exact ⟨rfl,by first | exact HU.out | exact HU.out.drew | exact Uno.drewN HU.out _ | exact HU.out.next hb1 | fail⟩
      case rest=>
       obtain ⟨rfl,hu⟩:=hcut
       clear HU
       have HU:=zh hu
       clear hu
       have p0:=HU.out.cell 0 (v:=.int .i64 k) rfl
       have p1:=HU.out.cell 1 (v:=.int .i64 n) rfl
       have p2:=HU.out.cell 2 (v:=.int .i64 d) rfl
       have p3:=HU.out.cell 3 (v:=.string s) rfl
       have p4:=HU.out.cell 4 (v:=.slice o len cap) rfl
       cases g7 with
       | false=>
        have HF:=zh (HNO.out (by rw[←Bool.not_eq_true,zbJ];rintro ⟨a0,a1,a2,a3,a4,a5,a6,a7,a8,a9⟩;exact absurd ⟨a5,a6⟩ (of_decide_eq_false HG.out)))
        go_wp2_with fail
        all_goals go_ret
        all_goals exact ⟨zan HF.out,HU.out.below⟩
       | true=>
        have HAg7:=zh (of_decide_eq_true HG.out)
        clear HG
        go_wp2_with fail
        go_loopg [5] s.size (fun g i wr=>∃j:Nat,g=s.size-j∧j≤s.size∧i=.int .i64 j∧(∀b∈s.data.toList.take j,Dat.strByte b=true)∧Uno w #[.int .i64 k,.int .i64 n,.int .i64 d,.string s,.slice o len cap] 26 wr)
        case atStart=>exact ⟨0,rfl,by omega,rfl,by simp,HU.out⟩
        case round=>
         obtain ⟨j,rfl,hj,rfl,ha,hu⟩:=hrel
         clear HU p0 p1 p2 p3 p4
         have HU:=zh hu
         have HA:=zh ha
         clear hu ha
         have p0:=HU.out.cell 0 (v:=.int .i64 k) rfl
         have p1:=HU.out.cell 1 (v:=.int .i64 n) rfl
         have p2:=HU.out.cell 2 (v:=.int .i64 d) rfl
         have p3:=HU.out.cell 3 (v:=.string s) rfl
         have p4:=HU.out.cell 4 (v:=.slice o len cap) rfl
         by_cases hjl:j<s.size
         ·have hsl:j<s.data.toList.length:=hjl
          obtain ⟨gb,hgb⟩:∃g,decide (32≤s[j].toNat∧s[j].toNat≤126∧s[j].toNat≠34∧s[j].toNat≠92)=g:=⟨_,rfl⟩
          have HG:=zh hgb
          clear hgb
          go_upto_region 12 with fail
          go_cut [124] from 92 to 124 (fun c wx=>c=.bool (!gb)∧Uno w #[.int .i64 k,.int .i64 n,.int .i64 d,.string s,.slice o len cap] 26 wx)
          case first=>as_aux_lemma=>
           by_cases b0:s[j].toNat<32
           ·have f0:decide ((s[j].toNat:Int)<32)=true:=decide_eq_true (by omega)
            have hgg:gb=false:=by rw[←HG.out];exact decide_eq_false (by rintro ⟨a,b,c,d⟩;omega)
            subst hgg
            go_wp2_with fail
            all_goals go_meet
            all_goals exact ⟨rfl,by first | exact HU.out | exact HU.out.drew | exact Uno.drewN HU.out _ | exact HU.out.next hb1 | fail⟩
           have f0:decide ((s[j].toNat:Int)<32)=false:=decide_eq_false (by omega)
           by_cases b1:126<s[j].toNat
           ·have f1:decide ((126:Int)<(s[j].toNat:Int))=true:=decide_eq_true (by omega)
            have hgg:gb=false:=by rw[←HG.out];exact decide_eq_false (by rintro ⟨a,b,c,d⟩;omega)
            subst hgg
            go_wp2_with fail
            all_goals go_meet
            all_goals exact ⟨rfl,by first | exact HU.out | exact HU.out.drew | exact Uno.drewN HU.out _ | exact HU.out.next hb1 | fail⟩
           have f1:decide ((126:Int)<(s[j].toNat:Int))=false:=decide_eq_false (by omega)
           by_cases b2:s[j].toNat=34
           ·have f2:((s[j].toNat:Int)==34)=true:=by rw[b2];rfl
            have hgg:gb=false:=by rw[←HG.out];exact decide_eq_false (by rintro ⟨a,b,c,d⟩;omega)
            subst hgg
            go_wp2_with fail
            all_goals go_meet
            all_goals exact ⟨rfl,by first | exact HU.out | exact HU.out.drew | exact Uno.drewN HU.out _ | exact HU.out.next hb1 | fail⟩
           have f2:((s[j].toNat:Int)==34)=false:=by rw[beq_eq_false_iff_ne];omega
           by_cases b3:s[j].toNat=92
           ·have f3:((s[j].toNat:Int)==92)=true:=by rw[b3];rfl
            have hgg:gb=false:=by rw[←HG.out];exact decide_eq_false (by rintro ⟨a,b,c,d⟩;omega)
            subst hgg
            go_wp2_with fail
            all_goals go_meet
            all_goals exact ⟨rfl,by first | exact HU.out | exact HU.out.drew | exact Uno.drewN HU.out _ | exact HU.out.next hb1 | fail⟩
           have f3:((s[j].toNat:Int)==92)=false:=by rw[beq_eq_false_iff_ne];omega
           have hgg:gb=true:=by rw[←HG.out];exact decide_eq_true ⟨by omega,by omega,b2,b3⟩
           subst hgg
           go_wp2_with fail
           all_goals go_meet
           all_goals exact ⟨rfl,by first | exact HU.out | exact HU.out.drew | exact Uno.drewN HU.out _ | exact HU.out.next hb1 | fail⟩
          case rest=>
           obtain ⟨rfl,hu⟩:=hcut
           clear HU p0 p1 p2 p3 p4
           have HU:=zh hu
           clear hu
           cases gb with
           | false=>
            have HF:=zh (HNO.out (by rw[←Bool.not_eq_true,zbJ];rintro ⟨a0,a1,a2,a3,a4,a5,a6,a7,a8,a9⟩;exact absurd ((zd4 _).1 (List.all_eq_true.1 a7 _ (List.getElem_mem hsl))) (of_decide_eq_false HG.out)))
            go_wp2_with fail
            all_goals go_ret
            all_goals exact ⟨zan HF.out,HU.out.below⟩
           | true=>
            have HSB:=zh ((zd4 _).2 (of_decide_eq_true HG.out))
            go_wp2_with fail
            go_roundg (s.size-(j+1))
            case measure=>omega
            case rel=>exact ⟨j+1,rfl,by omega,by go_num,zcn HA.out hsl HSB.out,HU.out⟩
         ·obtain rfl:j=s.size:=by omega
          have HAs:=zh (show s.data.toList.all Dat.strByte=true from List.all_eq_true.2 (by have:=HA.out;rwa[List.take_of_length_le (show s.data.toList.length≤s.size from Nat.le_of_eq rfl)] at this))
          clear HA
          obtain ⟨g14,hg14⟩:∃g,decide ((k=6→len=2)∧(k≠6→k≠7→len=0))=g:=⟨_,rfl⟩
          have HG:=zh hg14
          clear hg14
          go_upto_region 14 with fail
          go_cut [149] from 7 (fun c wx=>c=.bool (!g14)∧Uno w #[.int .i64 k,.int .i64 n,.int .i64 d,.string s,.slice o len cap] 26 wx)
          case first=>as_aux_lemma=>
           by_cases h6:k=6
           ·subst h6
            by_cases hl2:len=2
            ·subst hl2
             have hgg:g14=true:=by rw[←HG.out];exact decide_eq_true ⟨fun _=>rfl,fun h=>absurd rfl h⟩
             subst hgg
             go_wp2_with fail
             all_goals go_meet
             all_goals exact ⟨rfl,by first | exact HU.out | exact HU.out.drew | exact Uno.drewN HU.out _ | exact HU.out.next hb1 | fail⟩
            ·have hl3:((len:Int) != 2)=true:=by rw[bne_iff_ne];omega
             have hgg:g14=false:=by rw[←HG.out];exact decide_eq_false (by rintro ⟨a,_⟩;exact hl2 (a rfl))
             subst hgg
             go_wp2_with fail
             all_goals go_meet
             all_goals exact ⟨rfl,by first | exact HU.out | exact HU.out.drew | exact Uno.drewN HU.out _ | exact HU.out.next hb1 | fail⟩
           have h62:(k==6)=false:=by simpa using h6
           have h63:(k != 6)=true:=by simpa using h6
           by_cases h7:k=7
           ·subst h7
            have hgg:g14=true:=by rw[←HG.out];exact decide_eq_true ⟨fun h=>absurd h h6,fun _ h=>absurd rfl h⟩
            subst hgg
            go_wp2_with fail
            all_goals go_meet
            all_goals exact ⟨rfl,by first | exact HU.out | exact HU.out.drew | exact Uno.drewN HU.out _ | exact HU.out.next hb1 | fail⟩
           have h73:(k != 7)=true:=by simpa using h7
           by_cases hl0:len=0
           ·subst hl0
            have hgg:g14=true:=by rw[←HG.out];exact decide_eq_true ⟨fun h=>absurd h h6,fun _ _=>rfl⟩
            subst hgg
            go_wp2_with fail
            all_goals go_meet
            all_goals exact ⟨rfl,by first | exact HU.out | exact HU.out.drew | exact Uno.drewN HU.out _ | exact HU.out.next hb1 | fail⟩
           have hl1:decide ((0:Int)<(len:Int))=true:=decide_eq_true (by omega)
           have hl2:decide (0<len)=true:=decide_eq_true (by omega)
           have hgg:g14=false:=by rw[←HG.out];exact decide_eq_false (by rintro ⟨_,a⟩;exact hl0 (a h6 h7))
           subst hgg
           go_wp2_with fail
           all_goals go_meet
           all_goals exact ⟨rfl,by first | exact HU.out | exact HU.out.drew | exact Uno.drewN HU.out _ | exact HU.out.next hb1 | fail⟩
          case rest=>
           obtain ⟨rfl,hu⟩:=hcut
           clear HU p0 p1 p2 p3 p4
           have HU:=zh hu
           clear hu
           have p0:=HU.out.cell 0 (v:=.int .i64 k) rfl
           have p1:=HU.out.cell 1 (v:=.int .i64 n) rfl
           have p2:=HU.out.cell 2 (v:=.int .i64 d) rfl
           have p3:=HU.out.cell 3 (v:=.string s) rfl
           have p4:=HU.out.cell 4 (v:=.slice o len cap) rfl
           cases g14 with
           | false=>
            have HF:=zh (HNO.out (by rw[←Bool.not_eq_true,zbJ];rintro ⟨a0,a1,a2,a3,a4,a5,a6,a7,a8,a9⟩;rw[←HL.out] at a8 a9;exact absurd ⟨a8,a9⟩ (of_decide_eq_false HG.out)))
            go_wp2_with fail
            all_goals go_ret
            all_goals exact ⟨zan HF.out,HU.out.below⟩
           | true=>
            have HAg14:=zh (of_decide_eq_true HG.out)
            clear HG
            have HQ:=zh (show (l.all fun x=>Dat.right x (deep+1))=r by
             rw[←HR.out,decide_eq_true (by omega:deep≤200),(zbJ k n d s.data.toList l.length).2 ⟨by omega,HAg3.out.1,HAg3.out.2,HAg5.out.1,HAg5.out.2,HAg7.out.1,HAg7.out.2,HAs.out,by rw[←HL.out];exact HAg14.out.1,by rw[←HL.out];exact HAg14.out.2⟩]
             rfl)
            go_wp2_with fail
            go_loopg [6] len (fun g i wr=>∃j:Nat,g=len-j∧j≤len∧i=.int .i64 j∧(∀(q:Nat) (x:Dat),q<j→l[q]?=some x→Dat.right x (deep+1)=true)∧Uno w #[.int .i64 k,.int .i64 n,.int .i64 d,.string s,.slice o len cap] 26 wr)
            case atStart=>exact ⟨0,rfl,by omega,rfl,fun q x h=>absurd h (by omega),HU.out⟩
            case round=>
             obtain ⟨j,rfl,hj,rfl,hq,hu⟩:=hrel
             clear HU p0 p1 p2 p3 p4
             have HU:=zh hu
             have HQ2:=zh hq
             clear hu hq
             have p4:=HU.out.cell 4 (v:=.slice o len cap) rfl
             have hsz:=HU.out.size
             by_cases hjl:j<len
             ·obtain ⟨x,hx⟩:∃x,l[j]?=some x:=⟨_,List.getElem?_eq_getElem (by rw[←HL.out];exact hjl)⟩
              obtain ⟨b1,off1,k1,n1,d1,s1,l1,o1,len1,cap1,ho1,hx1,e0,e1,e2,e3,e4,er⟩:=zay HC.out (HU.out.below.mono HBB.out) hx
              subst ho1 hx1
              have ER:=zh er
              have HX:=zh hx
              have hl1:=zai e0
              have hlb1:=zai p4
              obtain ⟨q,hq⟩:∃q,Dat.right (.mk k1 n1 d1 s1 l1) (deep+1)=q:=⟨_,rfl⟩
              have HQQ:=zh hq
              clear hx er hq
              have hC:Calls prog 54 #[.agg #[.int .i64 k1,.int .i64 n1,.int .i64 d1,.string s1,.slice o1 len1 cap1],.int .i64 ((deep:Int)+1)] wr fun e w'=>e=.returned (.bool q)∧Below wr.heap.size wr w':=by
               have:=HIH.out (.mk k1 n1 d1 s1 l1) (List.mem_of_getElem? HX.out) _ (deep+1) B wr ER.out (by have:=HBB.out;omega) (by omega)
               rw[HQQ.out] at this
               rw[show ((deep:Int)+1)=((deep+1:Nat):Int) by omega]
               exact this
              have HCC:=zh hC
              clear hC
              cases q with
              | true=>
               go_wp2_with (first | (go_at_call 54;refine HCC.out.mono ?_;rintro e2 w2 ⟨rfl,hb2⟩) | fail)
               go_roundg (len-(j+1))
               case measure=>omega
               case rel=>
                refine ⟨j+1,rfl,by omega,by go_num,?_,HU.out.next hb2⟩
                intro p x hp hx
                by_cases hpj:p<j
                ·exact HQ2.out p x hpj hx
                ·obtain rfl:p=j:=by omega
                 obtain rfl:=Option.some.inj (hx.symm.trans HX.out)
                 exact HQQ.out
              | false=>
               have HF:=zh (show false=r by
                rw[←HQ.out,eq_comm,List.all_eq_false]
                exact ⟨_,List.mem_of_getElem? HX.out,by rw[HQQ.out];simp⟩)
               go_wp2_with (first | (go_at_call 54;refine HCC.out.mono ?_;rintro e2 w2 ⟨rfl,hb2⟩) | fail)
               go_ret
               exact ⟨zan HF.out,(HU.out.next hb2).below⟩
             ·obtain rfl:j=len:=by omega
              have HF:=zh (show true=r by
               rw[←HQ.out,eq_comm,List.all_eq_true]
               intro x hx
               obtain ⟨i,hi,he⟩:=List.getElem_of_mem hx
               exact HQ2.out i x (by rw[HL.out];exact hi) (by rw[←he];exact List.getElem?_eq_getElem hi))
              go_wp2_with fail
              go_ret
              exact ⟨zan HF.out,HU.out.below⟩
theorem zkC (x:Dat) (v:Value) (deep B:Nat) (w:World) (r:Bool) (hr:Dat.right x deep=r) (hv:RepD w B x v) (hB:B≤w.heap.size) (hd:deep≤201) :
  Calls prog 54 #[v,.int .i64 deep] w fun e w'=>e=.returned (.bool r)∧Below w.heap.size w w':=by
 rw[←hr];exact zi7 x v deep B w hv hB hd
theorem zkf (x:Dat) (v:Value) (B:Nat) (w:World) (r:Bool) (hr:Dat.right x 0=r) (hv:RepD w B x v) (hB:B≤w.heap.size) :
  Calls prog 31 #[v] w fun e w'=>e=.returned (.bool r)∧Below w.heap.size w w':=by
 obtain ⟨k,n,d,s,l⟩:=x
 obtain ⟨sl,rfl,_⟩:=hv.open
 have HV:=zh hv
 have HR:=zh hr
 clear hv hr
 go_enter func31,ntmps31
 go_wp2_with (first | (go_at_call 54;refine (zkC (.mk k n d s l) _ 0 B _ r HR.out (HV.out.kept (((Below.refl _ _).alloc (Nat.le_refl _) _).mono hB)) (by simp;omega) (by omega)).mono ?_;rintro e' w1 ⟨rfl,hb1⟩) | fail)
 go_ret
 exact ⟨rfl,((Below.refl _ _).alloc (Nat.le_refl _) _).trans (hb1.mono (by simp))⟩
end
end Go.Proofs.YtnbjhmafnigefaaGreatDoor
