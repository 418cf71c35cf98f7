/- .. -/
import Derived.Deep.AppendLies
import Derived.Deep.LoopGhost
import Derived.Deep.Cut
import Derived.Deep.CutRange
import Derived.Deep.DeepCutAuto
import Derived.WalkLawsBesides
import Derived.Defers
import Derived.Recover
import Derived.Laws.Pointers
import Derived.Deep.RegionLaw
import Derived.Test.YtnbjhmafnigefaaGreatDoorSmkA05
open Go.Proofs.Tryz
set_option maxRecDepth 100000
set_option maxHeartbeats 16000000
namespace Go.Proofs.YtnbjhmafnigefaaGreatDoor
section
open Go Go.RowKit
def Lo (K b:Nat):Prop:=b<K
def LoR (K:Nat) (v:Value) (b:Nat):Prop:=b<K∨v.ownBlock=some b
def GrownH (W:World) (K base:Nat) (l:List Dat) (v:Value):Prop:=K≤base∧∃xs,W.ownsRow base 26 5 v l.length xs∧CellsD (hide W (LoR K v)) W.heap.size l xs
theorem GrownH.nil (W:World) {K base:Nat} (h:K≤base):GrownH W K base [] (.slice none 0 0):=⟨h,[],World.ownsRow_nil _ _ _ _,rfl⟩
theorem GrownH.block {W:World} {K base:Nat} {l:List Dat} {v:Value} (h:GrownH W K base l v) {g:Nat} (hg:v.ownBlock=some g):base≤g∧g<W.heap.size:=by
 obtain ⟨_,xs,h1,_⟩:=h
 exact h1.lt g hg
theorem GrownH.low {W:World} {K base:Nat} {l:List Dat} {v:Value} (h:GrownH W K base l v):∀g,v.ownBlock=some g→¬Lo K g:=fun g hg hl=>by
 have:=(h.block hg).1
 have:=h.1
 unfold Lo at hl
 omega
theorem GrownH.turned {T:Nat→Prop} {W W':World} {K base:Nat} {l:List Dat} {v:Value} (h:GrownH W K base l v) (ht:Turned T W W') (hT:∀b,b<W.heap.size→T b→Lo K b):GrownH W' K base l v:=by
 obtain ⟨h0,xs,h1,h2⟩:=h
 have hlow:=GrownH.low ⟨h0,xs,h1,h2⟩
 refine ⟨h0,xs,?_,h2.shown (Shown.turned ht fun b hb hs=>.inl (hT b hb hs)) ht.size⟩
 refine ⟨h1.1,?_⟩
 rcases h1.2 with h' | ⟨g,cap,cur,rfl,k2,k3,k4⟩
 ·exact .inl h'
 ·refine .inr ⟨g,cap,cur,rfl,k2,?_,k4⟩
  have hlt:=(h1.lt g rfl).2
  exact (ht.block g hlt fun hs=>hlow g rfl (hT g hlt hs)).trans k3
theorem GrownH.below {W W':World} {K base:Nat} {l:List Dat} {v:Value} (h:GrownH W K base l v) (hb:Below W.heap.size W W'):GrownH W' K base l v:=
 h.turned (T:=fun _=>False) (Turned.of_below hb) fun _ _ h=>h.elim
theorem GrownH.five {W:World} {K base B:Nat} {l:List Dat} {v:Value} (h:GrownH W K base l v) (hB:B<K) (d0 d1 d2 d3 d4:Value):GrownH (set5 W B d0 d1 d2 d3 d4) K base l v:=
 h.turned (T:=fun b=>b=B) ⟨(zah W B B d0 d1 d2 d3 d4 (Nat.le_refl _)).os,(zah W B B d0 d1 d2 d3 d4 (Nat.le_refl _)).tape,(zah W B B d0 d1 d2 d3 d4 (Nat.le_refl _)).output,by rw[zao];exact Nat.le_refl _,fun b _ hn=>zal _ _ _ _ _ _ _ hn⟩ fun b _ hb=>by subst hb;exact hB
theorem GrownH.rep {W:World} {K base:Nat} {l:List Dat} {v:Value} (h:GrownH W K base l v):RepS (hide W (Lo K)) W.heap.size l v:=by
 obtain ⟨h0,xs,h1,h2⟩:=h
 have hlow:=GrownH.low ⟨h0,xs,h1,h2⟩
 have:=zbW (w:=hide W (Lo K)) (B:=W.heap.size) (zdJ h1 hlow) (h2.shown (Shown.less W fun b _ hb=>.inl hb) (Nat.le_refl _)) (by rw[za3];exact Nat.le_refl _)
 rwa[za3] at this
theorem GrownH.form {W:World} {K base:Nat} {l:List Dat} {v:Value} (h:GrownH W K base l v):∃o len cap,v=.slice o len cap∧len=l.length:=by
 obtain ⟨_,xs,h1,_⟩:=h
 rcases h1.2 with ⟨hv,h0⟩ | ⟨g,cap,cur,hv,_⟩
 ·exact ⟨_,_,_,hv,h0.symm⟩
 ·exact ⟨_,_,_,hv,rfl⟩
theorem ziv {c0 c1 c2 c3 c4:Value} {w:World} {B:Nat} {x:Dat} (h:RepD w B x (.agg #[c0,c1,c2,c3,c4])):∀u∈[c0,c1,c2,c3,c4],u.oneCell'=true:=by
 obtain ⟨k,n,d,s,l⟩:=x
 obtain ⟨sl,he,_,_,_,_,o,len,cap,rfl,_⟩:=h.open
 simp only[Value.agg.injEq,Array.mk.injEq,List.cons.injEq,and_true] at he
 obtain ⟨rfl,rfl,rfl,rfl,rfl⟩:=he
 intro u hu
 simp only[List.mem_cons,List.not_mem_nil,or_false] at hu
 rcases hu with rfl | rfl | rfl | rfl | rfl<;>rfl
theorem zbU {W:World} {ops:Array Oper} {rest:List Oper} {o:Oper} {a:Act} {Q:Exit→Act→World→Prop} (hgd:o.guard=none) (s x:Operand)
  (ho:o.op=.call { callee:=.builtin .append,args:=#[s,x],argTypes:=#[22,22] }) (K base E:Nat) (v:Value) (l:List Dat) (y:Dat) (c0 c1 c2 c3 c4:Value) (hs:a.eval s=v) (hg:GrownH W K base l v)
  (hy:RepD (hide W (Lo E)) W.heap.size y (.agg #[c0,c1,c2,c3,c4])) (hE:K≤E) (hEr:∀g,v.ownBlock=some g→g<E) (hm:l.length≤1000000) (hb:base≤W.heap.size) (hx:a.eval x=.slice (some ⟨W.heap.size,0,none⟩) 1 1)
  (h:∀g cap w',GrownH w' K base (l++[y]) (.slice (some ⟨g,0,none⟩) (l.length+1) cap)→Turned (fun b=>v.ownBlock=some b) W w'→wpList prog ops Q rest (a.put o.dst (.slice (some ⟨g,0,none⟩) (l.length+1) cap)) w') :
  wpList prog ops Q (o::rest) a (W.alloc (.cells #[c0,c1,c2,c3,c4] 26)):=by
 obtain ⟨h0,xs,h1,h2⟩:=hg
 obtain ⟨i0,hi,hz0,hz1,hz2⟩:=info_parts zcw
 refine wpList_append_lies (w:=W.alloc (.cells #[c0,c1,c2,c3,c4] 26)) hgd s x 22 ho base 26 i0 (.agg #[.int .i64 0,.int .i64 0,.int .i64 0,.string ⟨#[]⟩,.slice none 0 0]) 5 64 underlying22 hi hz0 hz1 hz2 rfl (by decide) v l.length xs hs (h1.alloc _) ⟨W.heap.size,0,none⟩ 1 1 [c0,c1,c2,c3,c4] hx rfl (zlr W _ _ _ _ _ _) (ziv hy) (by decide) (by unfold maxLen;omega) (by omega) (by simp;omega) (W.heap.size+1) (by simp) ?_
 intro g cap w' k1 k2 k3 k4
 have hone:Below W.heap.size W (W.alloc (.cells #[c0,c1,c2,c3,c4] 26)):=Below.one _ _
 have ht:Turned (fun b=>v.ownBlock=some b) W w':=(Turned.of_below hone).next (Turned.grown k2 fun b hb=>hb)
 refine h g cap w' ⟨h0,xs++[c0,c1,c2,c3,c4],by simpa using k1,?_⟩ ht
 have hnew:∀b,LoR K (.slice (some ⟨g,0,none⟩) (l.length+1) cap) b→b<W.heap.size→LoR K v b:=by
  intro b hb hlt
  rcases hb with hb | hb
  ·exact .inl hb
  ·simp only[Value.ownBlock,Option.some.injEq] at hb
   subst hb
   rcases k3 with k3 | k3
   ·exact .inr k3
   ·omega
 have sh:Shown W (LoR K v) w' (LoR K (.slice (some ⟨g,0,none⟩) (l.length+1) cap)):=by
  intro c o' u hc hu
  have hlt:=zai hu
  obtain ⟨_,h5⟩:=Shown.turned (S:=LoR K v) ht (fun b _ hb=>.inr hb) c o' u hc hu
  exact ⟨fun hs=>hc (hnew c hs hlt),h5⟩
 refine CellsD.snoc ?_ (h2.shown sh ht.size)
 refine hy.shown ?_ ht.size
 intro c o' u hc hu
 have hlt:=zai hu
 have hc2:¬LoR K v c:=fun hh=>hh.elim (fun hh=>hc (Nat.lt_of_lt_of_le hh hE)) fun hh=>hc (hEr c hh)
 exact sh c o' u hc2 hu
end
section
open Go Go.RowKit
namespace Sy
def kws:List (List UInt8):=[[113,117,111,116,101],[105,102],[108,97,109,98,100,97],[115,101,116,33],[98,101,103,105,110],[108,101,116,114,101,99],[108,101,116,114,101,99,42],[100,101,102,105,110,101],[108,101,116],[108,101,116,42],[99,111,110,100],[99,97,115,101],[97,110,100],[111,114],[119,104,101,110],[117,110,108,101,115,115],[100,111],[101,108,115,101],[61,62]]
def keyword (s:ByteArray):Bool:=kws.contains s.data.toList
end Sy
theorem zhG (s:ByteArray) (w:World):Calls prog 20 #[.string s] w fun e w'=>e=.returned (.bool (Sy.keyword s))∧w'=w:=by
 obtain ⟨T,hT⟩:∃T,s.data.toList=T:=⟨_,rfl⟩
 have hs:s=⟨T.toArray⟩:=by rw[←hT]
 have HK:=zh (show Sy.keyword s=Sy.kws.contains T from by unfold Sy.keyword;rw[hT])
 clear hT
 subst hs
 go_enter func20,ntmps20
 go_wp2_with fail
 all_goals first
  | (exfalso;simp_all;done)
  | (go_ret;refine ⟨congrArg (fun b=>Ending.returned (.bool b)) ?_,rfl⟩;rw[HK.out];simp only[Sy.kws,List.contains_cons,List.contains_nil, *,Bool.or_true,Bool.true_or,Bool.or_false];done)
  | fail
theorem zap (s:ByteArray) (r:Bool) (hr:Sy.keyword s=r) (w:World):Calls prog 20 #[.string s] w fun e w'=>e=.returned (.bool r)∧w'=w:=by
 rw[←hr];exact zhG s w
theorem zjz (k n d:Int) (st s:ByteArray) (o:Option Addr) (len cap:Nat) (w:World) (r:Bool) (hr:(k==2&&st.data.toList==s.data.toList)=r):Calls prog 74 #[.agg #[.int .i64 k,.int .i64 n,.int .i64 d,.string st,.slice o len cap],.string s] w fun e w'=>e=.returned (.bool r)∧Below w.heap.size w w':=by
 obtain ⟨W0,hW0⟩:∃W0,w.alloc (.cells #[.int .i64 k,.int .i64 n,.int .i64 d,.string st,.slice o len cap] 26)=W0:=⟨_,rfl⟩
 have hb:Box5 W0 w.heap.size 26 (.int .i64 k) (.int .i64 n) (.int .i64 d) (.string st) (.slice o len cap):=by rw[←hW0];exact Box5.new w _ _ _ _ _ _
 have HB:=zh (show Below w.heap.size w W0 from by rw[←hW0];exact Below.one _ _)
 obtain ⟨p0,p1,p2,p3,p4⟩:=hb.cells
 have pl:=hb.lt
 have HR:=zh hr
 clear hb hr
 obtain ⟨T,hT⟩:∃T,st.data.toList=T:=⟨_,rfl⟩
 obtain ⟨U,hU⟩:∃U,s.data.toList=U:=⟨_,rfl⟩
 rw[hT,hU] at HR
 obtain rfl:st=⟨T.toArray⟩:=by rw[←hT]
 obtain rfl:s=⟨U.toArray⟩:=by rw[←hU]
 clear hT hU
 cases h1:(k==2)
 ·rw[h1] at HR
  go_enter func74,ntmps74
  go_wp2_with fail
  go_ret
  exact ⟨by rw[←HR.out];rfl,HB.out⟩
 ·rw[h1] at HR
  cases h2:(T==U)
  all_goals
   rw[h2] at HR
   go_enter func74,ntmps74
   go_wp2_with fail
   go_ret
   exact ⟨by rw[←HR.out];rfl,HB.out⟩
theorem zbH (k n d:Int) (st:ByteArray) (o:Option Addr) (len cap:Nat) (w:World) (r:Bool) (hr:(k==2 && !Sy.keyword st)=r):Calls prog 72 #[.agg #[.int .i64 k,.int .i64 n,.int .i64 d,.string st,.slice o len cap]] w fun e w'=>e=.returned (.bool r)∧Below w.heap.size w w':=by
 obtain ⟨W0,hW0⟩:∃W0,w.alloc (.cells #[.int .i64 k,.int .i64 n,.int .i64 d,.string st,.slice o len cap] 26)=W0:=⟨_,rfl⟩
 have hb:Box5 W0 w.heap.size 26 (.int .i64 k) (.int .i64 n) (.int .i64 d) (.string st) (.slice o len cap):=by rw[←hW0];exact Box5.new w _ _ _ _ _ _
 have HB:=zh (show Below w.heap.size w W0 from by rw[←hW0];exact Below.one _ _)
 obtain ⟨p0,p1,p2,p3,p4⟩:=hb.cells
 have pl:=hb.lt
 have HR:=zh hr
 clear hb hr
 cases h1:(k==2)
 ·rw[h1] at HR
  go_enter func72,ntmps72
  go_wp2_with fail
  go_ret
  exact ⟨by rw[←HR.out];rfl,HB.out⟩
 ·rw[h1] at HR
  cases h2:Sy.keyword st
  all_goals
   have HK:=zh (fun W=>zap st _ h2 W)
   rw[h2] at HR
   clear h2
   go_enter func72,ntmps72
   go_wp2_with (first | (go_at_call 20;refine (HK.out _).mono ?_;rintro e' w2 ⟨rfl,rfl⟩))
   go_ret
   exact ⟨by rw[←HR.out];rfl,HB.out⟩
end
section
open Go Go.RowKit
theorem zc5 {w:World} {B b:Nat}:∀(l:List Dat) (off:Nat),RepC w B l b off→∃xs,CellsD w B l xs∧∀j u,xs[j]?=some u→w.cell? ⟨b,off+j,none⟩=some u
 | [],_,_=>⟨[],rfl,fun j u h=>by simp at h⟩
 | x::l,off,h=>by
  rw[RepC] at h
  obtain ⟨⟨c0,c1,c2,c3,c4,h0,h1,h2,h3,h4,h5⟩,h6⟩:=h
  obtain ⟨xs,k1,k2⟩:=zc5 l (off+5) h6
  refine ⟨c0::c1::c2::c3::c4::xs,⟨c0,c1,c2,c3,c4,xs,rfl,h5,k1⟩,fun j u hj=>?_⟩
  match j,hj with
  | 0,hj=>simp at hj;rw[←hj];exact h0
  | 1,hj=>simp at hj;rw[←hj];exact h1
  | 2,hj=>simp at hj;rw[←hj];exact h2
  | 3,hj=>simp at hj;rw[←hj];exact h3
  | 4,hj=>simp at hj;rw[←hj];exact h4
  | j+5,hj=>
   simp only[List.getElem?_cons_succ] at hj
   rw[show off+(j+5)=off+5+j from by omega]
   exact k2 j u hj
theorem zbw {w:World} {B:Nat}:∀{l k:List Dat} {xs ys:List Value},CellsD w B l xs→CellsD w B k ys→CellsD w B (l++k) (xs++ys)
 | [],_,xs,_,h,h'=>by
  obtain rfl:xs=[]:=h
  exact h'
 | x::l,_,xs,_,h,h'=>by
  obtain ⟨c0,c1,c2,c3,c4,xs',rfl,hx,h2⟩:=h
  exact ⟨c0,c1,c2,c3,c4,_,rfl,hx,zbw h2 h'⟩
theorem zam {P:Program} {ops:Array Oper} {rest:List Oper} {o:Oper} {a:Act} {w:World} {Q:Exit→Act→World→Prop} (hw:Region.wanted o (yielded ops a.tmps)=true)
  (h:∀K:Act→World→Prop,(∀a w,wpList P ops Q rest a w→K a w)→o.wp P a w K Q):wpList P ops Q (o::rest) a w:=
 wpList_step fun K hK=>by rw[if_pos hw];exact h K hK
end
section
open Go Go.RowKit
namespace Num
theorem zlk (n d:Int):(mk n d).1.natAbs≤2147483647∧(mk n d).2.1.natAbs≤2147483647:=by
 unfold mk
 split
 ·decide
 split
 ·decide
 ·rename_i h
  split
  ·simp only[Int.natAbs_natCast];omega
  ·simp only[Int.natAbs_neg,Int.natAbs_natCast];omega
theorem zdf (neg:Bool) (l:List UInt8):(parseU neg l).1.natAbs≤2147483647∧(parseU neg l).2.1.natAbs≤2147483647:=by
 unfold parseU
 split
 ·exact zlk _ _
 ·decide
theorem parse_small (l:List UInt8):(parse l).1.natAbs≤2147483647∧(parse l).2.1.natAbs≤2147483647:=by
 unfold parse
 split
 ·exact zdf _ _
 ·exact zdf _ _
end Num
theorem za9 {S:Nat→Prop} {A B C:World} (h:Turned S A B) (hb:Below A.heap.size B C):Turned S A C:=
 ⟨hb.os.trans h.os,hb.tape.trans h.tape,hb.output.trans h.output,Nat.le_trans h.size hb.size,fun b hlt hn=>(hb.block b hlt).trans (h.block b hlt hn)⟩
theorem u8_eq (x y:UInt8):((x.toNat:Int)==(y.toNat:Int))=decide (x=y):=by
 by_cases h:x=y
 ·subst h;simp
 ·have:¬x.toNat=y.toNat:=fun e=>h (UInt8.toNat_inj.1 e)
  rw[decide_eq_false h,beq_eq_false_iff_ne]
  omega
theorem u8_ne (x y:UInt8):((x.toNat:Int) != (y.toNat:Int)) = !decide (x=y):=by rw[bne,u8_eq]
theorem zdT {s:ByteArray} {a:Nat} {t q:List UInt8} (h:Rd.At s a (t++q)):s.extract a (s.size-q.length)=⟨t.toArray⟩:=by
 have h1:=h.1
 rw[List.length_append] at h1
 rw[zbg]
 congr 2
 rw[List.drop_take,h.2]
 have:s.size-q.length-a=t.length:=by omega
 rw[this,List.take_left]
end
section
open Go Go.RowKit
def RB (W:World) (b:Nat) (s:ByteArray) (a:Nat) (d:Int):Prop:=BoxL W b 53 [.string s,.int .i64 a,.int .i64 d]
theorem RB.at {W:World} {b:Nat} {s:ByteArray} {a:Nat} {d:Int} (h:RB W b s a d) (a':Nat):RB (W.setCell ⟨b,1,none⟩ (.int .i64 a')) b s a' d:=BoxL.set h 1 _
theorem RB.bad {W:World} {b:Nat} {s:ByteArray} {a:Nat} {d:Int} (h:RB W b s a d) (d':Int):RB (W.setCell ⟨b,2,none⟩ (.int .i64 d')) b s a d':=BoxL.set h 2 _
theorem RB.five' {W:World} {b B:Nat} {s:ByteArray} {a:Nat} {d:Int} (h:RB W b s a d) (hn:b≠B) (d0 d1 d2 d3 d4:Value):RB (set5 W B d0 d1 d2 d3 d4) b s a d:=(zal _ _ _ _ _ _ _ hn).trans h
theorem zea (W:World) (B:Nat) (d0 d1 d2 d3 d4:Value):Turned (fun c=>c=B) W (set5 W B d0 d1 d2 d3 d4):=⟨(zah W B B d0 d1 d2 d3 d4 (Nat.le_refl _)).os,(zah W B B d0 d1 d2 d3 d4 (Nat.le_refl _)).tape,(zah W B B d0 d1 d2 d3 d4 (Nat.le_refl _)).output,by rw[zao];exact Nat.le_refl _,fun b _ hn=>zal _ _ _ _ _ _ _ hn⟩
theorem zca (b:Nat) (s:ByteArray) (a:Nat) (d p:Int) (w:World) (hp:RB w b s a d) :
  Calls prog 36 #[.pointer (some ⟨b,0,none⟩),.int .i64 p] w fun e w'=>e=.returned (.agg #[.int .i64 4,.int .i64 0,.int .i64 0,.string ⟨#[]⟩,.slice none 0 0])∧RB w' b s a (if d<0 then p else d)∧Turned (fun c=>c=b) w w':=by
 have c2:=hp.cell 2 rfl
 have z2:=hp.free 2
 have hl:=hp.lt
 have HP:=zh hp
 clear hp
 by_cases hd:d<0
 ·have hdd:decide (d<0)=true:=by simpa using hd
  rw[if_pos hd]
  clear hd
  go_enter func36,ntmps36
  go_upto_region 1 with fail
  have hb5:Box5 (w.alloc (.cells #[.int .i64 0,.int .i64 0,.int .i64 0,.string ⟨#[]⟩,.slice none 0 0] 26)) w.heap.size 26 (.int .i64 0) (.int .i64 0) (.int .i64 0) (.string ⟨#[]⟩) (.slice none 0 0):=Box5.new w _ _ _ _ _ _
  have hp1:RB (w.alloc (.cells #[.int .i64 0,.int .i64 0,.int .i64 0,.string ⟨#[]⟩,.slice none 0 0] 26)) b s a d:=BoxL.alloc HP.out _
  have hT1:Turned (fun c=>c=b) w (w.alloc (.cells #[.int .i64 0,.int .i64 0,.int .i64 0,.string ⟨#[]⟩,.slice none 0 0] 26)):=Turned.of_below (Below.one _ _)
  generalize (w.alloc (.cells #[.int .i64 0,.int .i64 0,.int .i64 0,.string ⟨#[]⟩,.slice none 0 0] 26))=W1 at hb5 hp1 hT1 ⊢
  clear c2 z2
  have c2:=hp1.cell 2 rfl
  have z2:=hp1.free 2
  have l1:=hp1.lt
  obtain ⟨d0,d1,d2,d3,d4⟩:=hb5.cells
  have dl:=hb5.lt
  obtain ⟨y0,y1,y2,y3,y4⟩:=hb5.free
  have HB5:=zh hb5
  have HP1:=zh hp1
  have HT1:=zh hT1
  clear hb5 hp1 hT1
  go_wp2_with fail
  have HR5:=zh ((show Box5 (W1.setCell ⟨b,2,none⟩ (.int .i64 p)) w.heap.size 26 _ _ _ _ _ from (zau W1 ⟨b,2,none⟩ (.int .i64 p) (by simp;omega)).trans HB5.out).set (.int .i64 4) (.int .i64 0) (.int .i64 0) (.string ⟨#[]⟩) (.slice none 0 0))
  obtain ⟨r0,r1,r2,r3,r4⟩:=HR5.out.cells
  refine bodyPost_ret (v:=.agg #[.int .i64 4,.int .i64 0,.int .i64 0,.string ⟨#[]⟩,.slice none 0 0]) (by simp[results,results36,go_sem,r0,r1,r2,r3,r4]) rfl ?_
  exact ⟨rfl,(RB.bad HP1.out p).five' (by omega) _ _ _ _ _,(HT1.out.next (Turned.set _ _ _ rfl)).trans (zea (W1.setCell ⟨b,2,none⟩ (.int .i64 p)) w.heap.size _ _ _ _ _) fun c h1 h2=>absurd h1 (by omega)⟩
 ·have hdd:decide (d<0)=false:=by simpa using hd
  rw[if_neg hd]
  clear hd
  go_enter func36,ntmps36
  go_upto_region 1 with fail
  have hb5:Box5 (w.alloc (.cells #[.int .i64 0,.int .i64 0,.int .i64 0,.string ⟨#[]⟩,.slice none 0 0] 26)) w.heap.size 26 (.int .i64 0) (.int .i64 0) (.int .i64 0) (.string ⟨#[]⟩) (.slice none 0 0):=Box5.new w _ _ _ _ _ _
  have hp1:RB (w.alloc (.cells #[.int .i64 0,.int .i64 0,.int .i64 0,.string ⟨#[]⟩,.slice none 0 0] 26)) b s a d:=BoxL.alloc HP.out _
  have hT1:Turned (fun c=>c=b) w (w.alloc (.cells #[.int .i64 0,.int .i64 0,.int .i64 0,.string ⟨#[]⟩,.slice none 0 0] 26)):=Turned.of_below (Below.one _ _)
  generalize (w.alloc (.cells #[.int .i64 0,.int .i64 0,.int .i64 0,.string ⟨#[]⟩,.slice none 0 0] 26))=W1 at hb5 hp1 hT1 ⊢
  clear c2 z2
  have c2:=hp1.cell 2 rfl
  have z2:=hp1.free 2
  have l1:=hp1.lt
  obtain ⟨d0,d1,d2,d3,d4⟩:=hb5.cells
  have dl:=hb5.lt
  obtain ⟨y0,y1,y2,y3,y4⟩:=hb5.free
  have HB5:=zh hb5
  have HP1:=zh hp1
  have HT1:=zh hT1
  clear hb5 hp1 hT1
  go_wp2_with fail
  have HR5:=zh (HB5.out.set (.int .i64 4) (.int .i64 0) (.int .i64 0) (.string ⟨#[]⟩) (.slice none 0 0))
  obtain ⟨r0,r1,r2,r3,r4⟩:=HR5.out.cells
  refine bodyPost_ret (v:=.agg #[.int .i64 4,.int .i64 0,.int .i64 0,.string ⟨#[]⟩,.slice none 0 0]) (by simp[results,results36,go_sem,r0,r1,r2,r3,r4]) rfl ?_
  exact ⟨rfl,HP1.out.five' (by omega) _ _ _ _ _,HT1.out.trans (zea W1 w.heap.size _ _ _ _ _) fun c h1 h2=>absurd h1 (by omega)⟩
end
section
open Go Go.RowKit
theorem ziN {c:UInt8} (h:Dat.strByte c=true):32≤c.toNat∧c.toNat≤126∧c.toNat≠34∧c.toNat≠92:=by
 simp only[Dat.strByte,Bool.and_eq_true,decide_eq_true_eq] at h
 exact ⟨h.1,h.2.1,h.2.2.1,h.2.2.2⟩
theorem zhe {c:UInt8} (h:Dat.strByte c=false) (h34:c≠34):c.toNat<32∨126<c.toNat∨c.toNat=92:=by
 have h3:c.toNat≠34:=fun e=>h34 (UInt8.toNat_inj.1 e)
 apply Decidable.byContradiction
 intro hc
 have:Dat.strByte c=true:=by
  simp only[Dat.strByte,Bool.and_eq_true,decide_eq_true_eq]
  exact ⟨by omega,by omega,h3,by omega⟩
 rw[h] at this;cases this
def Rd.strQ (T Q:List UInt8):Rd.Res Dat:=
 match Q with
 | []=>.bad []
 | b::t=>if b=34 then .ok (.mk 3 0 0 ⟨T.toArray⟩ []) t else .bad (b::t)
theorem Rd.str_eq (r:List UInt8):Rd.str r=Rd.strQ (r.takeWhile Dat.strByte) (r.dropWhile Dat.strByte):=by unfold Rd.str Rd.strQ;rfl
end
section
open Go Go.RowKit
theorem zew {c k:UInt8} (h:c≠k):((c.toNat:Int)==(k.toNat:Int))=false:=by
 simp only[beq_eq_false_iff_ne,ne_eq]
 intro e
 exact h (UInt8.toNat_inj.1 (by omega))
theorem zkG {c:UInt8} (h:c≠32):((c.toNat:Int)==32)=false:=zew h
theorem zgr {c:UInt8} (h:c≠10):((c.toNat:Int)==10)=false:=zew h
theorem zlm {c:UInt8} (h:c≠9):((c.toNat:Int)==9)=false:=zew h
theorem RB.drewN {W:World} {b:Nat} {s:ByteArray} {a:Nat} {d:Int} (h:RB W b s a d) (n:Nat):RB (W.drewN n) b s a d:=BoxL.keep h (Below.selfN _ _)
theorem zb9 (b:Nat) (s:ByteArray) (a:Nat) (d:Int) (r:List UInt8) (w:World) (hp:RB w b s a d) (hat:Rd.At s a r) (hs:s.size≤65536) :
  Calls prog 34 #[.pointer (some ⟨b,0,none⟩)] w fun e w'=>e=.returned (.int .u8 ((Rd.skip false r).headD 0).toNat)∧RB w' b s (s.size-(Rd.skip false r).length) d∧Turned (fun c=>c=b) w w':=by
 have HI:=zh (show ∃a' r',RB w b s a' d∧Rd.At s a' r'∧Rd.skip false r'=Rd.skip false r∧r'.length≤r.length∧Turned (fun c=>c=b) w w from ⟨a,r,hp,hat,rfl,Nat.le_refl _,Turned.refl _ _⟩)
 clear hp hat
 go_enter func34,ntmps34
 go_wp2_with fail
 go_loopg [2] r.length (fun g rv wr=>rv=.int .u8 0∧∃a' r',RB wr b s a' d∧Rd.At s a' r'∧Rd.skip false r'=Rd.skip false r∧r'.length≤g∧Turned (fun c=>c=b) w wr)
 case atStart=>exact ⟨rfl,HI.out⟩
 case round=>
  obtain ⟨rfl,a1,r1,hp,hat,hsk,hle,hT⟩:=hrel
  have HT:=zh hT
  have HP:=zh hp
  have HA:=zh hat
  have HSK:=zh hsk
  have c0:=hp.cell 0 rfl
  have c1:=hp.cell 1 rfl
  have hz1:=hp.free 1
  have hl:=hp.lt
  clear hp hat hT hsk HI
  cases r1 with
  | nil=>
   have ha:a1=s.size:=by have:=HA.out.pos;simpa using this
   subst ha
   have hd:decide ((s.size:Int)<(s.size:Int))=false:=by simp
   go_upto_region 1 with fail
   go_quiet (fail)
   go_wp2_with fail
   go_ret
   rw[←HSK.out]
   exact ⟨rfl,HP.out.drewN _,HT.out.next (Turned.of_below (Below.selfN _ _))⟩
  | cons c t=>
   obtain ⟨hlt,hc⟩:=HA.out.get
   have hd:decide ((a1:Int)<(s.size:Int))=true:=by simp;omega
   by_cases c59:c=59
   ·subst c59
    have HS0:=zh (show Rd.skip true t=Rd.skip false r from by rw[←HSK.out];simp[Rd.skip])
    go_upto_region 1 with fail
    go_quiet (fail)
    go_upto_region 2 with fail
    go_quiet (fail)
    go_wp2_with fail
    go_loopg [] (t.length+1) (fun g wq=>∃a2 q,RB wq b s a2 d∧Rd.At s a2 q∧(q=59::t∨q.length≤t.length∧Rd.skip true q=Rd.skip false r)∧q.length≤g∧Turned (fun c=>c=b) w wq)
    case atStart=>exact ⟨a1,59::t,HP.out.drewN _,HA.out,.inl rfl,by simp,HT.out.next (Turned.of_below (Below.selfN _ _))⟩
    case round=>
     obtain ⟨a2,q,hp2,hat2,hq2,hle2,hT2⟩:=hrel
     have HP2:=zh hp2
     have HA2:=zh hat2
     have HT2:=zh hT2
     have HQ2:=zh hq2
     clear c0 c1 hz1 hl hd hlt hc
     have c0:=hp2.cell 0 rfl
     have c1:=hp2.cell 1 rfl
     have hz1:=hp2.free 1
     have hl:=hp2.lt
     clear hp2 hat2 hq2 hT2
     cases q with
     | nil=>
      have ha:a2=s.size:=by have:=HA2.out.pos;simpa using this
      subst ha
      have hd:decide ((s.size:Int)<(s.size:Int))=false:=by simp
      go_upto_region 4 with fail
      go_quiet (fail)
      go_wp2_with fail
      go_roundg 0
      case measure=>simp only[List.length_cons] at hle;omega
      case rel=>exact ⟨rfl,s.size,[],RB.drewN HP2.out _,HA2.out,by rcases HQ2.out with h | h;exact absurd h (by simp);rw[←h.2];rfl,Nat.le_refl _,HT2.out.next (Turned.of_below (Below.selfN _ _))⟩
     | cons e u=>
      obtain ⟨hlt,hc⟩:=HA2.out.get
      have hd:decide ((a2:Int)<(s.size:Int))=true:=by simp;omega
      by_cases c10:e=10
      ·subst c10
       go_upto_region 4 with fail
       go_quiet (fail)
       go_wp2_with fail
       have hu:(10::u).length≤t.length∧Rd.skip true (10::u)=Rd.skip false r:=by rcases HQ2.out with h | h;exact absurd h (by simp);exact h
       go_roundg (u.length+1)
       case measure=>have:=hu.1;simp only[List.length_cons] at hle this;omega
       case rel=>exact ⟨rfl,a2,10::u,RB.drewN HP2.out _,HA2.out,by rw[←hu.2];simp[Rd.skip],Nat.le_refl _,HT2.out.next (Turned.of_below (Below.selfN _ _))⟩
      ·have e10:((e.toNat:Int) != 10)=true:=by rw[bne,zgr c10];rfl
       have HN:=zh c10
       clear c10
       go_upto_region 4 with fail
       go_quiet (fail)
       go_wp2_with fail
       go_roundg u.length
       case measure=>simp only[List.length_cons] at hle2;omega
       case rel=>exact ⟨a2+1,u,RB.at (RB.drewN HP2.out _) (a2+1),HA2.out.cons,.inr (by
        rcases HQ2.out with h | h
        ·simp only[List.cons.injEq] at h;rw[h.2];exact ⟨Nat.le_refl _,HS0.out⟩
        ·refine ⟨by have:=h.1;simp only[List.length_cons] at this;omega,?_⟩;rw[←h.2];simp only[Rd.skip];rw[if_neg HN.out]),Nat.le_refl _,(HT2.out.next (Turned.of_below (Below.selfN _ _))).next (Turned.set _ _ _ rfl)⟩
   ·have e59:((c.toNat:Int)==59)=false:=zew (k:=59) c59
    by_cases hb:c=32∨c=10∨c=9
    ·have HS2:=zh (show Rd.skip false t=Rd.skip false r from by rw[←HSK.out];simp only[Rd.skip];rw[if_neg c59,if_pos hb])
     have hA2:=HA.out.cons
     have HA2:=zh hA2
     clear hA2 c59
     rcases hb with rfl | rfl | rfl
     all_goals
      go_upto_region 1 with fail
      go_quiet (fail)
      go_upto_region 2 with fail
      go_quiet (fail)
      go_wp2_with fail
      go_roundg t.length
      case measure=>simp only[List.length_cons] at hle;omega
      case rel=>exact ⟨rfl,a1+1,t,RB.at (RB.drewN HP.out _) (a1+1),HA2.out,HS2.out,Nat.le_refl _,(HT.out.next (Turned.of_below (Below.selfN _ _))).next (Turned.set _ _ _ rfl)⟩
    ·have HS2:=zh (show Rd.skip false r=c::t from by rw[←HSK.out];simp only[Rd.skip];rw[if_neg c59,if_neg hb])
     have f1:((c.toNat:Int) != 32)=true:=by rw[bne,zkG (fun h=>hb (.inl h))];rfl
     have f2:((c.toNat:Int) != 10)=true:=by rw[bne,zgr (fun h=>hb (.inr (.inl h)))];rfl
     have f3:((c.toNat:Int) != 9)=true:=by rw[bne,zlm (fun h=>hb (.inr (.inr h)))];rfl
     clear c59 hb
     go_upto_region 1 with fail
     go_quiet (fail)
     go_upto_region 2 with fail
     go_quiet (fail)
     go_wp2_with fail
     go_ret
     rw[HS2.out]
     exact ⟨rfl,by rw[←HA.out.pos];exact HP.out.drewN _,HT.out.next (Turned.of_below (Below.selfN _ _))⟩
end
section
open Go Go.RowKit
namespace Rd
open Dat
def pre (l0:List Dat) (res:Res (List Dat × Dat)):Res (List Dat × Dat):=res.map fun p=>(l0++p.1,p.2)
theorem pre_nil (res:Res (List Dat × Dat)):pre [] res=res:=by cases res<;>rfl
theorem S_nil {p a:Bool} {r:List UInt8} (h:skip false r=[]):S p a r=.bad []:=by rw[S_eq];unfold seqF;rw[h]
theorem S_close {p a:Bool} {r t:List UInt8} (h:skip false r=41::t):S p a r=.ok ([],null) t:=by rw[S_eq];unfold seqF;rw[h];simp only;unfold seqH;rw[if_pos rfl]
theorem zmj {p a:Bool} {r t:List UInt8} {c:UInt8} (h:skip false r=c::t) (h41:c≠41) (hp:¬(c=46∧p=true∧a=true)):S p a r=oneF D (S p true) (c::t):=by rw[S_eq];unfold seqF;rw[h];simp only;unfold seqH;rw[if_neg h41,if_neg hp]
theorem S_point {r t:List UInt8} (h:skip false r=46::t):S true true r=pointF D t:=by rw[S_eq];unfold seqF;rw[h];simp only;unfold seqH;rw[if_neg (by decide),if_pos ⟨rfl,rfl,rfl⟩]
theorem pre_ok {l0:List Dat} {p:Bool} {r q:List UInt8} {x:Dat} (h:D r=.ok x q):pre l0 (oneF D (S p true) r)=pre (l0++[x]) (S p true q):=by
 unfold oneF
 rw[h]
 simp only
 unfold pre
 cases S p true q with
 | ok y q'=>simp[Res.map]
 | bad q'=>rfl
theorem pre_bad {l0:List Dat} {p:Bool} {r q:List UInt8} (h:D r=.bad q):pre l0 (oneF D (S p true) r)=.bad q:=by
 unfold oneF
 rw[h]
 rfl
end Rd
end
section
open Go Go.RowKit
theorem zil (x:Int):(97≤x∧x≤122)∨(48≤x∧x≤57)∨x<48∨(57<x∧x<97)∨122<x:=by omega
def mk10:List UInt8:=[45,43,42,47,60,62,61,33,63,95]
theorem zlJ (q:Nat) (h:q<10):∃hlt:q<(⟨#[45,43,42,47,60,62,61,33,63,95]⟩:ByteArray).size,(⟨#[45,43,42,47,60,62,61,33,63,95]⟩:ByteArray)[q]=mk10[q]'h:=by
 refine ⟨h,?_⟩
 match q,h with
 | 0,_ | 1,_ | 2,_ | 3,_ | 4,_ | 5,_ | 6,_ | 7,_ | 8,_ | 9,_=>rfl
theorem zlt:∀c:Fin 256,mk10.contains (UInt8.ofNat c.val)=false→Rd.mark (UInt8.ofNat c.val)=((decide (97≤c.val)&&decide (c.val≤122)) || (decide (48≤c.val)&&decide (c.val≤57))):=by decide +kernel
theorem zlZ:∀q:Fin 10,Rd.mark (mk10[q.val]'q.isLt)=true:=by decide +kernel
theorem zd3 (c:UInt8) (w:World):Calls prog 64 #[.int .u8 c.toNat] w fun e w'=>e=.returned (.bool (Rd.mark c))∧w'=w:=by
 go_enter func64,ntmps64
 go_wp2_with fail
 go_loopg [2,4] 10 (fun g ok k wr=>∃q:Nat,g=10-q∧q≤10∧k=.int .i64 q∧ok=.bool false∧Hid ((mk10.take q).contains c=false)∧wr=w)
 case atStart=>exact ⟨0,rfl,by omega,rfl,rfl,zh rfl,rfl⟩
 case round=>
  obtain ⟨q,rfl,hq,rfl,rfl,HM,rfl⟩:=hrel
  by_cases h10:q<10
  ·obtain ⟨hlt,hg⟩:=zlJ q h10
   have hd:decide ((q:Int)<10)=true:=by simp;omega
   obtain ⟨m,hm⟩:∃m,mk10[q]=m:=⟨_,rfl⟩
   rw[hm] at hg
   by_cases hc:c=m
   ·have he:((c.toNat:Int)==(m.toNat:Int))=true:=by rw[hc];simp
    have HR:=zh (show Rd.mark c=true from by rw[hc,←hm];exact zlZ ⟨q,h10⟩)
    clear hc hm
    go_wp2_with fail
    go_ret
    exact ⟨by rw[HR.out];rfl,rfl⟩
   ·have he:((c.toNat:Int)==(m.toNat:Int))=false:=zew hc
    have HC:=zh (show (mk10.take (q+1)).contains c=false from by
     rw[←List.take_append_getElem h10,List.contains_eq_any_beq,List.any_append,←List.contains_eq_any_beq,HM.out,hm]
     simpa using hc)
    clear hc hm
    go_wp2_with fail
    go_roundg (10-(q+1))
    case measure=>omega
    case rel=>exact ⟨q+1,rfl,by omega,rfl,rfl,HC.out,rfl⟩
  ·obtain rfl:q=10:=by omega
   have hlt:=c.toNat_lt
   have hall:=zlt ⟨c.toNat,hlt⟩
   rw[show UInt8.ofNat (⟨c.toNat,hlt⟩:Fin 256).val=c from UInt8.ofNat_toNat] at hall
   have HR:=zh (show Rd.mark c=((decide (97≤c.toNat)&&decide (c.toNat≤122)) || (decide (48≤c.toNat)&&decide (c.toNat≤57))) from hall HM.out)
   clear hall
   obtain ⟨n,hn⟩:∃n,c.toNat=n:=⟨_,rfl⟩
   rw[hn] at HR
   rw[hn]
   clear hn hlt
   rcases zil (n:Int) with ⟨h1,h2⟩ | ⟨h1,h2⟩ | h1 | ⟨h1,h2⟩ | h1
   all_goals
    go_wp2_with fail
    go_ret
    refine ⟨?_,rfl⟩
    rw[HR.out]
    by_cases a1:97≤n<;>by_cases a2:n≤122<;>by_cases a3:48≤n<;>by_cases a4:n≤57<;>first | (exfalso;omega) | (simp[a1,a2,a3,a4,show (n:Int)≤57↔n≤57 from by omega,show (n:Int)≤122↔n≤122 from by omega];done) | fail
end
section
open Go Go.RowKit
namespace Rd
open Dat
end Rd
theorem zfy {W W':World} {b K:Nat} {x:Dat} {v:Value} (h:RepD (hide W (Lo K)) W.heap.size x v) (ht:Turned (fun c=>c=b) W W') (hb:b<K):RepD (hide W' (Lo K)) W'.heap.size x v:=
 h.shown (Shown.turned ht fun q _ hq=>by subst hq;exact hb) ht.size
end
section
open Go Go.RowKit
def RDat (b:Nat) (s:ByteArray) (res:Rd.Res Dat) (w:World) (e:Ending) (w':World):Prop:=
 match res with
 | .ok x q=>∃v,e=.returned v∧RepD (hide w' (Lo w.heap.size)) w'.heap.size x v∧RB w' b s (s.size-q.length) (-1)∧Turned (fun c=>c=b) w w'
 | .bad q=>∃v x a',e=.returned v∧RepD (hide w' (Lo w.heap.size)) w'.heap.size x v∧RB w' b s a' ((s.size-q.length:Nat):Int)∧Turned (fun c=>c=b) w w'
theorem zbS {b:Nat} {s:ByteArray} {q:List UInt8} {w wr w2:World} (k n d:Int) (S:ByteArray) (hT:Turned (fun c=>c=b) w wr) (hB:Below wr.heap.size wr w2) (hP:RB wr b s (s.size-q.length) (-1)) (hne:w.heap.size≠b)
  (hk:-9223372036854775808≤k∧k≤9223372036854775807) (hn:-9223372036854775808≤n∧n≤9223372036854775807) (hd:-9223372036854775808≤d∧d≤9223372036854775807) (hs:S.size≤140737488351232) :
  RDat b s (.ok (.mk k n d S []) q) w (.returned (.agg #[.int .i64 k,.int .i64 n,.int .i64 d,.string S,.slice none 0 0])) (set5 w2 w.heap.size (.int .i64 k) (.int .i64 n) (.int .i64 d) (.string S) (.slice none 0 0)):=by
 refine ⟨_,rfl,RepD.shut hk hn hd hs ⟨none,0,0,rfl,rfl,by omega,by omega,rfl,rfl⟩,?_,za9 (hT.next (Turned.of_below hB)) (zah _ _ _ _ _ _ _ _ (Nat.le_refl _))⟩
 exact (zal _ _ _ _ _ _ _ (Ne.symm hne)).trans (BoxL.keep hP hB)
theorem zce {b:Nat} {s:ByteArray} {q:List UInt8} {w w2:World} {a':Nat} (hT:Turned (fun c=>c=b) w w2) (hP:RB w2 b s a' ((s.size-q.length:Nat):Int)) (hne:w.heap.size≠b) :
  RDat b s (.bad q) w (.returned (.agg #[.int .i64 4,.int .i64 0,.int .i64 0,.string ⟨#[]⟩,.slice none 0 0])) (set5 w2 w.heap.size (.int .i64 4) (.int .i64 0) (.int .i64 0) (.string ⟨#[]⟩) (.slice none 0 0)):=by
 refine ⟨_,.mk 4 0 0 ⟨#[]⟩ [],a',rfl,RepD.shut (by omega) (by omega) (by omega) (by decide) ⟨none,0,0,rfl,rfl,by omega,by omega,rfl,rfl⟩,?_,za9 hT (zah _ _ _ _ _ _ _ _ (Nat.le_refl _))⟩
 exact (zal _ _ _ _ _ _ _ (Ne.symm hne)).trans hP
theorem zej (c:UInt8) (k:Bool) (hk:Rd.mark c=k) (w:World) (n:Nat):Calls prog 64 #[.int .u8 c.toNat] (w.drewN n) fun e w'=>e=.returned (.bool k)∧∃m,w'=w.drewN m:=
 (zd3 c (w.drewN n)).mono fun _ _ h=>⟨by rw[h.1,hk],n,h.2⟩
theorem zjg (b:Nat) (s:ByteArray) (a:Nat) (r:List UInt8) (w:World) (hp:RB w b s a (-1)) (hat:Rd.At s a r) (hs:s.size≤65536) :
  Calls prog 65 #[.pointer (some ⟨b,0,none⟩)] w (RDat b s (Rd.word r) w):=by
 obtain ⟨T,hT⟩:∃T,r.takeWhile Rd.mark=T:=⟨_,rfl⟩
 obtain ⟨Q,hQ⟩:∃Q,r.dropWhile Rd.mark=Q:=⟨_,rfl⟩
 obtain ⟨P,hP⟩:∃P,Num.parse T=P:=⟨_,rfl⟩
 obtain ⟨n,d,z⟩:=P
 have hsm:(n.natAbs≤2147483647)∧(d.natAbs≤2147483647):=by have:=Num.parse_small T;rw[hP] at this;exact this
 have htq:r=T++Q:=by rw[←hT,←hQ];exact (List.takeWhile_append_dropWhile).symm
 have HR:=zh (show Rd.word r=if z then .ok (.mk 0 n d Dat.emptyB []) Q else if 40<T.length then .bad r else .ok (.mk 2 0 0 ⟨T.toArray⟩ []) Q from by unfold Rd.word;rw[hT,hQ,hP])
 have hlT:T.length≤s.size:=by have:=hat.1;rw[htq,List.length_append] at this;omega
 have HX:=zh (show s.extract a (s.size-Q.length)=⟨T.toArray⟩ from zdT (htq ▸ hat))
 have HPA:=zh (fun W=>zge ⟨T.toArray⟩ n d z hP (by simp[ByteArray.size];omega) W)
 have HQ:=zh hQ
 have HPP:=zh hP
 have HA:=zh hat
 have hal:a≤s.size:=by have:=hat.1;omega
 have hab:a+Q.length≤s.size:=by have:=hat.1;rw[htq,List.length_append] at this;omega
 have HP0:=zh hp
 have hb:=hp.lt
 clear hT hQ hP htq hp
 obtain ⟨W0,hW0⟩:∃W0,w.alloc (.cells #[.int .i64 0,.int .i64 0,.int .i64 0,.string ⟨#[]⟩,.slice none 0 0] 26)=W0:=⟨_,rfl⟩
 have HW0:=zh hW0
 have HB5:=zh (show Box5 W0 w.heap.size 26 (.int .i64 0) (.int .i64 0) (.int .i64 0) (.string ⟨#[]⟩) (.slice none 0 0) from by rw[←hW0];exact Box5.new w _ _ _ _ _ _)
 have HP1:=zh (show RB W0 b s a (-1) from by rw[←hW0];exact BoxL.alloc HP0.out _)
 have HT0:=zh (show Turned (fun c=>c=b) w W0 from by rw[←hW0];exact Turned.of_below (Below.one _ _))
 have c1:=HP1.out.cell 1 rfl
 have hl1:=HP1.out.lt
 clear hW0
 go_enter func65,ntmps65
 go_upto_region 1 with fail
 rw[HW0.out]
 go_wp2_with fail
 go_loopg [] r.length (fun g wr=>∃a' r',RB wr b s a' (-1)∧Rd.At s a' r'∧r'.dropWhile Rd.mark=Q∧r'.length≤g∧Turned (fun c=>c=b) W0 wr)
 case atStart=>exact ⟨a,r,HP1.out,HA.out,HQ.out,Nat.le_refl _,Turned.refl _ _⟩
 case round=>
  obtain ⟨a1,r1,hp1,hat1,hq1,hle,hT⟩:=hrel
  have c0:=hp1.cell 0 rfl
  have d1:=hp1.cell 1 rfl
  have z1:=hp1.free 1
  have dl:=hp1.lt
  have HP2:=zh hp1
  have HT:=zh hT
  have hla:=hat1.1
  by_cases hin:∃c t,r1=c::t∧Rd.mark c=true
  ·obtain ⟨c,t,rfl,hc⟩:=hin
   obtain ⟨hlt,hget⟩:=hat1.get
   have HI:=zh (fun n=>zej c true hc wr n)
   have HN:=zh (show Rd.At s (a1+1) t∧t.dropWhile Rd.mark=Q from ⟨hat1.cons,by rw[←hq1,List.dropWhile_cons_of_pos hc]⟩)
   have hlt3:decide (a1<s.size)=true:=by simp;omega
   simp only[List.length_cons] at hle hla
   clear hp1 hat1 hq1 hT
   go_wp2_with fail
   go_quiet ((go_at_call 64;exact HI.out _))
   have HADD:=zh (show ((a1:Int)+1)=((a1+1:Nat):Int) from by omega)
   go_wp2_with fail
   rw[HADD.out]
   go_roundg t.length
   case measure=>omega
   case rel=>exact ⟨a1+1,t,RB.at (BoxL.keep HP2.out (Below.selfN _ _)) _,HN.out.1,HN.out.2,Nat.le_refl _,(HT.out.next (Turned.of_below (Below.selfN _ _))).next (Turned.set _ _ _ rfl)⟩
  ·have hrQ:r1=Q:=by
    rw[←hq1]
    cases r1 with
    | nil=>rfl
    | cons c t=>rw[List.dropWhile_cons_of_neg (fun h=>hin ⟨c,t,rfl,h⟩)]
   have ha1:a1=s.size-Q.length:=by rw[←hrQ];exact hat1.pos
   have HT1:=zh (HT0.out.next hT)
   have hne:w.heap.size≠b:=by omega
   have HBX:=zh (show Box5 wr w.heap.size 26 (.int .i64 0) (.int .i64 0) (.int .i64 0) (.string ⟨#[]⟩) (.slice none 0 0) from (hT.block _ HB5.out.lt hne).trans HB5.out)
   have HPE:=zh (show RB wr b s (s.size-Q.length) (-1) from by rw[←ha1];exact hp1)
   have hX:s.extract a a1=⟨T.toArray⟩:=by rw[ha1];exact HX.out
   have ha2:a≤a1:=by omega
   have ha3:a1≤s.size:=by omega
   have hexit:r1=[]∨∃c t,r1=c::t∧Rd.mark c=false:=by
    cases r1 with
    | nil=>exact .inl rfl
    | cons c t=>
     refine .inr ⟨c,t,rfl,?_⟩
     cases hc:Rd.mark c with
     | false=>rfl
     | true=>exact (hin ⟨c,t,rfl,hc⟩).elim
   have hat2:=hat1
   clear hin hrQ hq1 hT hp1 ha1 hat1
   rcases hexit with h | ⟨c,t,h,hc⟩
   case' inl=>
    subst h
    have hlt3:decide (a1<s.size)=false:=by simp at hla ⊢;omega
    clear hat2 hle hla
    go_wp2_with fail
    go_quiet (fail)
    go_wp2_with fail
    go_quiet (fail)
   case' inr=>
    subst h
    obtain ⟨hlt,hget⟩:=hat2.get
    have HI:=zh (fun n=>zej c false hc wr n)
    have hlt3:decide (a1<s.size)=true:=by simp;omega
    clear hat2 hle hla hc
    go_wp2_with fail
    go_quiet ((go_at_call 64;exact HI.out _))
    go_wp2_with fail
    go_quiet (fail)
   all_goals
    have hlt5:(decide (40<T.length)=true∧decide ((40:Int)<(T.length:Int))=true)∨(decide (40<T.length)=false∧decide ((40:Int)<(T.length:Int))=false):=by
     by_cases h:40<T.length
     ·exact .inl ⟨by simp[h],by simp;omega⟩
     ·exact .inr ⟨by simp[h],by simp;omega⟩
    cases z
    case' true=>
     go_wp2_with (first | (go_at_call 96;go_loud (refine (HPA.out _).mono ?_;rintro e' w2 ⟨rfl,hb2⟩;have hbx:Box5 w2 w.heap.size 26 (.int .i64 0) (.int .i64 0) (.int .i64 0) (.string ⟨#[]⟩) (.slice none 0 0):=(hb2.block _ HBX.out.lt).trans HBX.out;have HB2:=zh (show Below wr.heap.size wr w2 from Below.next (Below.selfN wr _) hb2);obtain ⟨q0,q1,q2,q3,q4⟩:=hbx.cells;obtain ⟨z0,z2,z3,z4,z5⟩:=hbx.free;have hgl:=hbx.lt;have HBX2:=zh hbx;clear hb2 hbx)))
     have HR5:=zh (HBX2.out.set (.int .i64 0) (.int .i64 n) (.int .i64 d) (.string ⟨#[]⟩) (.slice none 0 0))
     obtain ⟨r0,r1,r2,r3,r4⟩:=HR5.out.cells
     refine bodyPost_ret (v:=.agg #[.int .i64 0,.int .i64 n,.int .i64 d,.string ⟨#[]⟩,.slice none 0 0]) (by simp[results,results65,go_sem,r0,r1,r2,r3,r4]) rfl ?_
     rw[HR.out,if_pos trivial]
     exact zbS 0 n d ⟨#[]⟩ HT1.out HB2.out HPE.out hne (by omega) (by omega) (by omega) (by decide)
    case' false=>
     rcases hlt5 with ⟨h5,h6⟩ | ⟨h5,h6⟩
     ·go_wp2_with (first | (go_at_call 96;go_loud (refine (HPA.out _).mono ?_;rintro e' w2 ⟨rfl,hb2⟩;have hbx:Box5 w2 w.heap.size 26 (.int .i64 0) (.int .i64 0) (.int .i64 0) (.string ⟨#[]⟩) (.slice none 0 0):=(hb2.block _ HBX.out.lt).trans HBX.out;have HB2:=zh (show Below wr.heap.size wr w2 from Below.next (Below.selfN wr _) hb2);obtain ⟨q0,q1,q2,q3,q4⟩:=hbx.cells;obtain ⟨z0,z2,z3,z4,z5⟩:=hbx.free;have hgl:=hbx.lt;have HBX2:=zh hbx;clear hb2 hbx)) | (go_at_call 36;refine (zca b s (s.size-Q.length) (-1) a _ (BoxL.keep HPE.out HB2.out)).mono ?_;rintro e' w3 ⟨rfl,hrb,ht3⟩;have HRB:=zh hrb;have hbx3:Box5 w3 w.heap.size 26 (.int .i64 0) (.int .i64 0) (.int .i64 0) (.string ⟨#[]⟩) (.slice none 0 0):=(ht3.block _ HBX2.out.lt hne).trans HBX2.out;have HT3:=zh ht3;clear q0 q1 q2 q3 q4 z0 z2 z3 z4 z5 hgl;obtain ⟨q0,q1,q2,q3,q4⟩:=hbx3.cells;obtain ⟨z0,z2,z3,z4,z5⟩:=hbx3.free;have hgl:=hbx3.lt;have HBX3:=zh hbx3;clear hrb ht3 hbx3))
      have HR5:=zh (HBX3.out.set (.int .i64 4) (.int .i64 0) (.int .i64 0) (.string ⟨#[]⟩) (.slice none 0 0))
      obtain ⟨r0,r1,r2,r3,r4⟩:=HR5.out.cells
      refine bodyPost_ret (v:=.agg #[.int .i64 4,.int .i64 0,.int .i64 0,.string ⟨#[]⟩,.slice none 0 0]) (by simp[results,results65,go_sem,r0,r1,r2,r3,r4]) rfl ?_
      rw[HR.out,if_neg (by decide),if_pos (by simpa using h5)]
      exact zce ((HT1.out.next (Turned.of_below HB2.out)).next HT3.out) (by have:=HRB.out;rw[if_pos (by decide),HA.out.pos] at this;exact this) hne
     ·go_wp2_with (first | (go_at_call 96;go_loud (refine (HPA.out _).mono ?_;rintro e' w2 ⟨rfl,hb2⟩;have hbx:Box5 w2 w.heap.size 26 (.int .i64 0) (.int .i64 0) (.int .i64 0) (.string ⟨#[]⟩) (.slice none 0 0):=(hb2.block _ HBX.out.lt).trans HBX.out;have HB2:=zh (show Below wr.heap.size wr w2 from Below.next (Below.selfN wr _) hb2);obtain ⟨q0,q1,q2,q3,q4⟩:=hbx.cells;obtain ⟨z0,z2,z3,z4,z5⟩:=hbx.free;have hgl:=hbx.lt;have HBX2:=zh hbx;clear hb2 hbx)))
      have HR5:=zh (HBX2.out.set (.int .i64 2) (.int .i64 0) (.int .i64 0) (.string ⟨T.toArray⟩) (.slice none 0 0))
      obtain ⟨r0,r1,r2,r3,r4⟩:=HR5.out.cells
      refine bodyPost_ret (v:=.agg #[.int .i64 2,.int .i64 0,.int .i64 0,.string ⟨T.toArray⟩,.slice none 0 0]) (by simp[results,results65,go_sem,r0,r1,r2,r3,r4]) rfl ?_
      rw[HR.out,if_neg (by decide),if_neg (by simpa using h5)]
      exact zbS 2 0 0 ⟨T.toArray⟩ HT1.out HB2.out HPE.out hne (by omega) (by omega) (by omega) (by simp[ByteArray.size];omega)
end
section
open Go Go.RowKit
theorem zlu {W:World} {S:Nat→Prop} {x y:Dat} {a0 a1 a2 a3 a4 b0 b1 b2 b3 b4:Value} (hS:∀b,S b→b<W.heap.size) (hx:RepD (hide W S) W.heap.size x (.agg #[a0,a1,a2,a3,a4])) (hy:RepD (hide W S) W.heap.size y (.agg #[b0,b1,b2,b3,b4])) (t:TypeId) :
  RepS (hide (W.alloc (.cells #[a0,a1,a2,a3,a4,b0,b1,b2,b3,b4] t)) S) (W.alloc (.cells #[a0,a1,a2,a3,a4,b0,b1,b2,b3,b4] t)).heap.size [x,y] (.slice (some ⟨W.heap.size,0,none⟩) 2 2):=by
 have hk:Shown W S (W.alloc (.cells #[a0,a1,a2,a3,a4,b0,b1,b2,b3,b4] t)) S:=Shown.below (Below.one _ _)
 have hn:∀i v,#[a0,a1,a2,a3,a4,b0,b1,b2,b3,b4][i]?=some v→(hide (W.alloc (.cells #[a0,a1,a2,a3,a4,b0,b1,b2,b3,b4] t)) S).cell? ⟨W.heap.size,i,none⟩=some v:=fun i v h=>by
  rw[zaV (fun e=>by have:=hS _ e;omega),World.cell?_alloc_at _ _ _ _ rfl];exact h
 refine ⟨some ⟨W.heap.size,0,none⟩,2,2,rfl,rfl,by omega,by omega,fun _=>⟨rfl,by simp⟩,?_⟩
 exact RepC.two (hn 0 _ rfl) (hn 1 _ rfl) (hn 2 _ rfl) (hn 3 _ rfl) (hn 4 _ rfl) (hn 5 _ rfl) (hn 6 _ rfl) (hn 7 _ rfl) (hn 8 _ rfl) (hn 9 _ rfl) (hx.shown hk (by simp)) (hy.shown hk (by simp))
end
section
open Go Go.RowKit
theorem zdP {b k:Nat} {s:ByteArray} {a:Nat} {d:Int} {wr:World} {t:TypeId} {c0 c1 c2 c3 c4:Value} (n:Nat) (hp:RB wr b s a d) (hb:Box5 wr k t c0 c1 c2 c3 c4) (hne:k≠b) (p:Int) :
  Calls prog 36 #[.pointer (some ⟨b,0,none⟩),.int .i64 p] (wr.drewN n) fun e w'=>e=.returned (.agg #[.int .i64 4,.int .i64 0,.int .i64 0,.string ⟨#[]⟩,.slice none 0 0])∧RB w' b s a (if d<0 then p else d)∧Turned (fun c=>c=b) wr w'∧Box5 w' k t c0 c1 c2 c3 c4:=
 (zca b s a d p _ (RB.drewN hp n)).mono fun _ w' h=>by
  have ht:=(Turned.of_below (S:=fun c=>c=b) (Below.selfN wr n)).next h.2.2
  exact ⟨h.1,h.2.1,ht,(ht.block _ hb.lt hne).trans hb⟩
theorem zkT (b:Nat) (s:ByteArray) (a:Nat) (r:List UInt8) (w:World) (hp:RB w b s a (-1)) (hat0:Rd.At s a (34::r)) (hs:s.size≤65536) :
  Calls prog 66 #[.pointer (some ⟨b,0,none⟩)] w (RDat b s (Rd.str r) w):=by
 obtain ⟨T,hT⟩:∃T,r.takeWhile Dat.strByte=T:=⟨_,rfl⟩
 obtain ⟨Q,hQ⟩:∃Q,r.dropWhile Dat.strByte=Q:=⟨_,rfl⟩
 have htq:r=T++Q:=by rw[←hT,←hQ];exact (List.takeWhile_append_dropWhile).symm
 have hat:=hat0.cons
 have HR:=zh (show Rd.str r=Rd.strQ T Q from by rw[Rd.str_eq,hT,hQ])
 have hlT:T.length≤s.size:=by have:=hat.1;rw[htq,List.length_append] at this;omega
 have HX:=zh (show s.extract (a+1) (s.size-Q.length)=⟨T.toArray⟩ from zdT (htq ▸ hat))
 have HQ:=zh hQ
 have HA:=zh hat
 have hal:a<s.size:=by have:=hat0.1;simp only[List.length_cons] at this;omega
 have hab:a+1+Q.length≤s.size:=by have:=hat.1;rw[htq,List.length_append] at this;omega
 have HP0:=zh hp
 have hb:=hp.lt
 have HADD:=zh (show ((a:Int)+1)=((a+1:Nat):Int) from by omega)
 clear hT hQ htq hp hat hat0
 obtain ⟨W0,hW0⟩:∃W0,w.alloc (.cells #[.int .i64 0,.int .i64 0,.int .i64 0,.string ⟨#[]⟩,.slice none 0 0] 26)=W0:=⟨_,rfl⟩
 have HW0:=zh hW0
 have HB5:=zh (show Box5 W0 w.heap.size 26 (.int .i64 0) (.int .i64 0) (.int .i64 0) (.string ⟨#[]⟩) (.slice none 0 0) from by rw[←hW0];exact Box5.new w _ _ _ _ _ _)
 have HP1:=zh (show RB W0 b s a (-1) from by rw[←hW0];exact BoxL.alloc HP0.out _)
 have HT0:=zh (show Turned (fun c=>c=b) w W0 from by rw[←hW0];exact Turned.of_below (Below.one _ _))
 have c1:=HP1.out.cell 1 rfl
 have y1:=HP1.out.free 1
 have hl1:=HP1.out.lt
 clear hW0
 go_enter func66,ntmps66
 go_upto_region 1 with fail
 rw[HW0.out]
 go_upto_region 2 with fail
 rw[HADD.out]
 have hP2:RB (W0.setCell ⟨b,1,none⟩ (.int .i64 ((a+1:Nat):Int))) b s (a+1) (-1):=RB.at HP1.out _
 have hT2:Turned (fun c=>c=b) W0 (W0.setCell ⟨b,1,none⟩ (.int .i64 ((a+1:Nat):Int))):=Turned.set _ _ _ rfl
 generalize W0.setCell ⟨b,1,none⟩ (.int .i64 ((a+1:Nat):Int))=W1 at hP2 hT2 ⊢
 have HP2:=zh hP2
 have HT1:=zh (HT0.out.next hT2)
 have hne:w.heap.size≠b:=by omega
 have HB6:=zh (show Box5 W1 w.heap.size 26 (.int .i64 0) (.int .i64 0) (.int .i64 0) (.string ⟨#[]⟩) (.slice none 0 0) from (hT2.block _ HB5.out.lt hne).trans HB5.out)
 have d1:=hP2.cell 1 rfl
 have e1:=hP2.lt
 clear hP2 hT2 c1 y1 hl1
 go_wp2_with fail
 clear d1 e1
 go_loopg [] r.length (fun g wr=>∃a' r',RB wr b s a' (-1)∧Rd.At s a' r'∧r'.dropWhile Dat.strByte=Q∧r'.length≤g∧Turned (fun c=>c=b) W1 wr)
 case atStart=>exact ⟨a+1,r,HP2.out,HA.out,HQ.out,Nat.le_refl _,Turned.refl _ _⟩
 case round=>
  obtain ⟨a1,r1,hp1,hat1,hq1,hle,hT⟩:=hrel
  have c0:=hp1.cell 0 rfl
  have d1:=hp1.cell 1 rfl
  have z1:=hp1.free 1
  have dl:=hp1.lt
  have HP3:=zh hp1
  have HT:=zh hT
  have hla:=hat1.1
  by_cases hin:∃c t,r1=c::t∧Dat.strByte c=true
  ·obtain ⟨c,t,rfl,hc⟩:=hin
   obtain ⟨hlt,hget⟩:=hat1.get
   obtain ⟨k1,k2,k3,k4⟩:=ziN hc
   have m1:((c.toNat:Int) != 34)=true:=by simp;omega
   have m2:decide (c.toNat<32)=false:=by simp;omega
   have m2':decide ((c.toNat:Int)<32)=false:=by simp;omega
   have m3:decide (126<c.toNat)=false:=by simp;omega
   have m3':decide ((126:Int)<(c.toNat:Int))=false:=by simp;omega
   have m4:((c.toNat:Int)==92)=false:=by simp;omega
   have HN:=zh (show Rd.At s (a1+1) t∧t.dropWhile Dat.strByte=Q from ⟨hat1.cons,by rw[←hq1,List.dropWhile_cons_of_pos hc]⟩)
   have hlt3:decide (a1<s.size)=true:=by simp;omega
   have HADD:=zh (show ((a1:Int)+1)=((a1+1:Nat):Int) from by omega)
   simp only[List.length_cons] at hle hla
   clear hp1 hat1 hq1 hT
   go_wp2_with fail
   go_quiet (fail)
   go_wp2_with fail
   go_quiet (fail)
   go_wp2_with fail
   rw[HADD.out]
   go_roundg t.length
   case measure=>omega
   case rel=>exact ⟨a1+1,t,RB.at (BoxL.keep HP3.out (Below.selfN _ _)) _,HN.out.1,HN.out.2,Nat.le_refl _,(HT.out.next (Turned.of_below (Below.selfN _ _))).next (Turned.set _ _ _ rfl)⟩
  ·have hrQ:r1=Q:=by
    rw[←hq1]
    cases r1 with
    | nil=>rfl
    | cons c t=>rw[List.dropWhile_cons_of_neg (fun h=>hin ⟨c,t,rfl,h⟩)]
   have HTW:=zh (HT1.out.next hT)
   have HBX:=zh (show Box5 wr w.heap.size 26 (.int .i64 0) (.int .i64 0) (.int .i64 0) (.string ⟨#[]⟩) (.slice none 0 0) from (hT.block _ HB6.out.lt hne).trans HB6.out)
   have hpos:=hat1.pos
   rw[hrQ] at hpos
   subst hrQ
   cases hr1:r1 with
   | nil=>
    subst hr1
    have ha1:a1=s.size:=by simpa using hpos
    have hlt3:decide (a1<s.size)=false:=by simp;omega
    have heq:((a1:Int)==(s.size:Int))=true:=by simp;omega
    have HE:=zh ha1
    clear hp1 hat1 hq1 hT hin hpos ha1 hle hla
    go_wp2_with fail
    go_quiet (fail)
    go_wp2_with fail
    go_quiet (fail)
    go_wp2_with (first | (go_at_call 36;refine (zdP _ HP3.out HBX.out hne _).mono ?_;rintro e' w3 ⟨rfl,hrb,ht3,hbx3⟩;have HRB:=zh hrb;have HT3:=zh ht3;obtain ⟨q0,q1,q2,q3,q4⟩:=hbx3.cells;obtain ⟨z0,z2,z3,z4,z5⟩:=hbx3.free;have hgl:=hbx3.lt;have HBX3:=zh hbx3;clear hrb ht3 hbx3))
    have HR5:=zh (HBX3.out.set (.int .i64 4) (.int .i64 0) (.int .i64 0) (.string ⟨#[]⟩) (.slice none 0 0))
    obtain ⟨r0,r1,r2,r3,r4⟩:=HR5.out.cells
    refine bodyPost_ret (v:=.agg #[.int .i64 4,.int .i64 0,.int .i64 0,.string ⟨#[]⟩,.slice none 0 0]) (by simp[results,results66,go_sem,r0,r1,r2,r3,r4]) rfl ?_
    rw[HR.out]
    exact zce (HTW.out.next HT3.out) (by have:=HRB.out;rw[if_pos (by decide),HE.out] at this;exact this) hne
   | cons c t=>
    subst hr1
    obtain ⟨hlt,hget⟩:=hat1.get
    have hcf:Dat.strByte c=false:=by
     cases h:Dat.strByte c with
     | false=>rfl
     | true=>exact (hin ⟨c,t,rfl,h⟩).elim
    have hlt3:decide (a1<s.size)=true:=by simp;omega
    by_cases h34:c=34
    ·have m1:((c.toNat:Int) != 34)=false:=by subst h34;rfl
     have heq:((a1:Int)==(s.size:Int))=false:=by simp;omega
     have HX1:=zh (show s.extract (a+1) a1=⟨T.toArray⟩ from by rw[hpos];exact HX.out)
     have hX1:=HX1.out
     simp only[List.length_cons] at hla hpos hab
     have hb1:a+1≤a1:=by omega
     have hb2:a1≤s.size:=by omega
     have HPT:=zh (show a1+1=s.size-t.length from by omega)
     have HADD:=zh (show ((a1:Int)+1)=((a1+1:Nat):Int) from by omega)
     have HE:=zh h34
     clear hp1 hat1 hq1 hT hin hpos hle hcf h34
     go_wp2_with fail
     go_quiet (fail)
     go_wp2_with fail
     go_quiet (fail)
     go_upto_region 10 with fail
     rw[HADD.out]
     rename_i n1 K1 a1'
     have hp5:RB ((wr.drewN (n1+nq)).setCell ⟨b,1,none⟩ (.int .i64 ((a1+1:Nat):Int))) b s (a1+1) (-1):=RB.at (BoxL.keep HP3.out (Below.selfN _ _)) _
     have ht5:Turned (fun c=>c=b) wr ((wr.drewN (n1+nq)).setCell ⟨b,1,none⟩ (.int .i64 ((a1+1:Nat):Int))):=(Turned.of_below (Below.selfN _ _)).next (Turned.set _ _ _ rfl)
     generalize (wr.drewN (n1+nq)).setCell ⟨b,1,none⟩ (.int .i64 ((a1+1:Nat):Int))=W5 at hp5 ht5 ⊢
     have HP5:=zh hp5
     have HT5:=zh (HTW.out.next ht5)
     have HB7:=zh (show Box5 W5 w.heap.size 26 (.int .i64 0) (.int .i64 0) (.int .i64 0) (.string ⟨#[]⟩) (.slice none 0 0) from (ht5.block _ HBX.out.lt hne).trans HBX.out)
     have f0:=hp5.cell 0 rfl
     have f1:=hp5.cell 1 rfl
     have fl:=hp5.lt
     clear hp5 ht5 c0 d1 z1 dl
     refine zaU (Below W5.heap.size W5) 12 (by kernel_rfl) (by kernel_rfl) ((Below.refl W5.heap.size W5).drew) ?_
     intro T' _ W HW HW2
     have g0:∀t,(W t).cell? _=_:=fun t=>((HW t).cell (p:=⟨b,0,none⟩) fl).trans f0
     have g1:∀t,(W t).cell? _=_:=fun t=>((HW t).cell (p:=⟨b,1,none⟩) fl).trans f1
     have HWH:=zh HW
     clear HW HW2 f0 f1
     simp only[List.take_succ_cons,List.take_zero,List.drop_succ_cons,List.drop_zero]
     repeat (go_big_quiet_step (fail))
     refine wpQuiet_nil ?_
     intro t
     have hbx:Box5 (W t) w.heap.size 26 (.int .i64 0) (.int .i64 0) (.int .i64 0) (.string ⟨#[]⟩) (.slice none 0 0):=((HWH.out t).block _ HB7.out.lt).trans HB7.out
     obtain ⟨q0,q1,q2,q3,q4⟩:=hbx.cells
     obtain ⟨z0,z2,z3,z4,z5⟩:=hbx.free
     have hgl:=hbx.lt
     have HB8:=zh hbx
     clear hbx
     go_wp2_with fail
     have HR5:=zh (HB8.out.set (.int .i64 3) (.int .i64 0) (.int .i64 0) (.string ⟨T.toArray⟩) (.slice none 0 0))
     obtain ⟨r0,r1,r2,r3,r4⟩:=HR5.out.cells
     refine bodyPost_ret (v:=.agg #[.int .i64 3,.int .i64 0,.int .i64 0,.string ⟨T.toArray⟩,.slice none 0 0]) (by simp[results,results66,go_sem,r0,r1,r2,r3,r4]) rfl ?_
     rw[HR.out,HE.out]
     exact zbS 3 0 0 ⟨T.toArray⟩ HT5.out (HWH.out t) (by rw[←HPT.out];exact HP5.out) hne (by omega) (by omega) (by omega) (by simp[ByteArray.size];omega)
    ·have m1:((c.toNat:Int) != 34)=true:=(u8_ne c 34).trans (by rw[decide_eq_false h34];rfl)
     have hbd:=zhe hcf h34
     have HE:=zh h34
     have HEP:=zh hpos
     clear hp1 hat1 hq1 hT hin hpos hle hcf h34 hla
     rcases hbd with h | h | h
     case' inl=>
      have m2:decide (c.toNat<32)=true:=by simp;omega
      have m2':decide ((c.toNat:Int)<32)=true:=by simp;omega
     case' inr.inl=>
      have m2:decide (c.toNat<32)=false:=by simp;omega
      have m2':decide ((c.toNat:Int)<32)=false:=by simp;omega
      have m3:decide (126<c.toNat)=true:=by simp;omega
      have m3':decide ((126:Int)<(c.toNat:Int))=true:=by simp;omega
     case' inr.inr=>
      have m2:decide (c.toNat<32)=false:=by simp;omega
      have m2':decide ((c.toNat:Int)<32)=false:=by simp;omega
      have m3:decide (126<c.toNat)=false:=by simp;omega
      have m3':decide ((126:Int)<(c.toNat:Int))=false:=by simp;omega
      have m4:((c.toNat:Int)==92)=true:=by simp;omega
     all_goals
      go_wp2_with fail
      go_quiet (fail)
      go_wp2_with fail
      go_quiet (fail)
      go_wp2_with (first | (go_at_call 36;refine (zdP _ HP3.out HBX.out hne _).mono ?_;rintro e' w3 ⟨rfl,hrb,ht3,hbx3⟩;have HRB:=zh hrb;have HT3:=zh ht3;obtain ⟨q0,q1,q2,q3,q4⟩:=hbx3.cells;obtain ⟨z0,z2,z3,z4,z5⟩:=hbx3.free;have hgl:=hbx3.lt;have HBX3:=zh hbx3;clear hrb ht3 hbx3))
      have HR5:=zh (HBX3.out.set (.int .i64 4) (.int .i64 0) (.int .i64 0) (.string ⟨#[]⟩) (.slice none 0 0))
      obtain ⟨r0,r1,r2,r3,r4⟩:=HR5.out.cells
      refine bodyPost_ret (v:=.agg #[.int .i64 4,.int .i64 0,.int .i64 0,.string ⟨#[]⟩,.slice none 0 0]) (by simp[results,results66,go_sem,r0,r1,r2,r3,r4]) rfl ?_
      rw[HR.out]
      unfold Rd.strQ
      simp only
      rw[if_neg HE.out]
      exact zce (HTW.out.next HT3.out) (by have:=HRB.out;rw[if_pos (by decide),HEP.out] at this;exact this) hne
end
section
open Go Go.RowKit
theorem zby {W w':World} {S:Nat→Prop} {B:Nat} (h:Below B W w'):Below B (hide W S) (hide w' S):=by
 refine ⟨h.os,h.tape,h.output,by rw[za3,za3];exact h.size,fun c hc=>?_⟩
 have hb:=h.block c hc
 simp only[hide,Array.getElem?_mapIdx,hb]
def OwnH (W:World) (S:Nat→Prop) (base:Nat) (l:List Dat) (v:Value):Prop:=∃xs,W.ownsRow base 26 5 v l.length xs∧CellsD (hide W S) base l xs
theorem OwnH.form {W:World} {S:Nat→Prop} {base:Nat} {l:List Dat} {v:Value} (h:OwnH W S base l v):∃o len cap,v=.slice o len cap∧len≤cap∧len=l.length:=by
 obtain ⟨xs,h1,_⟩:=h
 rcases h1.2 with ⟨hv,h0⟩ | ⟨g,cap,cur,hv,_,_,h2,_⟩
 ·exact ⟨_,_,_,hv,Nat.le_refl _,h0.symm⟩
 ·exact ⟨_,_,_,hv,h2,rfl⟩
theorem OwnH.rep {W:World} {S:Nat→Prop} {base:Nat} {l:List Dat} {v:Value} (h:OwnH W S base l v) (hb:base≤W.heap.size) (hS:∀b,S b→b<base):RepS (hide W S) W.heap.size l v:=by
 obtain ⟨xs,h1,h2⟩:=h
 have:=zbW (w:=hide W S) (base:=base) (B:=W.heap.size) (zdJ h1 (fun g hg hs=>by have:=(h1.lt g hg).1;have:=hS g hs;omega)) (h2.mono (B':=W.heap.size) fun x v hx=>hx.wider hb) (by rw[za3];exact Nat.le_refl _)
 rwa[za3] at this
theorem zdn {W:World} (e:TypeId) (size n:Nat) (cs:List Value) (hl:cs.length=n*size) (hn:n≤maxLen):(W.alloc (.cells cs.toArray e)).ownsRow W.heap.size e size (.slice (some ⟨W.heap.size,0,none⟩) n n) n cs:=by
 refine ⟨hl,.inr ⟨W.heap.size,n,cs.toArray,rfl,Nat.le_refl _,World.alloc_heap_new W _,Nat.le_refl _,hn,by simpa using hl,?_⟩⟩
 rw[List.take_of_length_le (by simp[hl])]
theorem OwnH.one {W:World} {S:Nat→Prop} {x:Dat} {c0 c1 c2 c3 c4:Value} (hx:RepD (hide W S) W.heap.size x (.agg #[c0,c1,c2,c3,c4])):OwnH (W.alloc (.cells #[c0,c1,c2,c3,c4] 26)) S W.heap.size [x] (.slice (some ⟨W.heap.size,0,none⟩) 1 1):=
 ⟨[c0,c1,c2,c3,c4],zdn _ 5 1 _ rfl (by unfold maxLen;omega),c0,c1,c2,c3,c4,[],rfl,hx.kept (zby (Below.one _ _)),rfl⟩
theorem zkQ {W:World} {S:Nat→Prop} {o:Oper} {a:Act} {K:Act→World→Prop} {Q:Exit→Act→World→Prop} (s x:Operand)
  (ho:o.op=.call { callee:=.builtin .append,args:=#[s,x],argTypes:=#[22,22] }) (base:Nat) (v xv:Value) (l k:List Dat) (hs:a.eval s=v) (hg:Hid (OwnH W S base l v)) (hx:a.eval x=xv) (hk:Hid (RepS (hide W S) base k xv))
  (hm:l.length+k.length≤1000000) (hb:base≤W.heap.size)
  (h:∀o' len' cap' w',Hid (OwnH w' S base (l++k) (.slice o' len' cap'))→Hid (Below base W w')→K (a.put o.dst (.slice o' len' cap')) w') :
  o.wp prog a W K Q:=by
 obtain ⟨xs,h1,h2⟩:=hg.out
 obtain ⟨ox,lenx,capx,rfl,hlx,hcx,hmx,hrx⟩:=hk.out
 obtain ⟨i0,hi,hz0,hz1,hz2⟩:=info_parts zcw
 cases k with
 | nil=>
  obtain ⟨ov,lenv,capv,rfl,hlc,hlv⟩:=OwnH.form hg.out
  have h0:lenx=0:=by simpa using hlx
  subst h0
  have hr:∀ty,(Builtin.append_ #[22,22] ty #[.slice ov lenv capv,.slice ox 0 capx]).run prog W=.ok (.slice ov lenv capv) W:=fun ty=>by
   have hle:lenv+0≤capv:=by omega
   cases ov<;>cases ox<;>simp[go_sem,Builtin.append_,hlc,Builtin.firstCells,storeCells,Builtin.lenOf]
  unfold Oper.wp execOp
  simp only[ho,resolve,invoke,builtin,Sem.run_bind,Sem.run_pure,Result.andThen_ok,List.map_toArray,List.map_cons,List.map_nil,hs,hx,hr]
  exact h _ _ _ _ (by rw[List.append_nil];exact hg) (zh (Below.refl _ _))
 | cons y k=>
  cases ox with
  | none=>exact absurd hrx.1 (by simp)
  | some ad=>
   obtain ⟨hsp,hblk⟩:=hrx.1 (by simp)
   obtain ⟨blk,off,sp⟩:=ad
   obtain rfl:sp=none:=hsp
   obtain ⟨ys,k1,k2⟩:=zc5 _ _ hrx.2
   refine wp_append_lies W s x 22 ho base 26 i0 (.agg #[.int .i64 0,.int .i64 0,.int .i64 0,.string ⟨#[]⟩,.slice none 0 0]) 5 64 underlying22 hi hz0 hz1 hz2 rfl (by decide) v l.length xs hs h1 ⟨blk,off,none⟩ lenx capx ys hx (by rw[k1.length,hlx]) (fun j u hu=>by have:=(zac (k2 j u hu)).2;rcases j with _ | j<;>simpa[Addr.add] using this) k1.oneCell (by rw[hlx];simp) (by rw[hlx];unfold maxLen;simp only[List.length_cons] at hm ⊢;omega) (by rw[hlx];omega) hb W.heap.size rfl ?_
   intro g cap w' m1 m2 m3 m4
   have hbl:Below base W w':=by
    refine ⟨m2.os,m2.tape,m2.output,m2.size,fun c hc=>m2.block c (by omega) fun e=>?_⟩
    have:=(h1.lt c e.symm).1
    omega
   refine h _ _ _ _ (zh ⟨xs++ys,?_,?_⟩) (zh hbl)
   ·rw[List.length_append,←hlx];exact m1
   ·exact (zbw h2 k1).mono fun z u hz=>hz.kept (zby hbl)
namespace Sy
def sym (s:ByteArray):Dat:=.mk 2 0 0 s []
end Sy
theorem zg8 {w:World} {B:Nat} (s:ByteArray) (hs:s.size≤140737488351232):RepD w B (Sy.sym s) (.agg #[.int .i64 2,.int .i64 0,.int .i64 0,.string s,.slice none 0 0]):=
 RepD.shut (by omega) (by omega) (by omega) hs ⟨none,0,0,rfl,rfl,by omega,by omega,rfl,rfl⟩
theorem zdY (s:ByteArray) (w:World):Calls prog 90 #[.string s] w fun e w'=>e=.returned (.agg #[.int .i64 2,.int .i64 0,.int .i64 0,.string s,.slice none 0 0])∧Below w.heap.size w w':=by
 obtain ⟨W0,hW0⟩:∃W0,w.alloc (.cells #[.int .i64 0,.int .i64 0,.int .i64 0,.string ⟨#[]⟩,.slice none 0 0] 26)=W0:=⟨_,rfl⟩
 have hb:Box5 W0 w.heap.size 26 (.int .i64 0) (.int .i64 0) (.int .i64 0) (.string ⟨#[]⟩) (.slice none 0 0):=by rw[←hW0];exact Box5.new w _ _ _ _ _ _
 have HBL:=zh (show Below w.heap.size w W0 from by rw[←hW0];exact Below.one _ _)
 have HB:=zh hb
 have HW0:=zh hW0
 clear hb hW0
 go_enter func90,ntmps90
 go_upto_region 1 with fail
 rw[HW0.out]
 obtain ⟨p0,p1,p2,p3,p4⟩:=HB.out.cells
 obtain ⟨z0,z1,z2,z3,z4⟩:=HB.out.free
 have pl:=HB.out.lt
 go_wp2_with fail
 have HR5:=zh (HB.out.set (.int .i64 2) (.int .i64 0) (.int .i64 0) (.string s) (.slice none 0 0))
 obtain ⟨r0,r1,r2,r3,r4⟩:=HR5.out.cells
 refine bodyPost_ret (v:=.agg #[.int .i64 2,.int .i64 0,.int .i64 0,.string s,.slice none 0 0]) (by simp[results,results90,go_sem,r0,r1,r2,r3,r4]) rfl ?_
 exact ⟨rfl,HBL.out.trans (zah _ _ _ _ _ _ _ _ (Nat.le_refl _))⟩
end
section
open Go Go.RowKit
def RFits {α:Type} (s:ByteArray) (res:Rd.Res α) (x:α) (a:Nat) (d:Int):Prop:=
 match res with
 | .ok y q=>x=y∧a=s.size-q.length∧d = -1
 | .bad q=>d=((s.size-q.length:Nat):Int)
def RUni (b:Nat) (s:ByteArray) (res:Rd.Res Dat) (w:World) (e:Ending) (w':World):Prop:=
 ∃(x:Dat) (k n d:Int) (st:ByteArray) (o:Option Addr) (len cap a':Nat) (m:Int),e=.returned (.agg #[.int .i64 k,.int .i64 n,.int .i64 d,.string st,.slice o len cap])∧RepD (hide w' (Lo w.heap.size)) w'.heap.size x (.agg #[.int .i64 k,.int .i64 n,.int .i64 d,.string st,.slice o len cap])∧RB w' b s a' m∧Turned (fun c=>c=b) w w'∧RFits s res x a' m
theorem RDat.uni {b:Nat} {s:ByteArray} {res:Rd.Res Dat} {w:World} {e:Ending} {w':World} (h:RDat b s res w e w'):RUni b s res w e w':=by
 cases res with
 | ok x q=>
  obtain ⟨v,he,hr,hb,ht⟩:=h
  obtain ⟨k,n,d,st,o,len,cap,rfl⟩:=zae hr
  exact ⟨x,k,n,d,st,o,len,cap,_,_,he,hr,hb,ht,rfl,rfl,rfl⟩
 | bad q=>
  obtain ⟨v,x,a',he,hr,hb,ht⟩:=h
  obtain ⟨k,n,d,st,o,len,cap,rfl⟩:=zae hr
  exact ⟨x,k,n,d,st,o,len,cap,_,_,he,hr,hb,ht,rfl⟩
def RSeq (b:Nat) (s:ByteArray) (res:Rd.Res (List Dat × Dat)) (w:World) (e:Ending) (w':World):Prop:=
 ∃(l:List Dat) (x:Dat) (o':Option Addr) (len' cap':Nat) (k n d:Int) (st:ByteArray) (o:Option Addr) (len cap a':Nat) (m:Int),e=.returned (.tuple #[.slice o' len' cap',.agg #[.int .i64 k,.int .i64 n,.int .i64 d,.string st,.slice o len cap]])∧RepS (hide w' (Lo w.heap.size)) w'.heap.size l (.slice o' len' cap')∧RepD (hide w' (Lo w.heap.size)) w'.heap.size x (.agg #[.int .i64 k,.int .i64 n,.int .i64 d,.string st,.slice o len cap])∧RB w' b s a' m∧Turned (fun c=>c=b) w w'∧RFits s res (l,x) a' m
theorem RFits.map {α β:Type} {s:ByteArray} {res:Rd.Res α} {x:α} {a:Nat} {d:Int} (h:RFits s res x a d) (f:α→β):RFits s (res.map f) (f x) a d:=by
 cases res with
 | ok y q=>exact ⟨congrArg f h.1,h.2⟩
 | bad q=>exact h
def RDatOk (n:Nat):Prop:=∀(b:Nat) (s:ByteArray) (a:Nat) (r:List UInt8) (w:World) (dp:Int),r.length<n→RB w b s a (-1)→Rd.At s a r→s.size≤65536 →
 Calls prog 35 #[.pointer (some ⟨b,0,none⟩),.int .i64 dp] w (RUni b s (Rd.D r) w)
def RSeqOk (n:Nat):Prop:=∀(b:Nat) (s:ByteArray) (a:Nat) (r:List UInt8) (w:World) (p:Bool) (dp:Int),r.length<n→RB w b s a (-1)→Rd.At s a r→s.size≤65536 →
 Calls prog 69 #[.pointer (some ⟨b,0,none⟩),.bool p,.int .i64 dp] w (RSeq b s (Rd.S p false r) w)
end
section
open Go Go.RowKit
def readD (s:ByteArray):Option (List Dat) × Nat:=
 if 65536<s.size then (none,65536) else match Rd.A s.data.toList with
  | .ok l _=>(some l,s.size)
  | .bad q=>(none,s.size-q.length)
def ReadPost (s:ByteArray) (w:World) (e:Ending) (w':World):Prop:=
 ∃v,e=.returned (.tuple #[v,.int .i64 (readD s).2,.int .i64 (if (readD s).1.isSome then 0 else 2)])∧RepS w' w'.heap.size ((readD s).1.getD []) v∧(∃o len cap,v=.slice o len cap)∧Below w.heap.size w w'
theorem zhU (w:World) (B:Nat):RepS w B [] (.slice none 0 0):=⟨none,0,0,rfl,rfl,by omega,by omega,rfl,rfl⟩
theorem zdL {s:ByteArray} {l:List Dat} {q:List UInt8} (hs:s.size≤65536) (h:Rd.A s.data.toList=.ok l q):readD s=(some l,s.size):=by
 unfold readD;rw[if_neg (by omega),h]
theorem zjG {s:ByteArray} {q:List UInt8} (hs:s.size≤65536) (h:Rd.A s.data.toList=.bad q):readD s=(none,s.size-q.length):=by
 unfold readD;rw[if_neg (by omega),h]
end
end Go.Proofs.YtnbjhmafnigefaaGreatDoor
