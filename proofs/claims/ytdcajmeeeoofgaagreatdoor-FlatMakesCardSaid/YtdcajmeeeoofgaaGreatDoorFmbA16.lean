/- .. -/
import Derived.Test.YtdcajmeeeoofgaaGreatDoorFmbA15
open Go.Proofs.Tryz
set_option maxRecDepth 100000
set_option maxHeartbeats 16000000
namespace Go.Proofs.YtdcajmeeeoofgaaGreatDoor
section
open Go Go.RowKit Mk
def ZIntoC (e:Bool) (x:Trm):Prop:=∀(c0 c1 c2 c3:Value) (B base mb:Nat) (K:KV) (X:Nat→Prop) (s:MSt) (d:Int) (nc nk:Int) (fr:Bool) (sc:Int→Bool) (W:World),TrmR W B x [c0,c1,c2,c3]→ZkIn W B base mb K X s→Trm.wf nc nk fr x sc=true→Room s (6*x.all-2)→0≤d∧d≤1900000 →
 Calls prog 39 #[.pointer (some ⟨mb,0,none⟩),.agg #[c0,c1,c2,c3],.int .i64 d,.bool e] W fun r w'=>r=.returned (.tuple #[])∧∃K',ZkGo B base mb K K' X (Mk.into Mk.lkF x d e s) W w'
def ZHadC (x:Trm):Prop:=∀(c0 c1 c2 c3:Value) (B base mb:Nat) (K:KV) (X:Nat→Prop) (s:MSt) (nc nk:Int) (fr:Bool) (sc:Int→Bool) (W:World),TrmR W B x [c0,c1,c2,c3]→ZkIn W B base mb K X s→Trm.wf nc nk fr x sc=true→Room s (6*x.all-1) →
 Calls prog 75 #[.pointer (some ⟨mb,0,none⟩),.agg #[c0,c1,c2,c3]] W fun r w'=>r=.returned (.int .i64 (Mk.had Mk.lkF x s).1)∧∃K',ZkGo B base mb K K' X (Mk.had Mk.lkF x s).2 W w'
def ZAllC (l:List Trm):Prop:=∀(sl:Value) (B base mb:Nat) (K:KV) (X:Nat→Prop) (s:MSt) (nc nk:Int) (fr:Bool) (sc:Int→Bool) (W:World),TrmS W B l sl→ZkIn W B base mb K X s→(∀x∈l,Trm.wf nc nk fr x sc=true)→Room s (6*Trm.allL l) →
 Calls prog 80 #[.pointer (some ⟨mb,0,none⟩),sl] W fun r w'=>∃rv,r=.returned rv∧∃K',ZkGo B base mb K K' X (Mk.allT Mk.lkF l s).2 W w'∧IntsM w' (fun b=>SZ mb K' b∨X b) (Mk.allT Mk.lkF l s).1 rv
theorem zjI (x:Trm) (hx:ZIntoC false x):ZHadC x:=by
 intro c0 c1 c2 c3 B base mb K X s nc nk fr sc W hv hm hw hroom
 have hroom2:=Room.mono hroom (k':=1) (by have:=x.all_pos;omega)
 obtain ⟨W1,hW1⟩:∃W1,W.alloc (.cells #[c0,c1,c2,c3] 27)=W1:=⟨_,rfl⟩
 have HB1:=zh (show Below W.heap.size W W1 from by rw[←hW1];exact Below.one W _)
 have HBX:=zh (show BoxL W1 W.heap.size 27 [c0,c1,c2,c3] from by rw[←hW1];exact BoxL.new rfl _ _)
 have HM:=zh (hm.keep HB1.out)
 have hsz:=hm.size
 have HV:=zh (TrmR.kept (HB1.out.mono hm.size) _ _ hv)
 have HW:=zh hW1
 have HX:=zh hx
 have HLT:=zh hm.st.lt
 obtain ⟨op,n,v,t⟩:=x
 obtain ⟨ov,lv,cvv,ot,lt,ct,rfl,rfl,rfl,rfl,hn⟩:=TrmR.shape hv
 dsimp only[Trm.op,Trm.n] at *
 have x0:=HBX.out.cell 0 rfl
 have x1:=HBX.out.cell 1 rfl
 have x2:=HBX.out.cell 2 rfl
 have x3:=HBX.out.cell 3 rfl
 have xl:=HBX.out.lt
 by_cases h1:op=1
 ·subst h1
  have hpost:(Mk.had Mk.lkF (.mk 1 n v t) s)=(Mk.lkF s.vars n,s):=by simp[Mk.had,Mk.hadW,Trm.op,Trm.n]
  rw[hpost]
  have HRG:=zh (za9 n W1 HM.out _ rfl)
  clear hv hm hx hW1 hw hroom hpost
  go_enter func75,ntmps75
  go_upto_region 2 with fail
  rw[HW.out]
  go_wp2_with fail
  with_reducible refine HRG.out.mono ?_
  rintro e w2 ⟨rfl,hb2⟩
  have HB2:=zh hb2
  clear hb2 x0 x1 x2 x3 xl
  go_wp2_with fail
  go_ret
  exact ⟨rfl,K,((ZkGo.refl HM.out).after HB2.out).before HB1.out hsz⟩
 ·have f1:(op==1)=false:=by simpa using h1
  have hpost:(Mk.had Mk.lkF (.mk op n v t) s)=(s.regs,Mk.into Mk.lkF (.mk op n v t) s.regs false s.fresh):=if_neg h1
  rw[hpost]
  have HF:=zh (zck W1 HM.out hroom2)
  have hro:=zh hroom
  have hall:=(Trm.mk op n v t).all_pos
  have hwf:=zh hw
  clear hv hm hx hW1 hw hroom hpost
  go_enter func75,ntmps75
  go_upto_region 3 with fail
  rw[HW.out]
  go_wp2_with fail
  refine HF.out.mono ?_
  rintro e w2 ⟨rfl,hg⟩
  have HG:=zh hg
  have HBX2:=zh (HG.out.turned.box HBX.out (fun hs=>Nat.lt_irrefl _ (HLT.out _ hs)))
  have HI:=zh (HX.out _ _ _ _ B base mb K X s.fresh s.regs nc nk fr sc w2 (TrmR.kept HG.out.low _ _ HV.out) HG.out.inn hwf.out (Room.fresh (hro.out.mono (by omega))) ⟨hro.out.2.1,by have:=hro.out.2.2.1;omega⟩)
  clear x0 x1 x2 x3 xl hg
  have x0:=HBX2.out.cell 0 rfl
  have x1:=HBX2.out.cell 1 rfl
  have x2:=HBX2.out.cell 2 rfl
  have x3:=HBX2.out.cell 3 rfl
  have xl:=HBX2.out.lt
  go_wp2_with fail
  refine HI.out.mono ?_
  rintro e w3 ⟨rfl,K',hg⟩
  have HG3:=zh ((HG.out.next hg).before HB1.out hsz)
  clear hg x0 x1 x2 x3 xl
  go_wp2_with fail
  go_ret
  exact ⟨rfl,_,HG3.out⟩
theorem ziW (l:List Trm) (hl:∀x∈l,ZHadC x):ZAllC l:=by
 intro sl B base mb K X s nc nk fr sc W hv hm hw hroom
 obtain ⟨o,len,cap,rfl⟩:=SlC.form hv
 obtain ⟨hlen,hcap,hmax⟩:=SlC.lens hv
 have HV:=zh hv
 have HL:=zh hlen
 have HM:=zh hm
 have HH:=zh hl
 have HWF:=zh hw
 have HRO:=zh hroom
 have hshort:l.length≤300000:=by have:=Trm.allL_length l;have:=hroom.1;omega
 have hsz:=hm.size
 have HB:=zh (fun (j:Nat)=>show ∀x∈(Mk.allT Mk.lkF (l.take j) s).1,I64 x from fun x hx=>by
  have h1:=(Room.allT (k:=0) Mk.lkF_ok (l.take j) s (hroom.mono (by have:=zaQ l j;omega))).2 x hx
  exact ⟨by omega,by omega⟩)
 clear hv hlen hm hl hw hroom
 go_enter func80,ntmps80
 go_wp2_with fail
 go_loopg [6,5] len (fun g i ov wr=>∃(j:Nat) (K':KV),g=len-j∧i=.int .i64 j∧j≤len∧Hid (ZkGo B base mb K K' (fun b=>X b∨ov.ownBlock=some b) (Mk.allT Mk.lkF (l.take j) s).2 W wr)∧Hid (wr.ownsRow W.heap.size 3 1 ov (Mk.allT Mk.lkF (l.take j) s).1.length ((Mk.allT Mk.lkF (l.take j) s).1.map (Value.int .i64)))∧Hid (∀b,ov.ownBlock=some b→¬SZ mb K' b))
 case atStart=>exact ⟨0,K,rfl,rfl,by omega,zh (by simpa[Mk.allT] using ZkGo.refl (HM.out.turn (X':=fun b=>X b∨(Value.slice none 0 0).ownBlock=some b) (fun b _ h=>h.elim id (fun h=>by simp[Value.ownBlock] at h)) (fun b h=>h.elim (HM.out.bx b) (fun h=>by simp[Value.ownBlock] at h)))),zh (by simpa[Mk.allT] using World.ownsRow_nil _ _ _ _),zh (fun b h=>by simp[Value.ownBlock] at h)⟩
 case round=>
  obtain ⟨j,K',rfl,rfl,hj,HG,HO,HAP⟩:=hrel
  by_cases hjl:j<len
  ·obtain ⟨x,hx⟩:∃x,l[j]?=some x:=⟨_,List.getElem?_eq_getElem (by rw[←HL.out];exact hjl)⟩
   obtain ⟨b,off,cs,ho,_,hcl,hcell,hr⟩:=SlC.at HV.out HG.out.low hx
   subst ho
   match cs,hcl with
   | [c0,c1,c2,c3],_=>
    have e0:=hcell 0 _ rfl
    have e1:=hcell 1 _ rfl
    have e2:=hcell 2 _ rfl
    have e3:=hcell 3 _ rfl
    simp only[Nat.add_zero] at e0
    have hbl:=zac e0
    obtain ⟨qa,qb,qc,qd,qe,qf,rfl,rfl,rfl,rfl,_⟩:=TrmR.shape hr
    have hrm:=Room.allT (k:=6*x.all) Mk.lkF_ok (l.take j) s (HRO.out.mono (by have:=za2 hx;have:=zaQ l (j+1);omega))
    have HC:=zh (HH.out x (List.mem_of_getElem? hx) _ _ _ _ B base mb K' _ (Mk.allT Mk.lkF (l.take j) s).2 nc nk fr sc wr (TrmR.kept HG.out.low _ _ hr) HG.out.inn (HWF.out x (List.mem_of_getElem? hx)) (hrm.1.mono (by omega)))
    have HTK:=zh (zbY Mk.lkF hx s)
    have hjb:=zh (HB.out (j+1))
    obtain ⟨q,hq⟩:∃q,Mk.had Mk.lkF x (Mk.allT Mk.lkF (l.take j) s).2=q:=⟨_,rfl⟩
    have HLEN:=zh (show (Mk.allT Mk.lkF (l.take j) s).1.length=j from by rw[zae,List.length_take];have:=HL.out;omega)
    rw[hq] at HC HTK
    clear hr hrm hx hq hcell
    go_wp2_with fail
    refine HC.out.mono ?_
    rintro e w2 ⟨rfl,K2,hg2⟩
    have HG2:=zh (HG.out.next hg2)
    have hq64:I64 q.1:=hjb.out _ (by rw[HTK.out];simp)
    have HQ:=zh hq64
    have HO2:=zh (zaM HO.out (fun c hc=>hg2.turned.block c (zan HO.out hc) (HAP.out c hc)))
    have HAP2:=zh (show ∀b,u5.ownBlock=some b→¬SZ mb K2 b from fun b h hs=>HAP.out b h (hg2.less b (zan HO.out h) hs))
    have hw2:W.heap.size≤w2.heap.size:=HG2.out.turned.size
    have hlen2:(Mk.allT Mk.lkF (l.take j) s).1.length≤300000:=by have:=HLEN.out;have:=HL.out;omega
    obtain ⟨i0,hi0,hz0,hz1,hz2⟩:=info_parts zbu
    clear hg2 hq64 e0 e1 e2 e3 hbl
    go_wp2_with (at_builtin;refine wpList_append_lies _ rfl (.tmp 13) (.tmp 20) 24 rfl W.heap.size 3 i0 (.int .i64 0) 1 8 underlying24 hi0 hz0 hz1 hz2 rfl (by decide) u5 (Mk.allT Mk.lkF (l.take j) s).1.length _ rfl (HO2.out.alloc _) ⟨w2.heap.size,0,none⟩ 1 1 [.int .i64 q.1] rfl rfl (zaS w2 _ _) (by intro u hu;simp only[List.mem_cons,List.not_mem_nil,or_false] at hu;subst hu;rfl) (by decide) (by unfold maxLen;omega) (by omega) (by simp;omega) (w2.heap.size+1) (by simp) ?_)
    intro g cap w3 hown hgrow hlie hglt
    have HT3:Turned (fun b=>u5.ownBlock=some b) w2 w3:=(Turned.of_below (Below.one w2 _)).next (Turned.grown hgrow (fun b h=>h))
    have HTT:Turned (SZ mb K) W w3:=HG2.out.turned.trans HT3 (fun b hb h=>by have:=zao HO2.out h;omega)
    have hgS:¬SZ mb K2 g:=fun hs=>by
     rcases hlie with h | h
     ·exact HAP2.out g h hs
     ·have:=HG2.out.inn.st.lt g hs
      omega
    have HAP3:=zh (show ∀b,(Value.slice (some ⟨g,0,none⟩) ((Mk.allT Mk.lkF (l.take j) s).1.length+1) cap).ownBlock=some b→¬SZ mb K2 b from fun b h=>by
     have e:g=b:=by simpa[Value.ownBlock] using h
     subst e
     exact hgS)
    have HGN:=zh (show ZkGo B base mb K K2 (fun b=>X b∨(Value.slice (some ⟨g,0,none⟩) ((Mk.allT Mk.lkF (l.take j) s).1.length+1) cap).ownBlock=some b) (Mk.allT Mk.lkF (l.take (j+1)) s).2 W w3 from by
     rw[HTK.out]
     refine ⟨⟨HG2.out.inn.st.keep HT3 (fun b _ h=>⟨.inr h,HAP2.out b h⟩) (fun b hb h=>?_),HG2.out.inn.b1,HG2.out.inn.b2,Nat.le_trans HG2.out.inn.b4 HT3.size,fun b h=>?_⟩,HTT,HG2.out.less,HTT.below HM.out.low hsz⟩
     ·refine h.imp id fun e=>?_
      have e:g=b:=by simpa[Value.ownBlock] using e
      subst e
      rcases hlie with h | h
      ·exact h
      ·omega
     ·rcases h with h | h
      ·exact Nat.lt_of_lt_of_le (HG2.out.inn.bx b (.inl h)) HT3.size
      ·have e:g=b:=by simpa[Value.ownBlock] using h
       subst e
       exact hglt)
    have HON:=zh (show w3.ownsRow W.heap.size 3 1 (.slice (some ⟨g,0,none⟩) ((Mk.allT Mk.lkF (l.take j) s).1.length+1) cap) (Mk.allT Mk.lkF (l.take (j+1)) s).1.length ((Mk.allT Mk.lkF (l.take (j+1)) s).1.map (Value.int .i64)) from by
     rw[HTK.out]
     simpa using hown)
    clear hown hgrow hlie hglt HT3 HTT hgS
    go_wp2_with fail
    go_roundg (len-(j+1))
    case measure=>omega
    case rel=>exact ⟨j+1,K2,rfl,by go_num,by omega,HGN,HON,HAP3⟩
  ·obtain rfl:j=len:=by omega
   have HE:=zh (show l.take j=l from List.take_of_length_le (by rw[←HL.out];exact Nat.le_refl _))
   have hg:=HG.out
   have ho:=HO.out
   have hb:=HB.out j
   rw[HE.out] at hg ho hb
   have HG2:=zh (show ZkGo B base mb K K' X (Mk.allT Mk.lkF l s).2 W wr from ⟨hg.inn.turn (fun b _ h=>.inl h) (fun b h=>hg.inn.bx b (.inl h)),hg.turned,hg.less,hg.low⟩)
   have HIN:=zh (show IntsM wr (fun b=>SZ mb K' b∨X b) (Mk.allT Mk.lkF l s).1 u5 from IntsM.of_row ho hb (fun b h hs=>by
    rcases hs with hs | hs
    ·exact HAP.out b h hs
    ·have:=HM.out.bx b hs
     have:=zao ho h
     omega))
   clear hg ho hb HG HO
   go_wp2_with fail
   go_ret
   exact ⟨_,rfl,K',HG2.out,HIN.out⟩
end
section
open Go Go.RowKit Mk
theorem zeS (e:Bool) (n:Int) (v:List Int) (a b c:Trm) (ha:HadC a) (hb:IntoC e b) (hc:IntoC e c) (c0 c1 c2 c3:Value) (B base mb vb:Nat) (cv:Value) (X:Nat→Prop) (s:MSt) (d:Int) (nc nk:Int) (fr:Bool) (sc:Int→Bool) (W:World)
  (hv:TrmR W B (.mk 3 n v [a,b,c]) [c0,c1,c2,c3]) (hm:MkIn W B base mb vb cv X s) (wa:Trm.wf nc nk fr a sc=true) (wb:Trm.wf nc nk fr b sc=true) (wc:Trm.wf nc nk fr c sc=true) (hroom:Room s (2+6*Trm.allL [a,b,c])) (hd:0≤d∧d≤1900000) :
  Calls prog 34 #[.pointer (some ⟨mb,0,none⟩),.agg #[c0,c1,c2,c3],.int .i64 d,.bool e] W fun r w'=>r=.returned (.tuple #[])∧∃cv',MkGo B base mb vb cv cv' X (Mk.choice Mk.lkL [a,b,c] d e s) W w':=by
 obtain ⟨W1,hW1⟩:∃W1,W.alloc (.cells #[c0,c1,c2,c3] 27)=W1:=⟨_,rfl⟩
 have hsz:=hm.size
 have hv1:TrmR W1 B (.mk 3 n v [a,b,c]) [c0,c1,c2,c3]:=TrmR.kept (by rw[←hW1];exact (Below.one W _).mono hsz) _ _ hv
 obtain ⟨ov,lv,cvv,ot,lt,ct,rfl,rfl,rfl,rfl,hn,HBX,HM,HT,HV,HB1,hlt,hlv⟩:=zav W B base mb vb cv X s _ n v _ _ _ _ _ hv hm W1 hW1
 have HW:=zh hW1
 have HC:=zh (zf3 e 3 n v a b c ha hb hc _ _ _ _ B base mb vb cv X s d nc nk fr sc W1 hv1 HM.out wa wb wc hroom hd)
 have e0:=HBX.out.cell 0 rfl
 have e1:=HBX.out.cell 1 rfl
 have e2:=HBX.out.cell 2 rfl
 have e3:=HBX.out.cell 3 rfl
 have el:=HBX.out.lt
 clear hv hv1 hm hW1 ha hb hc wa wb wc hroom hlt hlv hn
 go_enter func34,ntmps34
 go_upto_region 1 with fail
 rw[HW.out]
 go_wp2_with fail
 with_reducible refine HC.out.mono ?_
 rintro r w2 ⟨rfl,cv2,hg2⟩
 have HG9:=zh (hg2.before HB1.out hsz)
 clear hg2 e0 e1 e2 e3 el
 go_wp2_with fail
 first | go_end0 | (refine bodyPost_ret (results_none rfl _ _ _) rfl ?_)
 exact ⟨rfl,_,HG9.out⟩
theorem zdg (op n:Int) (v:List Int) (t:List Trm) (h3:op≠3) (h6:op≠6) (h8:op≠8) (h9:op≠9) (c0 c1 c2 c3:Value) (B base mb vb:Nat) (cv:Value) (X:Nat→Prop) (s S:MSt) (d:Int) (W:World)
  (hv:TrmR W B (.mk op n v t) [c0,c1,c2,c3]) (hm:MkIn W B base mb vb cv X s)
  (hV:∀W1,TrmR W1 B (.mk op n v t) [c0,c1,c2,c3]→MkIn W1 B base mb vb cv X s→Calls prog 69 #[.pointer (some ⟨mb,0,none⟩),.agg #[c0,c1,c2,c3],.int .i64 d] W1 fun r w'=>r=.returned (.tuple #[])∧∃cv',MkGo B base mb vb cv cv' X S W1 w') :
  Calls prog 34 #[.pointer (some ⟨mb,0,none⟩),.agg #[c0,c1,c2,c3],.int .i64 d,.bool false] W fun r w'=>r=.returned (.tuple #[])∧∃cv',MkGo B base mb vb cv cv' X S W w':=by
 obtain ⟨W1,hW1⟩:∃W1,W.alloc (.cells #[c0,c1,c2,c3] 27)=W1:=⟨_,rfl⟩
 have hsz:=hm.size
 have hv1:TrmR W1 B (.mk op n v t) [c0,c1,c2,c3]:=TrmR.kept (by rw[←hW1];exact (Below.one W _).mono hsz) _ _ hv
 obtain ⟨ov,lv,cvv,ot,lt,ct,rfl,rfl,rfl,rfl,hn,HBX,HM,HT,HV,HB1,hlt,hlv⟩:=zav W B base mb vb cv X s _ n v _ _ _ _ _ hv hm W1 hW1
 have HW:=zh hW1
 have HC:=zh (hV W1 hv1 HM.out)
 have f3:(op==3)=false:=by simpa using h3
 have f6:(op==6)=false:=by simpa using h6
 have f8:(op==8)=false:=by simpa using h8
 have f9:(op==9)=false:=by simpa using h9
 have e0:=HBX.out.cell 0 rfl
 have e1:=HBX.out.cell 1 rfl
 have e2:=HBX.out.cell 2 rfl
 have e3:=HBX.out.cell 3 rfl
 have el:=HBX.out.lt
 clear hv hv1 hm hW1 hlt hlv hn hV h3 h6 h8 h9
 go_enter func34,ntmps34
 go_upto_region 1 with fail
 rw[HW.out]
 go_wp2_with fail
 with_reducible refine HC.out.mono ?_
 rintro r w2 ⟨rfl,cv2,hg2⟩
 have HG9:=zh (hg2.before HB1.out hsz)
 clear hg2 e0 e1 e2 e3 el
 go_wp2_with fail
 first | go_end0 | (refine bodyPost_ret (results_none rfl _ _ _) rfl ?_)
 exact ⟨rfl,_,HG9.out⟩
theorem zft (op n:Int) (v:List Int) (t:List Trm) (h3:op≠3) (h6:op≠6) (h8:op≠8) (h9:op≠9) (c0 c1 c2 c3:Value) (B base mb vb:Nat) (cv:Value) (X:Nat→Prop) (s S:MSt) (d:Int) (W:World)
  (hv:TrmR W B (.mk op n v t) [c0,c1,c2,c3]) (hm:MkIn W B base mb vb cv X s)
  (hV:∀W1,TrmR W1 B (.mk op n v t) [c0,c1,c2,c3]→MkIn W1 B base mb vb cv X s→Calls prog 68 #[.pointer (some ⟨mb,0,none⟩),.agg #[c0,c1,c2,c3]] W1 fun r w'=>r=.returned (.tuple #[])∧∃cv',MkGo B base mb vb cv cv' X S W1 w') :
  Calls prog 34 #[.pointer (some ⟨mb,0,none⟩),.agg #[c0,c1,c2,c3],.int .i64 d,.bool true] W fun r w'=>r=.returned (.tuple #[])∧∃cv',MkGo B base mb vb cv cv' X S W w':=by
 obtain ⟨W1,hW1⟩:∃W1,W.alloc (.cells #[c0,c1,c2,c3] 27)=W1:=⟨_,rfl⟩
 have hsz:=hm.size
 have hv1:TrmR W1 B (.mk op n v t) [c0,c1,c2,c3]:=TrmR.kept (by rw[←hW1];exact (Below.one W _).mono hsz) _ _ hv
 obtain ⟨ov,lv,cvv,ot,lt,ct,rfl,rfl,rfl,rfl,hn,HBX,HM,HT,HV,HB1,hlt,hlv⟩:=zav W B base mb vb cv X s _ n v _ _ _ _ _ hv hm W1 hW1
 have HW:=zh hW1
 have HC:=zh (hV W1 hv1 HM.out)
 have f3:(op==3)=false:=by simpa using h3
 have f6:(op==6)=false:=by simpa using h6
 have f8:(op==8)=false:=by simpa using h8
 have f9:(op==9)=false:=by simpa using h9
 have e0:=HBX.out.cell 0 rfl
 have e1:=HBX.out.cell 1 rfl
 have e2:=HBX.out.cell 2 rfl
 have e3:=HBX.out.cell 3 rfl
 have el:=HBX.out.lt
 clear hv hv1 hm hW1 hlt hlv hn hV h3 h6 h8 h9
 go_enter func34,ntmps34
 go_upto_region 1 with fail
 rw[HW.out]
 go_wp2_with fail
 with_reducible refine HC.out.mono ?_
 rintro r w2 ⟨rfl,cv2,hg2⟩
 have HG9:=zh (hg2.before HB1.out hsz)
 clear hg2 e0 e1 e2 e3 el
 go_wp2_with fail
 first | go_end0 | (refine bodyPost_ret (results_none rfl _ _ _) rfl ?_)
 exact ⟨rfl,_,HG9.out⟩
def IntoR (r:Nat) (e:Bool) (x:Trm):Prop:=∀(c0 c1 c2 c3:Value) (B base mb vb:Nat) (cv:Value) (X:Nat→Prop) (s:MSt) (d:Int) (nc nk:Int) (fr:Bool) (sc:Int→Bool) (W:World),TrmR W B x [c0,c1,c2,c3]→MkIn W B base mb vb cv X s→Trm.wf nc nk fr x sc=true→Room s r→0≤d∧d≤1900000 →
 Calls prog 34 #[.pointer (some ⟨mb,0,none⟩),.agg #[c0,c1,c2,c3],.int .i64 d,.bool e] W fun q w'=>q=.returned (.tuple #[])∧∃cv',MkGo B base mb vb cv cv' X (Mk.into Mk.lkL x d e s) W w'
def HadR (r:Nat) (x:Trm):Prop:=∀(c0 c1 c2 c3:Value) (B base mb vb:Nat) (cv:Value) (X:Nat→Prop) (s:MSt) (nc nk:Int) (fr:Bool) (sc:Int→Bool) (W:World),TrmR W B x [c0,c1,c2,c3]→MkIn W B base mb vb cv X s→Trm.wf nc nk fr x sc=true→Room s r →
 Calls prog 93 #[.pointer (some ⟨mb,0,none⟩),.agg #[c0,c1,c2,c3]] W fun q w'=>q=.returned (.int .i64 (Mk.had Mk.lkL x s).1)∧∃cv',MkGo B base mb vb cv cv' X (Mk.had Mk.lkL x s).2 W w'
theorem zjC (r:Nat) (x:Trm) (hx:IntoR r false x):HadR (r+1) x:=by
 intro c0 c1 c2 c3 B base mb vb cv X s nc nk fr sc W hv hm hw hroom
 have hroom2:=Room.mono hroom (k':=1) (by omega)
 obtain ⟨W1,hW1⟩:∃W1,W.alloc (.cells #[c0,c1,c2,c3] 27)=W1:=⟨_,rfl⟩
 have HB1:=zh (show Below W.heap.size W W1 from by rw[←hW1];exact Below.one W _)
 have HBX:=zh (show BoxL W1 W.heap.size 27 [c0,c1,c2,c3] from by rw[←hW1];exact BoxL.new rfl _ _)
 have HM:=zh (hm.keep HB1.out)
 have hsz:=hm.size
 have HV:=zh (TrmR.kept (HB1.out.mono hm.size) _ _ hv)
 have HW:=zh hW1
 have HX:=zh hx
 have HLT:=zh hm.st.lt
 obtain ⟨op,n,v,t⟩:=x
 have hsh:∃q r u q' r' u',c0=.int .i64 op∧c1=.int .i64 n∧c2=.slice q r u∧c3=.slice q' r' u'∧I64 n:=by
  obtain ⟨vs',ts',he,_,hn,hvs,hts⟩:=zas.1 hv
  simp only[List.cons.injEq,and_true] at he
  obtain ⟨rfl,rfl,rfl,rfl⟩:=he
  obtain ⟨q,r,u,rfl⟩:=hvs.form
  obtain ⟨q',r',u',rfl⟩:=hts.form
  exact ⟨_,_,_,_,_,_,rfl,rfl,rfl,rfl,hn⟩
 obtain ⟨ov,lv,cvv,ot,lt,ct,rfl,rfl,rfl,rfl,hn⟩:=hsh
 have x0:=HBX.out.cell 0 rfl
 have x1:=HBX.out.cell 1 rfl
 have x2:=HBX.out.cell 2 rfl
 have x3:=HBX.out.cell 3 rfl
 have xl:=HBX.out.lt
 by_cases h1:op=1
 ·subst h1
  have hpost:(Mk.had Mk.lkL (.mk 1 n v t) s)=(Mk.lkL s.vars n,s):=by simp[Mk.had,Mk.hadW,Trm.op,Trm.n]
  rw[hpost]
  clear hv hm hx hW1 hw hroom hpost
  go_enter func93,ntmps93
  go_upto_region 2 with fail
  rw[HW.out]
  have y2:=HM.out.st.box.cell 2 rfl
  have yl:=HM.out.st.box.lt
  have HD:=zh ((Below.refl W1.heap.size W1).drew)
  refine zab (Below W1.heap.size W1) (by kernel_rfl) (by kernel_rfl) HD.out ?_
  intro T0 _ WW HWW HWW2
  have z1:∀t,(WW t).cell? _=_:=fun t=>((HWW t).cell (p:=⟨W.heap.size,1,none⟩) xl).trans x1
  have z2:∀t,(WW t).cell? _=_:=fun t=>((HWW t).cell (p:=⟨mb,2,none⟩) yl).trans y2
  have zk:∀t,(Instr.lookup 75 (.map (some vb)) (.int .i64 n) false).run prog (WW t)=.ok (.int .i64 (Mk.lkL s.vars n)) (WW t):=fun t=>zbU (HM.out.st.vars.keep (HWW t)) n hn
  have HWH:=zh HWW
  clear HWW HWW2
  repeat (go_big_quiet_step (fail))
  refine wpQuiet_nil ?_
  intro t'
  have HBB:=zh (HWH.out t')
  clear x0 x1 x2 x3 xl z1 z2 zk y2 yl
  go_wp2_with fail
  go_ret
  exact ⟨rfl,cv,((MkGo.refl HM.out).after HBB.out).before HB1.out hsz⟩
 ·have f1:(op==1)=false:=by simpa using h1
  have hpost:(Mk.had Mk.lkL (.mk op n v t) s)=(s.regs,Mk.into Mk.lkL (.mk op n v t) s.regs false s.fresh):=if_neg h1
  rw[hpost]
  have HF:=zh (zdW W1 HM.out hroom2)
  have hro:=zh hroom
  have hwf:=zh hw
  clear hv hm hx hW1 hw hroom hpost
  go_enter func93,ntmps93
  go_upto_region 3 with fail
  rw[HW.out]
  go_wp2_with fail
  refine HF.out.mono ?_
  rintro e w2 ⟨rfl,hg⟩
  have HG:=zh hg
  have HBX2:=zh (HG.out.turned.box HBX.out (fun hs=>Nat.lt_irrefl _ (HLT.out _ hs)))
  have HI:=zh (HX.out _ _ _ _ B base mb vb cv X s.fresh s.regs nc nk fr sc w2 (TrmR.kept HG.out.low _ _ HV.out) HG.out.inn hwf.out (Room.fresh (hro.out.mono (by omega))) ⟨hro.out.2.1,by have:=hro.out.2.2.1;omega⟩)
  clear x0 x1 x2 x3 xl hg
  have x0:=HBX2.out.cell 0 rfl
  have x1:=HBX2.out.cell 1 rfl
  have x2:=HBX2.out.cell 2 rfl
  have x3:=HBX2.out.cell 3 rfl
  have xl:=HBX2.out.lt
  go_wp2_with fail
  refine HI.out.mono ?_
  rintro e w3 ⟨rfl,cv',hg⟩
  have HG3:=zh ((HG.out.next hg).before HB1.out hsz)
  clear hg x0 x1 x2 x3 xl
  go_wp2_with fail
  go_ret
  exact ⟨rfl,_,HG3.out⟩
theorem zit (rm:Nat) (op n:Int) (v:List Int) (t:List Trm) (hx:HadR rm (.mk op n v t)) (h5:op≠5) (h22:op≠22) (h10:op≠10∨n<29) (c0 c1 c2 c3:Value) (B base mb vb:Nat) (cv:Value) (X:Nat→Prop) (s:MSt) (nc nk:Int) (fr:Bool) (sc:Int→Bool) (W:World)
  (hv:TrmR W B (.mk op n v t) [c0,c1,c2,c3]) (hm:MkIn W B base mb vb cv X s) (hw:Trm.wf nc nk fr (.mk op n v t) sc=true) (hroom:Room s rm) (hrh:Room (Mk.had Mk.lkL (.mk op n v t) s).2 1∧0≤(Mk.had Mk.lkL (.mk op n v t) s).1∧(Mk.had Mk.lkL (.mk op n v t) s).1≤1900000) :
  Calls prog 68 #[.pointer (some ⟨mb,0,none⟩),.agg #[c0,c1,c2,c3]] W fun r w'=>r=.returned (.tuple #[])∧∃cv',MkGo B base mb vb cv cv' X ((Mk.had Mk.lkL (.mk op n v t) s).2.put ⟨22,0,(Mk.had Mk.lkL (.mk op n v t) s).1,0,[]⟩) W w':=by
 obtain ⟨W1,hW1⟩:∃W1,W.alloc (.cells #[c0,c1,c2,c3] 27)=W1:=⟨_,rfl⟩
 have hsz:=hm.size
 have hv1:TrmR W1 B (.mk op n v t) [c0,c1,c2,c3]:=TrmR.kept (by rw[←hW1];exact (Below.one W _).mono hsz) _ _ hv
 obtain ⟨ov,lv,cvv,ot,lt,ct,rfl,rfl,rfl,rfl,hn,HBX,HM,HT,HV,HB1,hlt,hlv⟩:=zav W B base mb vb cv X s _ n v t _ _ _ _ hv hm W1 hW1
 have HW:=zh hW1
 have HX:=zh (hx _ _ _ _ B base mb vb cv X s nc nk fr sc W1 hv1 HM.out hw hroom)
 obtain ⟨q,hq⟩:∃q,Mk.had Mk.lkL (.mk op n v t) s=q:=⟨_,rfl⟩
 rw[hq] at hrh
 rw[hq] at HX ⊢
 have HRH:=zh hrh
 have f5:(op==5)=false:=by simpa using h5
 have f22:(op==22)=false:=by simpa using h22
 have e0:=HBX.out.cell 0 rfl
 have e1:=HBX.out.cell 1 rfl
 have e2:=HBX.out.cell 2 rfl
 have e3:=HBX.out.cell 3 rfl
 have el:=HBX.out.lt
 clear hv hv1 hm hW1 hw hroom hlt hlv hn hx hq hrh
 by_cases ho:op=10
 ·subst ho
  have hn29:decide (29≤n)=false:=decide_eq_false (by rcases h10 with h | h<;>omega)
  clear h10 f5 f22 h5 h22
  go_enter func68,ntmps68
  go_upto_region 2 with fail
  rw[HW.out]
  go_wp2_with fail
  with_reducible refine HX.out.mono ?_
  rintro r w2 ⟨rfl,cv2,hg2⟩
  have HG2:=zh hg2
  have HL:=zh (zar 22 0 q.1 0 [] none 0 0 w2 hg2.inn (by have:=HRH.out.1.1;omega) (by constructor<;>omega) (by constructor<;>omega) ⟨by have:=HRH.out.2.1;omega,by have:=HRH.out.2.2;omega⟩ (by constructor<;>omega) (IntsM.nil _ _))
  clear hg2 HX e0 e1 e2 e3 el
  go_wp2_with fail
  with_reducible refine HL.out.mono ?_
  rintro r w3 ⟨fv,rfl,cv3,hg3⟩
  have HG9:=zh ((HG2.out.next hg3).before HB1.out hsz)
  clear hg3 HL
  go_wp2_with fail
  first | go_end0 | (refine bodyPost_ret (results_none rfl _ _ _) rfl ?_)
  exact ⟨rfl,_,HG9.out⟩
 ·have f10:(op==10)=false:=by simpa using ho
  clear h10 h5 h22 ho
  go_enter func68,ntmps68
  go_upto_region 2 with fail
  rw[HW.out]
  go_wp2_with fail
  with_reducible refine HX.out.mono ?_
  rintro r w2 ⟨rfl,cv2,hg2⟩
  have HG2:=zh hg2
  have HL:=zh (zar 22 0 q.1 0 [] none 0 0 w2 hg2.inn (by have:=HRH.out.1.1;omega) (by constructor<;>omega) (by constructor<;>omega) ⟨by have:=HRH.out.2.1;omega,by have:=HRH.out.2.2;omega⟩ (by constructor<;>omega) (IntsM.nil _ _))
  clear hg2 HX e0 e1 e2 e3 el
  go_wp2_with fail
  with_reducible refine HL.out.mono ?_
  rintro r w3 ⟨fv,rfl,cv3,hg3⟩
  have HG9:=zh ((HG2.out.next hg3).before HB1.out hsz)
  clear hg3 HL
  go_wp2_with fail
  first | go_end0 | (refine bodyPost_ret (results_none rfl _ _ _) rfl ?_)
  exact ⟨rfl,_,HG9.out⟩
theorem zcg {α:Type}:∀{t:List α} {n:Nat},t.length=n+1→∃l x,t=l++[x]∧l.length=n
 | t,n,h=>by
  have hne:t≠[]:=fun e=>by rw[e] at h;simp at h
  refine ⟨t.dropLast,t.getLast hne,(List.dropLast_concat_getLast hne).symm,by rw[List.length_dropLast];omega⟩
theorem zkJ (lk:List (Int × Int)→Int→Int) (n:Int) (v:List Int) (t:List Trm) (d:Int) (e:Bool) (s:MSt):Mk.into lk (.mk 3 n v t) d e s=Mk.choice lk t d e s:=by rw[Mk.into];simp
theorem zkM (lk:List (Int × Int)→Int→Int) (n:Int) (v:List Int) (l:List Trm) (x:Trm) (d:Int) (e:Bool) (s:MSt):Mk.into lk (.mk 6 n v (l++[x])) d e s=Mk.into lk x d e (Mk.allT lk l s).2:=by
 rw[Mk.into,if_neg (by decide),if_pos rfl,Mk.seqs_eq]
theorem zkP (lk:List (Int × Int)→Int→Int) (n:Int) (v:List Int) (l:List Trm) (x:Trm) (d:Int) (e:Bool) (s:MSt):Mk.into lk (.mk 8 n v (l++[x])) d e s=Mk.into lk x d e ((Mk.allT lk l s).2.bind v (Mk.allT lk l s).1):=by
 rw[Mk.into,if_neg (by decide),if_neg (by decide),if_pos rfl,Mk.lets_eq,List.nil_append]
theorem zkN (lk:List (Int × Int)→Int→Int) (n:Int) (v:List Int) (l:List Trm) (x:Trm) (d:Int) (e:Bool) (s:MSt) (h:l.length=v.length):Mk.into lk (.mk 9 n v (l++[x])) d e s=Mk.into lk x d e (Mk.fill lk v (l++[x]) (Mk.fix1 v (l++[x]) s)):=by
 rw[Mk.into,if_neg (by decide),if_neg (by decide),if_neg (by decide),if_pos rfl,Mk.fixs_eq _ _ _ _ _ _ _ h]
 congr 1
 rw[←Mk.fill_take lk v (l++[x]),←h,List.take_left]
theorem zdX (lk:List (Int × Int)→Int→Int) (op n:Int) (v:List Int) (t:List Trm) (d:Int) (s:MSt) (h3:op≠3) (h6:op≠6) (h8:op≠8) (h9:op≠9) (h1:op≠1):Mk.into lk (.mk op n v t) d false s=Mk.strict op n d (Mk.allT lk t s).1 (Mk.allT lk t s).2:=by
 rw[Mk.into,if_neg h3,if_neg h6,if_neg h8,if_neg h9,if_neg (by decide),if_neg h1]
theorem zhQ (lk:List (Int × Int)→Int→Int) (n:Int) (v:List Int) (t:List Trm) (d:Int) (s:MSt):Mk.into lk (.mk 1 n v t) d false s=s.put ⟨1,d,lk s.vars n,0,[]⟩:=by
 rw[Mk.into,if_neg (by decide),if_neg (by decide),if_neg (by decide),if_neg (by decide),if_neg (by decide),if_pos rfl]
theorem zkQ (lk:List (Int × Int)→Int→Int) (op n:Int) (v:List Int) (t:List Trm) (d:Int) (s:MSt) (h3:op≠3) (h6:op≠6) (h8:op≠8) (h9:op≠9) (he:Mk.endsB op n=true):Mk.into lk (.mk op n v t) d true s=Mk.ended op n (Mk.allT lk t s).1 (Mk.allT lk t s).2:=by
 rw[Mk.into,if_neg h3,if_neg h6,if_neg h8,if_neg h9,if_pos rfl,if_pos he]
theorem zif (lk:List (Int × Int)→Int→Int) (op n:Int) (v:List Int) (t:List Trm) (d:Int) (s:MSt) (h3:op≠3) (h6:op≠6) (h8:op≠8) (h9:op≠9) (he:Mk.endsB op n=false):Mk.into lk (.mk op n v t) d true s=(Mk.had lk (.mk op n v t) s).2.put ⟨22,0,(Mk.had lk (.mk op n v t) s).1,0,[]⟩:=by
 rw[Mk.into,if_neg h3,if_neg h6,if_neg h8,if_neg h9,if_pos rfl,if_neg (by rw[he];decide)]
 by_cases h1:op=1
 ·subst h1
  rw[if_pos rfl]
  simp[Mk.had,Mk.hadW,Trm.op,Trm.n]
 ·rw[if_neg h1,show Mk.had lk (.mk op n v t) s=(s.regs,Mk.into lk (.mk op n v t) s.regs false s.fresh) from if_neg h1,zdX lk op n v t s.regs s.fresh h3 h6 h8 h9 h1]
theorem zdN:∀(k:Nat) (x:Trm),x.all≤k→∀e,IntoC e x
 | 0,x,h=>by have:=x.all_pos;omega
 | k+1,.mk op n v t,hk=>by
  have hlt:∀x∈t,x.all≤k:=fun x hx=>by have:=Trm.all_mem (o:=op) (n:=n) (v:=v) hx;omega
  have ih:∀x∈t,∀e,IntoC e x:=fun x hx e=>zdN k x (hlt x hx) e
  have hA:∀l:List Trm,(∀y∈l,y.all≤k)→AllC l:=fun l hl=>zls l fun y hy=>zgU y (zdN k y (hl y hy) false)
  have hsub:∀x∈t,AllC x.t:=fun x hx=>hA x.t fun y hy=>by
   obtain ⟨o,m,u,l⟩:=x
   have h1:=Trm.all_mem (o:=o) (n:=m) (v:=u) (show y∈l from hy)
   have h2:=hlt _ hx
   omega
  have hall:(Trm.mk op n v t).all=1+Trm.allL t:=by rw[Trm.all]
  -- the four that go on in parts
  have four:op=3∨op=6∨op=8∨op=9→∀e,IntoC e (.mk op n v t):=by
   intro ho e c0 c1 c2 c3 B base mb vb cv X s d nc nk fr sc W hv hm hw hroom hd
   have hp:=zaE hw
   rw[hall] at hroom
   rcases ho with rfl | rfl | rfl | rfl
   ·have hc:v.length=0∧t.length=3:=by
     have:=hp.2.1
     simpa[Trm.countsB] using this
    obtain rfl:v=[]:=List.eq_nil_of_length_eq_zero hc.1
    have hwa:=zaW (by decide) hp.2.2.2
    match t,hc.2 with
    | [a,b,c],_=>
     rw[zkJ]
     exact zeS e n [] a b c (zgU a (ih a (by simp) false)) (ih b (by simp) e) (ih c (by simp) e) c0 c1 c2 c3 B base mb vb cv X s d nc nk fr sc W hv hm (hwa a (by simp)) (hwa b (by simp)) (hwa c (by simp)) (hroom.mono (by omega)) hd
   ·have hc:v.length=0∧1≤t.length:=by
     have:=hp.2.1
     simpa[Trm.countsB] using this
    obtain rfl:v=[]:=List.eq_nil_of_length_eq_zero hc.1
    have hwa:=zaW (by decide) hp.2.2.2
    obtain ⟨l,x,rfl,_⟩:=zcg (t:=t) (n:=t.length-1) (by omega)
    rw[zkM]
    exact ziH e n [] l x (hA l fun y hy=>hlt y (by simp[hy])) (ih x (by simp) e) c0 c1 c2 c3 B base mb vb cv X s d nc nk fr sc sc W hv hm (fun y hy=>hwa y (by simp[hy])) (hwa x (by simp)) (hroom.mono (by omega)) hd
   ·have hc:t.length=v.length+1:=by
     have:=hp.2.1
     simpa[Trm.countsB] using this
    obtain ⟨l,x,rfl,hl⟩:=zcg hc
    have hw2:=hp.2.2.2
    rw[zbZ (by decide)] at hw2
    simp only[List.length_append,List.length_singleton,Nat.add_sub_cancel,List.take_left,List.drop_left,Bool.and_eq_true,List.all_eq_true] at hw2
    rw[zkP]
    exact ziG e n v l x hl (hA l fun y hy=>hlt y (by simp[hy])) (ih x (by simp) e) c0 c1 c2 c3 B base mb vb cv X s d nc nk fr sc _ W hv hm hw2.1 (hw2.2 x (by simp)) (hroom.mono (by omega)) hd
   ·have hc:t.length=v.length+1:=by
     have:=hp.2.1
     simpa[Trm.countsB] using this
    obtain ⟨l,x,rfl,hl⟩:=zcg hc
    have hw2:=hp.2.2.2
    rw[zdI] at hw2
    simp only[List.length_append,List.length_singleton,Nat.add_sub_cancel,List.take_left,Bool.and_eq_true,List.all_eq_true] at hw2
    rw[zkN _ _ _ _ _ _ _ _ hl]
    refine zi2 e n v l x hl hsub (ih x (by simp) e) c0 c1 c2 c3 B base mb vb cv X s d nc nk fr (Trm.addV sc v) (Trm.addV sc v) W hv hm (fun j y hj hy=>?_) (hw2.1 x (by simp)) (hroom.mono (by omega)) hd
    rw[List.getElem?_append_left (by omega)] at hy
    have hm:=List.mem_of_getElem? hy
    have h19:=hw2.2 y hm
    have hwy:=hw2.1 y (by simp[hm])
    obtain ⟨o,m,u,ty⟩:=y
    obtain rfl:o=19:=by simpa[Trm.op] using h19
    have hpy:=zaE hwy
    obtain rfl:u=[]:=List.eq_nil_of_length_eq_zero (zaw (by decide) (by decide) hpy.2.1)
    exact zaW (by decide) hpy.2.2.2
  by_cases h3:op=3
  ·exact four (.inl h3)
  by_cases h6:op=6
  ·exact four (.inr (.inl h6))
  by_cases h8:op=8
  ·exact four (.inr (.inr (.inl h8)))
  by_cases h9:op=9
  ·exact four (.inr (.inr (.inr h9)))
  have hfr:IntoR (2+6*Trm.allL t) false (.mk op n v t):=by
   intro c0 c1 c2 c3 B base mb vb cv X s d nc nk fr sc W hv hm hw hroom hd
   have hp:=zaE hw
   obtain rfl:v=[]:=List.eq_nil_of_length_eq_zero (zaw h8 h9 hp.2.1)
   have hwa:=zaW h9 hp.2.2.2
   have hro:=hroom
   have hT:=hA t hlt
   by_cases h1:op=1
   ·subst h1
    rw[zhQ]
    exact zdg 1 n [] t h3 h6 h8 h9 c0 c1 c2 c3 B base mb vb cv X s _ d W hv hm fun W1 hv1 hm1=>zkU n [] t c0 c1 c2 c3 B base mb vb cv X s d W1 hv1 hm1 (hro.mono (by omega)) hd
   ·rw[zdX _ _ _ _ _ _ _ h3 h6 h8 h9 h1]
    refine zdg op n [] t h3 h6 h8 h9 c0 c1 c2 c3 B base mb vb cv X s _ d W hv hm fun W1 hv1 hm1=>?_
    have hpl:=zdU hp.1 h1 h3 h6 h8 h9
    have hcn:=hp.2.1
    simp only[plainB,List.contains_eq_mem,List.mem_cons,List.not_mem_nil,or_false,decide_eq_true_eq] at hpl
    rcases hpl with rfl | rfl | rfl | rfl | rfl | rfl | rfl | rfl | rfl | rfl | rfl | rfl | rfl | rfl
    ·exact zll n [] t hT c0 c1 c2 c3 B base mb vb cv X s d nc nk fr sc W1 hv1 hm1 hwa hro hd
    ·exact zkZ n [] t hT (by simpa[Trm.countsB] using hcn) c0 c1 c2 c3 B base mb vb cv X s d nc nk fr sc W1 hv1 hm1 hwa hro hd
    ·exact zjm n [] t hT c0 c1 c2 c3 B base mb vb cv X s d nc nk fr sc W1 hv1 hm1 hwa hro hd
    ·exact zkt n [] t hT c0 c1 c2 c3 B base mb vb cv X s d nc nk fr sc W1 hv1 hm1 hwa hro hd
    ·exact zkr n [] t hT (Nat.le_of_eq (show t.length=1 from by simpa[Trm.countsB] using hcn).symm) c0 c1 c2 c3 B base mb vb cv X s d nc nk fr sc W1 hv1 hm1 hwa hro hd
    ·exact zjl n [] t hT c0 c1 c2 c3 B base mb vb cv X s d nc nk fr sc W1 hv1 hm1 hwa hro hd
    ·exact zj7 n [] t hT (Nat.le_of_eq (show t.length=1 from by simpa[Trm.countsB] using hcn).symm) c0 c1 c2 c3 B base mb vb cv X s d nc nk fr sc W1 hv1 hm1 hwa hro hd
    ·exact zjq n [] t hT (Nat.le_of_eq (show t.length=1 from by simpa[Trm.countsB] using hcn).symm) c0 c1 c2 c3 B base mb vb cv X s d nc nk fr sc W1 hv1 hm1 hwa hro hd
    ·exact zjS n [] t hT (Nat.le_of_eq (show t.length=2 from by simpa[Trm.countsB] using hcn).symm) c0 c1 c2 c3 B base mb vb cv X s d nc nk fr sc W1 hv1 hm1 hwa hro hd
    ·exact zjf n [] t hT (Nat.le_of_eq (show t.length=2 from by simpa[Trm.countsB] using hcn).symm) c0 c1 c2 c3 B base mb vb cv X s d nc nk fr sc W1 hv1 hm1 hwa hro hd
    ·exact zkb n [] t hT c0 c1 c2 c3 B base mb vb cv X s d nc nk fr sc W1 hv1 hm1 hwa hro hd
    ·exact zkg n [] t hT c0 c1 c2 c3 B base mb vb cv X s d nc nk fr sc W1 hv1 hm1 hwa hro hd
    ·exact zkl n [] t hT c0 c1 c2 c3 B base mb vb cv X s d nc nk fr sc W1 hv1 hm1 hwa hro hd
    ·exact zjZ n [] t hT (by simpa[Trm.countsB] using hcn) c0 c1 c2 c3 B base mb vb cv X s d nc nk fr sc W1 hv1 hm1 hwa hro hd
  intro e
  cases e with
  | false=>
   intro c0 c1 c2 c3 B base mb vb cv X s d nc nk fr sc W hv hm hw hroom hd
   exact hfr c0 c1 c2 c3 B base mb vb cv X s d nc nk fr sc W hv hm hw (hroom.mono (by rw[hall];omega)) hd
  | true=>
   intro c0 c1 c2 c3 B base mb vb cv X s d nc nk fr sc W hv hm hw hroom hd
   have hp:=zaE hw
   obtain rfl:v=[]:=List.eq_nil_of_length_eq_zero (zaw h8 h9 hp.2.1)
   have hwa:=zaW h9 hp.2.2.2
   have hcn:=hp.2.1
   have hro:Room s (2+6*Trm.allL t):=hroom.mono (by rw[hall];omega)
   have hT:=hA t hlt
   cases he:Mk.endsB op n with
   | true=>
    rw[zkQ _ _ _ _ _ _ _ h3 h6 h8 h9 he]
    refine zft op n [] t h3 h6 h8 h9 c0 c1 c2 c3 B base mb vb cv X s _ d W hv hm fun W1 hv1 hm1=>?_
    simp only[Mk.endsB,Bool.or_eq_true,Bool.and_eq_true,decide_eq_true_eq] at he
    rcases he with rfl | rfl | ⟨rfl,hn⟩
    ·exact end_5 n [] t hT (by simpa[Trm.countsB] using hcn) c0 c1 c2 c3 B base mb vb cv X s nc nk fr sc W1 hv1 hm1 hwa hro
    ·exact zl9 n [] t hT (by simpa[Trm.countsB] using hcn) c0 c1 c2 c3 B base mb vb cv X s nc nk fr sc W1 hv1 hm1 hwa hro
    ·exact zl3 n [] t hT hn c0 c1 c2 c3 B base mb vb cv X s nc nk fr sc W1 hv1 hm1 hwa hro
   | false=>
    rw[zif _ _ _ _ _ _ _ h3 h6 h8 h9 he]
    refine zft op n [] t h3 h6 h8 h9 c0 c1 c2 c3 B base mb vb cv X s _ d W hv hm fun W1 hv1 hm1=>?_
    simp only[Mk.endsB,Bool.or_eq_false_iff,Bool.and_eq_false_iff,decide_eq_false_iff_not] at he
    have hrm:Room s (4+6*Trm.allL t):=hroom.mono (by rw[hall];omega)
    refine zit (2+6*Trm.allL t+1) op n [] t (zjC _ _ hfr) he.1 he.2.1 (he.2.2.imp id (fun h=>Int.not_le.1 h)) c0 c1 c2 c3 B base mb vb cv X s nc nk fr sc W1 hv1 hm1 hw (hrm.mono (by omega)) ?_
    by_cases h1:op=1
    ·subst h1
     rw[show Mk.had Mk.lkL (.mk 1 n [] t) s=(Mk.lkL s.vars n,s) by simp[Mk.had,Mk.hadW,Trm.op,Trm.n]]
     exact ⟨hrm.mono (by omega),hrm.lk Mk.lkL_ok n⟩
    ·rw[show Mk.had Mk.lkL (.mk op n [] t) s=(s.regs,Mk.into Mk.lkL (.mk op n [] t) s.regs false s.fresh) from if_neg h1,zdX Mk.lkL op n [] t s.regs s.fresh h3 h6 h8 h9 h1]
     exact ⟨Room.strict (k:=1) (Room.allT (k:=3) Mk.lkL_ok t s.fresh (Room.fresh (hrm.mono (by omega)))).1 _ _ _ _,hrm.2.1,by have:=hrm.2.2.1;omega⟩
end
section
open Go Go.RowKit Mk
theorem ZkS.opened {W:World} {base mb:Nat} {K:KV} {X:Nat→Prop} {s:MSt} (h:ZkS W base mb K X s) {k:Nat} {x:Ins} (hx:s.code[k]?=some x):∃g cap L,K.c=.slice (some ⟨g,0,none⟩) s.code.length cap∧s.code.length≤cap∧cap≤9223372036854775807∧BoxL W g 49 L∧L[k*5]?=some (.int .i64 x.op)∧L[k*5+2]?=some (.int .i64 x.a)∧L[k*5+3]?=some (.int .i64 x.b):=by
 obtain ⟨xs,hr,hc⟩:=h.row
 have hk:=(List.getElem?_eq_some_iff.1 hx).1
 rcases hr.2 with ⟨_,h0⟩ | ⟨g,cap,cur,he,hb,hg,hle,hm,hsz,htk⟩
 ·omega
 ·obtain ⟨cs,h1,⟨sl,hcs,_⟩,h3⟩:=hc.at hx
  subst hcs
  have ht:∀j u,xs[j]?=some u→cur.toList[j]?=some u:=fun j u hj=>by
   rw[←htk,List.getElem?_take] at hj
   split at hj
   ·exact hj
   ·cases hj
  exact ⟨g,cap,cur.toList,he,hle,by unfold maxLen at hm;omega,hg,ht _ _ (by simpa using h3 0 _ rfl),ht _ _ (h3 2 _ rfl),ht _ _ (h3 3 _ rfl)⟩
theorem ZkS.patched {W:World} {base mb g cap:Nat} {K:KV} {X:Nat→Prop} {s s':MSt} (h:ZkS W base mb K X s) (hK:K.c=.slice (some ⟨g,0,none⟩) s.code.length cap) {k j:Nat} (n:Int) (f:Ins→Ins) (hk:k<s.code.length) (hj:j<5) (hs:s' = { s with code:=s.code.modify k f })
  (hf:∀(R:Ins→List Value→Prop) x sl,(R=InsM (W.setCell ⟨g,k*5+j,none⟩ (.int .i64 n)) (fun b=>SZ mb K b∨X b))→R x [.int .i64 x.op,.int .i64 x.d,.int .i64 x.a,.int .i64 x.b,sl]→R (f x) ([.int .i64 x.op,.int .i64 x.d,.int .i64 x.a,.int .i64 x.b,sl].set j (.int .i64 n))) :
  ZkS (W.setCell ⟨g,k*5+j,none⟩ (.int .i64 n)) base mb K X s':=by
 subst hs
 obtain ⟨xs,hr,hc⟩:=h.row
 have hgo:K.c.ownBlock=some g:=by rw[hK];rfl
 have hne:g≠mb:=zap hr hgo h.box (by decide)
 have hT:Turned (fun b=>b=g) W (W.setCell ⟨g,k*5+j,none⟩ (.int .i64 n)):=Turned.set _ _ _ rfl
 refine ⟨h.box.other _ _ hne.symm,⟨xs.set (k*5+j) (.int .i64 n),?_,?_⟩,zaU h.vars hT (fun b hb e=>zbm hr hgo h.vars hb (by decide) e.symm),zaU h.regs hT (fun b hb e=>zbm hr hgo h.regs hb (by decide) e.symm),h.ne,h.i64⟩
 ·have hl:(s.code.modify k f).length=s.code.length:=by simp
  rw[hl]
  refine ⟨by simpa using hr.1,.inr ?_⟩
  rcases hr.2 with ⟨_,h0⟩ | ⟨g',cap',cur,he,hb,hg,hle,hm,hsz,htk⟩
  ·omega
  ·rw[hK] at he
   simp only[Value.slice.injEq,Option.some.injEq,Addr.mk.injEq,and_true,true_and] at he
   obtain ⟨rfl,rfl⟩:=he
   have hb2:BoxL W g 49 cur.toList:=hg
   refine ⟨g,cap,(cur.toList.set (k*5+j) (.int .i64 n)).toArray,hK,hb,hb2.set _ _,hle,hm,by simpa using hsz,?_⟩
   rw[show (cur.toList.set (k*5+j) (Value.int .i64 n)).toArray.toList=cur.toList.set (k*5+j) (Value.int .i64 n) from rfl,List.take_set,htk]
 ·refine CellsG.turn (f:=f) hj (fun x cs hx hl=>?_) (hc.mono fun x _ cs hx=>hx.kept hT (fun b _ hb=>.inl (.inr (.inl (by rw[hb];exact hgo)))) (fun _ _ h=>h)) hk
  obtain ⟨sl,rfl,h1⟩:=hx
  exact hf _ x sl rfl ⟨sl,rfl,h1⟩
theorem zpatch {W W':World} {B base mb g cap:Nat} {K:KV} {X:Nat→Prop} {s s':MSt} (h:ZkIn W B base mb K X s) (hK:K.c=.slice (some ⟨g,0,none⟩) s.code.length cap) {k j:Nat} {n:Int} (he:W.setCell ⟨g,k*5+j,none⟩ (.int .i64 n)=W') (hS:ZkS W' base mb K X s'):ZkGo B base mb K K X s' W W':=by
 subst he
 have hT:Turned (SZ mb K) W (W.setCell ⟨g,k*5+j,none⟩ (.int .i64 n)):=Turned.set _ _ _ (.inr (.inl (by rw[hK];rfl)))
 exact ⟨⟨hS,h.b1,h.b2,Nat.le_trans h.b4 hT.size,fun b hb=>Nat.lt_of_lt_of_le (h.bx b hb) hT.size⟩,hT,fun _ _ h=>h,hT.below h.low h.size⟩
theorem zjif {W W':World} {B base mb g cap:Nat} {K:KV} {X:Nat→Prop} {s:MSt} (h:ZkIn W B base mb K X s) (hK:K.c=.slice (some ⟨g,0,none⟩) s.code.length cap) {k:Nat} (hk:k<s.code.length) (hlen:s.code.length≤1000000) (he:W.setCell ⟨g,k*5+3,none⟩ (.int .i64 (s.code.length:Int))=W'):ZkGo B base mb K K X (s.setB k s.len) W W':=by
 refine zpatch h hK he ?_
 subst he
 exact h.st.patched hK (k:=k) (j:=3) (s.code.length:Int) (fun x=>{ x with b:=(s.code.length:Int) }) hk (by omega) rfl (fun R x sl hR hx=>by
  subst hR
  obtain ⟨sl',he,a1,a2,a3,a4,a5⟩:=hx
  exact ⟨sl,rfl,a1,a2,a3,⟨by show _≤(s.code.length:Int);omega,by show (s.code.length:Int)≤_;omega⟩,by simp only[List.cons.injEq,and_true,true_and] at he;subst he;exact a5⟩)
theorem zjmp {W W':World} {B base mb g cap:Nat} {K:KV} {X:Nat→Prop} {s:MSt} (h:ZkIn W B base mb K X s) (hK:K.c=.slice (some ⟨g,0,none⟩) s.code.length cap) {k:Nat} (hk:k<s.code.length) (hlen:s.code.length≤1000000) (he:W.setCell ⟨g,k*5+2,none⟩ (.int .i64 (s.code.length:Int))=W'):ZkGo B base mb K K X (s.setA k s.len) W W':=by
 refine zpatch h hK he ?_
 subst he
 exact h.st.patched hK (k:=k) (j:=2) (s.code.length:Int) (fun x=>{ x with a:=(s.code.length:Int) }) hk (by omega) rfl (fun R x sl hR hx=>by
  subst hR
  obtain ⟨sl',he,a1,a2,a3,a4,a5⟩:=hx
  exact ⟨sl,rfl,a1,a2,⟨by show _≤(s.code.length:Int);omega,by show (s.code.length:Int)≤_;omega⟩,a4,by simp only[List.cons.injEq,and_true,true_and] at he;subst he;exact a5⟩)
theorem zeK (e:Bool) (op n:Int) (v:List Int) (a b c:Trm) (ha:ZHadC a) (hb:ZIntoC e b) (hc:ZIntoC e c) (c0 c1 c2 c3:Value) (B base mb:Nat) (K:KV) (X:Nat→Prop) (s:MSt) (d:Int) (nc nk:Int) (fr:Bool) (sc:Int→Bool) (W:World)
  (hv:TrmR W B (.mk op n v [a,b,c]) [c0,c1,c2,c3]) (hm:ZkIn W B base mb K X s) (wa:Trm.wf nc nk fr a sc=true) (wb:Trm.wf nc nk fr b sc=true) (wc:Trm.wf nc nk fr c sc=true) (hroom:Room s (2+6*Trm.allL [a,b,c])) (hd:0≤d∧d≤1900000) :
  Calls prog 74 #[.pointer (some ⟨mb,0,none⟩),.agg #[c0,c1,c2,c3],.int .i64 d,.bool e] W fun r w'=>r=.returned (.tuple #[])∧∃K',ZkGo B base mb K K' X (Mk.choice Mk.lkF [a,b,c] d e s) W w':=by
 obtain ⟨W1,hW1⟩:∃W1,W.alloc (.cells #[c0,c1,c2,c3] 27)=W1:=⟨_,rfl⟩
 have HB1:=zh (show Below W.heap.size W W1 from by rw[←hW1];exact Below.one W _)
 have HBX:=zh (show BoxL W1 W.heap.size 27 [c0,c1,c2,c3] from by rw[←hW1];exact BoxL.new rfl _ _)
 have HM:=zh (hm.keep HB1.out)
 have hsz:=hm.size
 have HW:=zh hW1
 obtain ⟨vs,ts,he,_,_,hvs,hts⟩:=zas.1 hv
 simp only[List.cons.injEq,and_true] at he
 obtain ⟨rfl,rfl,rfl,rfl⟩:=he
 obtain ⟨ov,lv,cvv,rfl⟩:=hvs.form
 obtain ⟨ot,lt,ct,rfl⟩:=hts.form
 have hT:TrmS W1 B [a,b,c] (.slice ot lt ct):=TrmS.kept hts (HB1.out.mono hsz)
 obtain ⟨hlen,_,_⟩:=SlC.lens hT
 obtain rfl:lt=3:=hlen
 obtain ⟨tb,off,a0,a1,a2,a3,rfl,hpa⟩:=TrmS.part hT (i:=0) rfl
 obtain ⟨tb',off',b0,b1,b2,b3,ho,hpb⟩:=TrmS.part hT (i:=1) rfl
 simp only[Option.some.injEq,Addr.mk.injEq,and_true] at ho
 obtain ⟨rfl,rfl⟩:=ho
 obtain ⟨tb',off',d0,d1,d2,d3,ho,hpc⟩:=TrmS.part hT (i:=2) rfl
 simp only[Option.some.injEq,Addr.mk.injEq,and_true] at ho
 obtain ⟨rfl,rfl⟩:=ho
 have HPA:=zh hpa
 have HPB:=zh hpb
 have HPC:=zh hpc
 have hal:Trm.allL [a,b,c]=a.all+b.all+c.all:=by simp[Trm.allL];omega
 have pa:=a.all_pos
 have pb:=b.all_pos
 have pc:=c.all_pos
 rw[hal] at hroom
 have HA:=zh (ha a0 a1 a2 a3 B base mb K X s nc nk fr sc W1 hpa.r HM.out wa (hroom.mono (by omega)))
 obtain ⟨p,hp⟩:∃p,Mk.had Mk.lkF a s=p:=⟨_,rfl⟩
 have hrA:=Room.had (k:=2+(6*b.all-2)+(6*c.all-2)) Mk.lkF_ok a (Room.into Mk.lkF_ok a) (s:=s) (hroom.mono (by omega))
 rw[show Mk.hadW Mk.lkF a.op a.n (Mk.into Mk.lkF a) s=p from hp] at hrA
 rw[hp] at HA
 have hgoal:Mk.choice Mk.lkF [a,b,c] d e s=Mk.thens (Mk.into Mk.lkF b) (Mk.into Mk.lkF c) p.1 d e p.2:=by rw[←hp];rfl
 rw[hgoal]
 have HRA:=zh hrA
 have HB:=zh hb
 have HC:=zh hc
 have WB:=zh wb
 have WC:=zh wc
 have e3:=HBX.out.cell 3 rfl
 have el:=HBX.out.lt
 have q0:=hpa.e0
 have q1:=hpa.e1
 have q2:=hpa.e2
 have q3:=hpa.e3
 have ql:=hpa.size
 simp only[Nat.zero_mul,Nat.add_zero] at q0 q1 q2 q3
 clear hv hm hW1 hts hvs hT hpa hpb hpc ha hb hc wa wb wc hroom hrA hgoal hp
 go_enter func74,ntmps74
 go_upto_region 1 with fail
 rw[HW.out]
 go_wp2_with fail
 refine HA.out.mono ?_
 rintro r w2 ⟨rfl,K2,hg2⟩
 have HG2:=zh hg2
 have HL:=zh (zal 16 0 p.1 0 [] none 0 0 w2 hg2.inn (by have:=HRA.out.1.1;omega) (by constructor<;>omega) (by constructor<;>omega) ⟨by have:=HRA.out.2.1;omega,by have:=HRA.out.2.2;omega⟩ (by constructor<;>omega) (IntsM.nil _ _))
 obtain ⟨oc2,cc2,hk2⟩:∃oc cc,K2.c=.slice oc p.2.code.length cc:=by obtain ⟨xs,hr,_⟩:=hg2.inn.st.row;exact zbg hr
 have bx2:=hg2.inn.st.box
 rw[hk2] at bx2
 have k0:=bx2.cell 0 rfl
 have kl:=bx2.lt
 clear hg2 e3 el q0 q1 q2 q3 ql bx2 hk2
 go_upto_region 3 with fail
 clear k0 kl
 go_wp2_with fail
 refine HL.out.mono ?_
 rintro r w3 ⟨rfl,K3,hg3⟩
 have HG3:=zh hg3
 have HI3:=zh (HG2.out.next hg3)
 have HBX3:=zh (HI3.out.box HM.out HBX.out (by decide) (by decide) (by decide))
 have HR3:=zh (Room.put (k:=1+(6*b.all-2)+(6*c.all-2)) (HRA.out.1.mono (by omega)) ⟨16,0,p.1,0,[]⟩)
 obtain ⟨s1,hs1⟩:∃s1,p.2.put ⟨16,0,p.1,0,[]⟩=s1:=⟨_,rfl⟩
 have HX1:=zh (show s1.code[p.2.code.length]?=some ⟨16,0,p.1,0,[]⟩ from by rw[←hs1];simp[MSt.put])
 have HS1:=zh hs1
 have HN1:=zh (HB.out b0 b1 b2 b3 B base mb _ X _ d nc nk fr sc w3 (HPB.out.kept HI3.out.low).r HI3.out.inn WB.out (HR3.out.mono (by omega)) hd)
 rw[hs1] at HG3 HI3 HR3 HN1
 have q0:=(HPB.out.kept HI3.out.low).e0
 have q1:=(HPB.out.kept HI3.out.low).e1
 have q2:=(HPB.out.kept HI3.out.low).e2
 have q3:=(HPB.out.kept HI3.out.low).e3
 have ql:=(HPB.out.kept HI3.out.low).size
 have e3:=HBX3.out.cell 3 rfl
 have el:=HBX3.out.lt
 clear hg3 hs1 HA HL
 go_wp2_with fail
 refine HN1.out.mono ?_
 rintro r w4 ⟨rfl,K4,hg4⟩
 have HBX4:=zh (hg4.box HI3.out.inn HBX3.out (by decide) (by decide) (by decide))
 have HI4:=zh (HI3.out.next hg4)
 have HR4:=zh (Room.into Mk.lkF_ok b d e s1 (1+(6*c.all-2)) (HR3.out.mono (by omega)))
 have HX4:=zh ((Mk.Ext.into (lk:=Mk.lkF) b d e s1).at HX1.out)
 have HE1:=zh (show p.2.code.length<s1.code.length from (List.getElem?_eq_some_iff.1 HX1.out).1)
 have HE2:=zh ((Mk.Ext.into (lk:=Mk.lkF) b d e s1).len)
 obtain ⟨s2,hs2⟩:∃s2,Mk.into Mk.lkF b d e s1=s2:=⟨_,rfl⟩
 have HS2:=zh hs2
 rw[hs2] at HI4 HR4 HX4 HE2
 obtain ⟨g4,cap4,L4,hk4,hle4,hcp4,hb4,h40,h42,h43⟩:=HI4.out.inn.st.opened HX4.out
 have HK4:=zh hk4
 have bx4:=HI4.out.inn.st.box
 rw[hk4] at bx4
 clear hg4 q0 q1 q2 q3 ql e3 el HN1 hs2 hk4
 cases e with
 | true=>
  have k0:=bx4.cell 0 rfl
  have kl:=bx4.lt
  have hj1:p.2.code.length<s2.code.length:=Nat.lt_of_lt_of_le HE1.out HE2.out
  have hn2:s2.code.length≤900000:=by have:=HR4.out.1;omega
  have l3:=hb4.cell (p.2.code.length*5+3) h43
  have lz:=hb4.free (p.2.code.length*5+3)
  have ll:=hb4.lt
  have HG5:=zh (zjif HI4.out.inn HK4.out hj1 (by omega) rfl)
  go_upto_region 8 with fail
  go_region
  all_goals
   obtain ⟨w5,hw5⟩:∃w5,(w4.setCell ⟨g4,p.2.code.length*5+3,none⟩ (.int .i64 (s2.code.length:Int))).drew=w5:=⟨_,rfl⟩
   have HI5:=zh (show ZkGo B base mb K K4 X (s2.setB p.2.code.length s2.len) W1 w5 from hw5 ▸ ((HI4.out.next HG5.out).after (Below.drew (Below.refl _ _))))
   have HBX5:=zh (show BoxL w5 W.heap.size 27 _ from hw5 ▸ ((HG5.out.after (Below.drew (Below.refl _ _))).box HI4.out.inn HBX4.out (by decide) (by decide) (by decide)))
   rw[hw5]
   clear hw5 k0 kl l3 lz ll HG5 bx4
   have HN2:=zh (HC.out d0 d1 d2 d3 B base mb _ X _ d nc nk fr sc w5 (HPC.out.kept HI5.out.low).r HI5.out.inn WC.out ((Room.setB HR4.out _ _).mono (by omega)) hd)
   have q0:=(HPC.out.kept HI5.out.low).e0
   have q1:=(HPC.out.kept HI5.out.low).e1
   have q2:=(HPC.out.kept HI5.out.low).e2
   have q3:=(HPC.out.kept HI5.out.low).e3
   have ql:=(HPC.out.kept HI5.out.low).size
   have e3:=HBX5.out.cell 3 rfl
   have el:=HBX5.out.lt
   go_wp2_with fail
   refine HN2.out.mono ?_
   rintro r w6 ⟨rfl,K6,hg6⟩
   have HI6:=zh ((HI5.out.next hg6).before HB1.out hsz)
   clear hg6 q0 q1 q2 q3 ql e3 el HN2
   go_wp2_with fail
   first | go_end0 | (refine bodyPost_ret (results_none rfl _ _ _) rfl ?_)
   refine ⟨rfl,K6,?_⟩
   have:=HI6.out
   rw[←HS2.out,←HS1.out] at this
   exact this
 | false=>
  have HL:=zh (zal 15 0 0 0 [] none 0 0 w4 HI4.out.inn (by have:=HR4.out.1;omega) (by constructor<;>omega) (by constructor<;>omega) (by constructor<;>omega) (by constructor<;>omega) (IntsM.nil _ _))
  have k0:=bx4.cell 0 rfl
  have kl:=bx4.lt
  go_upto_region 7 with fail
  clear k0 kl hb4 h40 h42 h43 HK4 bx4
  go_wp2_with fail
  refine HL.out.mono ?_
  rintro r w5 ⟨rfl,K5,hg5⟩
  have HBX5:=zh (hg5.box HI4.out.inn HBX4.out (by decide) (by decide) (by decide))
  have HI5:=zh (HI4.out.next hg5)
  have HR5:=zh (Room.put (k:=6*c.all-2) (HR4.out.mono (by omega)) ⟨15,0,0,0,[]⟩)
  have hX5:(s2.put ⟨15,0,0,0,[]⟩).code[p.2.code.length]?=some ⟨16,0,p.1,0,[]⟩:=by simp only[MSt.put];rw[List.getElem?_append_left (List.getElem?_eq_some_iff.1 HX4.out).1];exact HX4.out
  obtain ⟨s3,hs3⟩:∃s3,s2.put ⟨15,0,0,0,[]⟩=s3:=⟨_,rfl⟩
  have HS3:=zh hs3
  have HL3:=zh (show s3.code.length=s2.code.length+1 from by rw[←hs3];simp[MSt.put])
  rw[hs3] at HI5 HR5 hX5
  obtain ⟨g5,cap5,L5,hk5,hle5,hcp5,hb5,h50,h52,h53⟩:=HI5.out.inn.st.opened hX5
  have HK5:=zh hk5
  have bx5:=HI5.out.inn.st.box
  rw[hk5] at bx5
  clear hg5 HL hs3 hX5 hk5
  have k0:=bx5.cell 0 rfl
  have kl:=bx5.lt
  have hj1:p.2.code.length<s3.code.length:=by have:=HL3.out;have:=HE1.out;have:=HE2.out;omega
  have hn3:s3.code.length≤900000:=by have:=HR5.out.1;omega
  have l3:=hb5.cell (p.2.code.length*5+3) h53
  have lz:=hb5.free (p.2.code.length*5+3)
  have ll:=hb5.lt
  have HG6:=zh (zjif HI5.out.inn HK5.out hj1 (by omega) rfl)
  go_upto_region 8 with fail
  go_region
  all_goals
   obtain ⟨w6,hw6⟩:∃w6,(w5.setCell ⟨g5,p.2.code.length*5+3,none⟩ (.int .i64 (s3.code.length:Int))).drew=w6:=⟨_,rfl⟩
   have HI6:=zh (show ZkGo B base mb K K5 X (s3.setB p.2.code.length s3.len) W1 w6 from hw6 ▸ ((HI5.out.next HG6.out).after (Below.drew (Below.refl _ _))))
   have HBX6:=zh (show BoxL w6 W.heap.size 27 _ from hw6 ▸ ((HG6.out.after (Below.drew (Below.refl _ _))).box HI5.out.inn HBX5.out (by decide) (by decide) (by decide)))
   rw[hw6]
   clear hw6 k0 kl l3 lz ll HG6 bx5 hb5 h50 h52 h53 hle5 hcp5
   have HR6:=zh (Room.setB HR5.out p.2.code.length s3.len)
   obtain ⟨s4,hs4⟩:∃s4,s3.setB p.2.code.length s3.len=s4:=⟨_,rfl⟩
   have HS4:=zh hs4
   rw[hs4] at HI6 HR6
   have HX6:=zh (show s4.code[s2.code.length]?=some ⟨15,0,0,0,[]⟩ from by
    rw[←hs4,←HS3.out]
    show ((s2.code++[_]).modify p.2.code.length _)[s2.code.length]?=_
    have hne:p.2.code.length≠s2.code.length:=by have:=HE1.out;have:=HE2.out;omega
    rw[List.getElem?_modify]
    simp[hne])
   have HN2:=zh (HC.out d0 d1 d2 d3 B base mb _ X _ d nc nk fr sc w6 (HPC.out.kept HI6.out.low).r HI6.out.inn WC.out (HR6.out.mono (by omega)) hd)
   have q0:=(HPC.out.kept HI6.out.low).e0
   have q1:=(HPC.out.kept HI6.out.low).e1
   have q2:=(HPC.out.kept HI6.out.low).e2
   have q3:=(HPC.out.kept HI6.out.low).e3
   have ql:=(HPC.out.kept HI6.out.low).size
   have e3:=HBX6.out.cell 3 rfl
   have el:=HBX6.out.lt
   clear hs4
   go_wp2_with fail
   refine HN2.out.mono ?_
   rintro r w7 ⟨rfl,K7,hg7⟩
   have HI7:=zh (HI6.out.next hg7)
   have HR7:=zh (Room.into Mk.lkF_ok c d false s4 0 (HR6.out.mono (by omega)))
   have HX7:=zh ((Mk.Ext.into (lk:=Mk.lkF) c d false s4).at HX6.out)
   obtain ⟨s5,hs5⟩:∃s5,Mk.into Mk.lkF c d false s4=s5:=⟨_,rfl⟩
   have HS5:=zh hs5
   rw[hs5] at HI7 HR7 HX7
   obtain ⟨g7,cap7,L7,hk7,hle7,hcp7,hb7,h70,h72,h73⟩:=HI7.out.inn.st.opened HX7.out
   have HK7:=zh hk7
   have bx7:=HI7.out.inn.st.box
   rw[hk7] at bx7
   have hj2:s2.code.length<s5.code.length:=(List.getElem?_eq_some_iff.1 HX7.out).1
   have hn5:s5.code.length≤900000:=by have:=HR7.out.1;omega
   clear hg7 q0 q1 q2 q3 ql e3 el HN2 hs5 hk7
   have k0:=bx7.cell 0 rfl
   have kl:=bx7.lt
   have l2:=hb7.cell (s2.code.length*5+2) h72
   have lz:=hb7.free (s2.code.length*5+2)
   have ll:=hb7.lt
   have HG8:=zh (zjmp HI7.out.inn HK7.out hj2 (by omega) rfl)
   go_upto_region 11 with fail
   go_region
   all_goals
    obtain ⟨w8,hw8⟩:∃w8,(w7.setCell ⟨g7,s2.code.length*5+2,none⟩ (.int .i64 (s5.code.length:Int))).drew=w8:=⟨_,rfl⟩
    have HI8:=zh (show ZkGo B base mb K K7 X (s5.setA s2.code.length s5.len) W1 w8 from hw8 ▸ ((HI7.out.next HG8.out).after (Below.drew (Below.refl _ _))))
    have HI9:=zh (HI8.out.before HB1.out hsz)
    rw[hw8]
    clear hw8 k0 kl l2 lz ll HG8 bx7 hb7 h70 h72 h73 hle7 hcp7
    go_wp2_with fail
    first | go_end0 | (refine bodyPost_ret (results_none rfl _ _ _) rfl ?_)
    refine ⟨rfl,K7,?_⟩
    have:=HI9.out
    rw[←HS5.out,←HS4.out,←HS3.out,←HS2.out,←HS1.out] at this
    exact this
end
section
open Go Go.RowKit Mk
theorem IntsM.gap {W:World} {S:Nat→Prop} {H:Nat} {l:List Int} {v:Value} (h:IntsM W S l v) (hS:∀b,b<H→S b):SlC (Go.Proofs.YtdcajmeeeoofgaaGreatDoor.gap W 0 H) W.heap.size 1 IntR l v:=by
 obtain ⟨⟨o,len,cap,rfl,h1,h2,h3,h4⟩,h5⟩:=h
 refine ⟨o,len,cap,rfl,h1,h2,h3,?_⟩
 cases o with
 | none=>exact h4
 | some a=>
  by_cases hl:l=[]
  ·subst hl
   exact ⟨fun h=>absurd rfl h,fun i x hx=>by simp at hx⟩
  ·have hb:H≤a.block:=Nat.le_of_not_lt fun hlt=>h5 a.block rfl hl (hS _ hlt)
   refine ⟨h4.1,fun i x hx=>?_⟩
   obtain ⟨cs,g1,g2,g3⟩:=h4.2 i x hx
   exact ⟨cs,g1,fun j u hj=>(zcI (by omega)).trans (g2 j u hj),g3⟩
theorem MkS.gap {W:World} {base mb vb H:Nat} {cv:Value} {X:Nat→Prop} {s:MSt} (h:MkS W base mb vb cv X s) (hH:H≤base) (hX:∀b,b<H→X b):SlC (Go.Proofs.YtdcajmeeeoofgaaGreatDoor.gap W 0 H) W.heap.size 5 (InsR (Go.Proofs.YtdcajmeeeoofgaaGreatDoor.gap W 0 H) W.heap.size) s.code cv:=by
 obtain ⟨xs,hr,hc⟩:=h.row
 have h1:=za0 (zbL (lo:=0) hr hH) (hc.mono fun x _ cs hx=>show InsR (Go.Proofs.YtdcajmeeeoofgaaGreatDoor.gap W 0 H) W.heap.size x cs from by
  obtain ⟨sl,rfl,a1,a2,a3,a4,a5⟩:=hx
  exact ⟨sl,rfl,a1,a2,a3,a4,a5.gap fun b hb=>.inr (hX b hb)⟩)
 rwa[zcv] at h1
def varsTo (v:List Int) (j:Nat):List (Int × Int):=(v.take j).zip ((List.range j).map fun (i:Nat)=>(i:Int))
theorem zcS {v:List Int} {j:Nat} {x:Int} (hx:v[j]?=some x):varsTo v (j+1)=varsTo v j++[(x,(j:Int))]:=by
 have hj:=(List.getElem?_eq_some_iff.1 hx).1
 unfold varsTo
 rw[List.take_add_one,hx,List.range_succ,List.map_append,List.zip_append (by simp;omega)]
 rfl
theorem zbT (v:List Int) (j:Nat) (h:j≤v.length):(varsTo v j).length=j:=by simp[varsTo];omega
def ProcPost (H:Nat) (p:Proc) (w:World) (e:Ending) (w':World):Prop:=∃o l c,e=.returned (.agg #[.int .i64 p.args,.bool p.rest,.int .i64 p.regs,.slice o l c,.slice none 0 0])∧ProcR (Go.Proofs.YtdcajmeeeoofgaaGreatDoor.gap w' 0 H) w'.heap.size p [.int .i64 p.args,.bool p.rest,.int .i64 p.regs,.slice o l c,.slice none 0 0]∧Below w.heap.size w w'
theorem zke (c:Cod) (vs c0 c1 c2 c3:Value) (B:Nat) (nc nk:Int) (fr:Bool) (sc:Int→Bool) (W:World) (hv:CodR W B c [vs,.bool c.rest,c0,c1,c2,c3]) (hB:B≤W.heap.size) (hw:Trm.wf nc nk fr c.body sc=true) (hroom:c.v.length≤1000001∧6*c.body.all≤800000) :
  Calls prog 16 #[.agg #[vs,.bool c.rest,c0,c1,c2,c3]] W (ProcPost W.heap.size (Mk.proc Mk.lkL c) W):=by
 obtain ⟨vs',b0,b1,b2,b3,he,hvs,hbody⟩:=hv
 simp only[List.cons.injEq,and_true] at he
 obtain ⟨rfl,_,rfl,rfl,rfl,rfl⟩:=he
 obtain ⟨v,rest,body⟩:=c
 dsimp only at *
 obtain ⟨ov,lv,cvv,rfl⟩:=hvs.form
 obtain ⟨hlv,hlc,hlm⟩:=hvs.lens
 obtain ⟨q,r,u,q',r',u',rfl,rfl,rfl,rfl,hbn⟩:=TrmR.shape hbody
 obtain ⟨W4,hW4⟩:∃W4,(((W.alloc (.cells #[.slice ov lv cvv,.bool rest,.int .i64 body.op,.int .i64 body.n,.slice q r u,.slice q' r' u'] 43)).alloc (.cells #[.int .i64 0,.bool false,.int .i64 0,.slice none 0 0,.slice none 0 0] 47)).alloc (.map #[] 0)).alloc (.cells #[.slice none 0 0,.int .i64 lv,.map (some (W.heap.size+1+1))] 77)=W4:=⟨_,rfl⟩
 have HB4:=zh (show Below W.heap.size W W4 from by rw[←hW4];exact zbo W _ _ _ _)
 have HC:=zh (show BoxL W4 W.heap.size 43 [.slice ov lv cvv,.bool rest,.int .i64 body.op,.int .i64 body.n,.slice q r u,.slice q' r' u'] from by rw[←hW4];exact (((BoxL.new rfl _ _).alloc _).alloc _).alloc _)
 have HP:=zh (show BoxL W4 (W.heap.size+1) 47 [.int .i64 0,.bool false,.int .i64 0,.slice none 0 0,.slice none 0 0] from by rw[←hW4];exact ((BoxL.new (by simp) _ _).alloc _).alloc _)
 have HM:=zh (show MapVI W4 (W.heap.size+1+1) 0 (fun _=>0) from by
  rw[←hW4]
  have h:=MapVI.new ((W.alloc (.cells #[.slice ov lv cvv,.bool rest,.int .i64 body.op,.int .i64 body.n,.slice q r u,.slice q' r' u'] 43)).alloc (.cells #[.int .i64 0,.bool false,.int .i64 0,.slice none 0 0,.slice none 0 0] 47))
  rw[show ((W.alloc (.cells #[.slice ov lv cvv,.bool rest,.int .i64 body.op,.int .i64 body.n,.slice q r u,.slice q' r' u'] 43)).alloc (.cells #[.int .i64 0,.bool false,.int .i64 0,.slice none 0 0,.slice none 0 0] 47)).heap.size=W.heap.size+1+1 by simp] at h
  exact h.keep (Below.one _ _))
 have HX:=zh (show BoxL W4 (W.heap.size+1+1+1) 77 [.slice none 0 0,.int .i64 lv,.map (some (W.heap.size+1+1))] from by rw[←hW4];exact BoxL.new (by simp) _ _)
 have hs4:W4.heap.size=W.heap.size+1+1+1+1:=by rw[←hW4];simp
 have HI:=zh (show MkIn W4 B (W.heap.size+1+1+1+1) (W.heap.size+1+1+1) (W.heap.size+1+1) (.slice none 0 0) (fun b=>b<W.heap.size+1+1) ⟨[],lv,varsTo v 0⟩ from
  ⟨⟨HX.out,⟨[],World.ownsRow_nil _ _ _ _,rfl⟩,by
   have e:Mk.lkL (varsTo v 0)=fun _=>0:=by funext x;simp[varsTo,Mk.lkL]
   rw[e]
   exact HM.out⟩,by omega,by omega,by omega,by omega,fun b hb=>by omega⟩)
 have HV:=zh (show SlC W4 B 1 IntR v (.slice ov lv cvv) from hvs.kept (HB4.out.mono hB) fun _ _ _ h=>h)
 have HBD:=zh (TrmR.kept (HB4.out.mono hB) _ _ hbody)
 have HW:=zh hW4
 have HLV:=zh hlv
 have HS4:=zh hs4
 have HWF:=zh hw
 have hbp:=body.all_pos
 have HRO:=zh hroom
 have hlr:lv≤1000001:=by omega
 clear hW4 hlv hs4 hw hroom hvs hbody hbn HM HX
 have hmm:=@run_makeMap prog
 go_enter func16,ntmps16
 go_upto_region 2 with fail
 rw[HW.out]
 have e0:=HC.out.cell 0 rfl
 have el:=HC.out.lt
 go_wp2_with fail
 go_loopg [15] lv (fun g i wr=>∃(j:Nat),g=lv-j∧i=.int .i64 j∧j≤lv∧Hid (MkGo B (W.heap.size+1+1+1+1) (W.heap.size+1+1+1) (W.heap.size+1+1) (.slice none 0 0) (.slice none 0 0) (fun b=>b<W.heap.size+1+1) ⟨[],lv,varsTo v j⟩ W4 wr))
 case atStart=>exact ⟨0,rfl,rfl,by omega,zh (MkGo.refl HI.out)⟩
 case round=>
  obtain ⟨j,rfl,rfl,hj,HG⟩:=hrel
  clear e0 el
  by_cases hjl:j<lv
  ·obtain ⟨x,hx⟩:∃x,v[j]?=some x:=⟨_,List.getElem?_eq_getElem (by rw[←HLV.out];exact hjl)⟩
   obtain ⟨xb,xoff,hxo,hxb,hxc,hxi⟩:=SlC.int (HV.out.kept HG.out.low fun _ _ _ h=>h) hx
   subst hxo
   have hxl:=zac hxc
   have HXI:=zh hxi
   have HSN:=zh (zcS hx)
   have HVL:=zh (zbT v j (by have:=HLV.out;omega))
   have m2:=HG.out.inn.st.box.cell 2 rfl
   have ml:=HG.out.inn.st.box.lt
   clear hx hxi
   go_wp2_with (at_mapUpdate;refine zcl rfl _ _ _ rfl (W.heap.size+1+1) _ _ rfl HG.out.inn.st.vars (by show (varsTo v j).length<_;rw[HVL.out];omega) x (j:Int) rfl rfl HXI.out ⟨by omega,by omega⟩ ?_;intro w4 hm4 hg4;have HG4:=zh (HG.out.next (HG.out.inn.bound x (j:Int) hm4 hg4));clear hm4 hg4)
   have HG5:=zh (show MkGo B (W.heap.size+1+1+1+1) (W.heap.size+1+1+1) (W.heap.size+1+1) (.slice none 0 0) (.slice none 0 0) (fun b=>b<W.heap.size+1+1) ⟨[],lv,varsTo v (j+1)⟩ W4 w4 from by rw[HSN.out];exact HG4.out)
   clear HG4
   go_roundg (lv-(j+1))
   case measure=>omega
   case rel=>exact ⟨j+1,rfl,by go_num,by omega,HG5⟩
  ·obtain rfl:j=lv:=by omega
   have hvt:varsTo v j=v.zip ((List.range v.length).map fun (i:Nat)=>(i:Int)):=by unfold varsTo;rw[HLV.out,List.take_length]
   have hg:=HG.out
   rw[hvt] at hg
   have HG2:=zh hg
   have HC2:=zh (hg.box HI.out HC.out (by decide) (by decide))
   have HP2:=zh (hg.box HI.out HP.out (by decide) (by decide))
   have hrm:Room ⟨[],(j:Int),v.zip ((List.range v.length).map fun (i:Nat)=>(i:Int))⟩ (6*body.all):=by
    have h1:=HRO.out
    have h2:=HLV.out
    refine ⟨by simp;omega,by simp,by dsimp only;omega,fun p hp=>?_,by simp;omega⟩
    have:=(List.of_mem_zip hp).2
    simp only[List.mem_map,List.mem_range] at this
    obtain ⟨i,hi,e⟩:=this
    omega
   have HIN:=zh (zdN body.all body (Nat.le_refl _) true _ _ _ _ B _ _ _ _ _ _ 0 nc nk fr sc wr (TrmR.kept hg.low _ _ HBD.out) hg.inn HWF.out (hrm.mono (by omega)) ⟨by omega,by omega⟩)
   have HRM:=zh (Room.into Mk.lkL_ok body 0 true _ 0 (hrm.mono (by omega)))
   obtain ⟨S,hS⟩:∃S,Mk.into Mk.lkL body 0 true ⟨[],(j:Int),v.zip ((List.range v.length).map fun (i:Nat)=>(i:Int))⟩=S:=⟨_,rfl⟩
   rw[hS] at HIN HRM
   have HFIN:=zh (show Mk.proc Mk.lkL ⟨v,rest,body⟩=⟨(j:Int),rest,S.regs,S.code,[]⟩ from by
    have:=HLV.out
    unfold Mk.proc
    dsimp only
    rw[←hS,this])
   have e0:=HC2.out.cell 2 rfl
   have e1:=HC2.out.cell 3 rfl
   have e2:=HC2.out.cell 4 rfl
   have e3:=HC2.out.cell 5 rfl
   have el:=HC2.out.lt
   clear hg hvt hrm hS HG
   go_wp2_with fail
   with_reducible refine HIN.out.mono ?_
   rintro e w3 ⟨rfl,cv3,hg3⟩
   have HG3:=zh (HG2.out.next hg3)
   have HC3:=zh (hg3.box HG2.out.inn HC2.out (by decide) (by decide))
   have HP3:=zh (hg3.box HG2.out.inn HP2.out (by decide) (by decide))
   clear hg3 e0 e1 e2 e3 el
   have q0:=HC3.out.cell 0 rfl
   have q1:=HC3.out.cell 1 rfl
   have ql:=HC3.out.lt
   have m0:=HG3.out.inn.st.box.cell 0 rfl
   have m1:=HG3.out.inn.st.box.cell 1 rfl
   have ml:=HG3.out.inn.st.box.lt
   obtain ⟨oc,lc,cc,rfl⟩:∃oc lc cc,cv3=.slice oc lc cc:=by
    obtain ⟨xs,hr,_⟩:=HG3.out.inn.st.row
    rcases hr.2 with ⟨rfl,_⟩ | ⟨g,cap,cur,rfl,_⟩
    ·exact ⟨_,_,_,rfl⟩
    ·exact ⟨_,_,_,rfl⟩
   go_upto_region 8 with fail
   have HD:=zh ((Below.refl w3.heap.size w3).drew)
   refine zaa (Below w3.heap.size w3) 14 (by kernel_rfl) (by kernel_rfl) HD.out ?_
   intro T0 _ WW HWW HWW2
   have z0:∀t,(WW t).cell? _=_:=fun t=>((HWW t).cell (p:=⟨W.heap.size,0,none⟩) ql).trans q0
   have z1:∀t,(WW t).cell? _=_:=fun t=>((HWW t).cell (p:=⟨W.heap.size,1,none⟩) ql).trans q1
   have z2:∀t,(WW t).cell? _=_:=fun t=>((HWW t).cell (p:=⟨W.heap.size+1+1+1,0,none⟩) ml).trans m0
   have z3:∀t,(WW t).cell? _=_:=fun t=>((HWW t).cell (p:=⟨W.heap.size+1+1+1,1,none⟩) ml).trans m1
   have HWH:=zh HWW
   clear HWW HWW2
   simp only[List.take_succ_cons,List.take_zero,List.drop_succ_cons,List.drop_zero]
   repeat (go_big_quiet_step (fail))
   refine wpQuiet_nil ?_
   intro t'
   obtain ⟨W3,hW3⟩:∃W3,WW t'=W3:=⟨_,rfl⟩
   have HB3:=zh (show Below w3.heap.size w3 W3 from hW3 ▸ HWH.out t')
   rw[hW3]
   clear z0 z1 z2 z3 hW3 HWH q0 q1 ql m0 m1 ml
   have HG5:=zh (HG3.out.after HB3.out)
   have HP5:=zh (HP3.out.keep HB3.out)
   have p0:=HP5.out.cell 0 rfl
   have p1:=HP5.out.cell 1 rfl
   have p2:=HP5.out.cell 2 rfl
   have p3:=HP5.out.cell 3 rfl
   have p4:=HP5.out.cell 4 rfl
   have f0:=HP5.out.free 0
   have f1:=HP5.out.free 1
   have f2:=HP5.out.free 2
   have f3:=HP5.out.free 3
   have f4:=HP5.out.free 4
   have pl:=HP5.out.lt
   have bN:=((((HP5.out.set 0 (.int .i64 (j:Int))).set 1 (.bool rest)).set 2 (.int .i64 S.regs)).set 3 (.slice oc lc cc)).set 4 (.slice none 0 0)
   have n0:=bN.cell 0 rfl
   have n1:=bN.cell 1 rfl
   have n2:=bN.cell 2 rfl
   have n3:=bN.cell 3 rfl
   have n4:=bN.cell 4 rfl
   go_wp2_with fail
   obtain ⟨WF,hWF⟩:∃WF,(((((W3.setCell ⟨W.heap.size+1,0,none⟩ (.int .i64 (j:Int))).setCell ⟨W.heap.size+1,1,none⟩ (.bool rest)).setCell ⟨W.heap.size+1,2,none⟩ (.int .i64 S.regs)).setCell ⟨W.heap.size+1,3,none⟩ (.slice oc lc cc)).setCell ⟨W.heap.size+1,4,none⟩ (.slice none 0 0))=WF:=⟨_,rfl⟩
   rw[hWF] at n0 n1 n2 n3 n4 ⊢
   have hT:Turned (fun b=>b=W.heap.size+1) W3 WF:=by
    rw[←hWF]
    have ht:∀(A:World) (i:Nat) (v:Value),Turned (fun b=>b=W.heap.size+1) A (A.setCell ⟨W.heap.size+1,i,none⟩ v):=fun A i v=>Turned.set (S:=fun b=>b=W.heap.size+1) A ⟨W.heap.size+1,i,none⟩ v rfl
    exact ((((ht _ _ _).next (ht _ _ _)).next (ht _ _ _)).next (ht _ _ _)).next (ht _ _ _)
   have hst:=HG5.out.inn.st.keep (X':=fun b=>b<W.heap.size+1+1) hT (fun b _ hb=>⟨by rw[hb];omega,by rw[hb];exact HG5.out.inn.st.boxApart HP5.out (by decide) (by decide)⟩) (fun _ _ h=>h)
   have hcode:=hst.gap (H:=W.heap.size) (by omega) (fun b hb=>by omega)
   have hbl:Below W.heap.size W4 W3:=HG5.out.turned.below (fun b hb=>by
    rcases hb with rfl | rfl | hb
    ·omega
    ·omega
    ·simp[Value.ownBlock] at hb) HB4.out.size
   refine bodyPost_ret (v:=.agg #[.int .i64 (j:Int),.bool rest,.int .i64 S.regs,.slice oc lc cc,.slice none 0 0]) (by simp[results,results16,go_sem,n0,n1,n2,n3,n4]) rfl ⟨oc,lc,cc,by rw[HFIN.out],?_,(HB4.out.trans hbl).trans (hT.below (fun b hb=>by omega) (by have:=(HB4.out.trans hbl).size;omega))⟩
   rw[HFIN.out]
   exact ⟨_,_,rfl,⟨by dsimp only;omega,by dsimp only;omega⟩,⟨by have:=HRM.out.2.1;dsimp only;omega,by have:=HRM.out.2.2.1;dsimp only;omega⟩,hcode,⟨none,0,0,rfl,rfl,Nat.le_refl _,by omega,rfl,rfl⟩⟩
end
end Go.Proofs.YtdcajmeeeoofgaaGreatDoor
