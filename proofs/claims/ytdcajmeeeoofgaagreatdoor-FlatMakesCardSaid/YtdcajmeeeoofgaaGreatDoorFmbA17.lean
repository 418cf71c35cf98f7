/- .. -/
import Derived.Deep.RegionLaw
import Derived.Deep.AppendLies
import Derived.Test.YtdcajmeeeoofgaaGreatDoorFmbA16
open Go.Proofs.Tryz
set_option maxRecDepth 100000
set_option maxHeartbeats 16000000
namespace Go.Proofs.YtdcajmeeeoofgaaGreatDoor
section
open Go Go.RowKit Mk
theorem ziY (e:Bool) (n:Int) (v:List Int) (l:List Trm) (x:Trm) (hlv0:l.length=v.length) (hl:∀y∈l,ZHadC y) (hx:ZIntoC e x) (c0 c1 c2 c3:Value) (B base mb:Nat) (K:KV) (X:Nat→Prop) (s:MSt) (d:Int) (nc nk:Int) (fr:Bool) (sc sc':Int→Bool) (W:World)
  (hv:TrmR W B (.mk 8 n v (l++[x])) [c0,c1,c2,c3]) (hm:ZkIn W B base mb K X s) (hwl:∀y∈l,Trm.wf nc nk fr y sc=true) (hwx:Trm.wf nc nk fr x sc'=true) (hroom:Room s (6*Trm.allL (l++[x])+4)) (hd:0≤d∧d≤1900000) :
  Calls prog 76 #[.pointer (some ⟨mb,0,none⟩),.agg #[c0,c1,c2,c3],.int .i64 d,.bool e] W fun r w'=>r=.returned (.tuple #[])∧∃K',ZkGo B base mb K K' X (Mk.into Mk.lkF x d e ((Mk.allT Mk.lkF l s).2.bind v (Mk.allT Mk.lkF l s).1)) W w':=by
 obtain ⟨W1,hW1⟩:∃W1,W.alloc (.cells #[c0,c1,c2,c3] 27)=W1:=⟨_,rfl⟩
 have HB1:=zh (show Below W.heap.size W W1 from by rw[←hW1];exact Below.one W _)
 have HBX:=zh (show BoxL W1 W.heap.size 27 [c0,c1,c2,c3] from by rw[←hW1];exact BoxL.new rfl _ _)
 have HM:=zh (hm.keep HB1.out)
 have hsz:=hm.size
 have HW:=zh hW1
 obtain ⟨vs,ts,he,_,hn,hvs,hts⟩:=zas.1 hv
 simp only[List.cons.injEq,and_true] at he
 obtain ⟨rfl,rfl,rfl,rfl⟩:=he
 obtain ⟨ov,lv,cvv,rfl⟩:=hvs.form
 obtain ⟨ot,lt,ct,rfl⟩:=hts.form
 have HT:=zh (show TrmS W1 B (l++[x]) (.slice ot lt ct) from TrmS.kept hts (HB1.out.mono hsz))
 have HV:=zh (show SlC W1 B 1 IntR v (.slice ov lv cvv) from hvs.kept (HB1.out.mono hsz) fun _ _ _ h=>h)
 obtain ⟨hlt,hltc,hltm⟩:=SlC.lens HT.out
 obtain ⟨hlv,hlvc,hlvm⟩:=HV.out.lens
 obtain rfl:lt=lv+1:=by rw[hlt,hlv,←hlv0];simp
 have HLL:=zh (show l.length=lv by omega)
 have HLV:=zh hlv
 have HH:=zh hl
 have HX:=zh hx
 have HWL:=zh hwl
 have HWX:=zh hwx
 rw[zaz,show Trm.allL [x]=x.all by simp[Trm.allL]] at hroom
 have HRO:=zh hroom
 have hxp:=x.all_pos
 have hshort:lv≤300000:=by have:=Trm.allL_length l;have:=hroom.1;have:=HLL.out;omega
 have HB:=zh (fun (j:Nat)=>show ∀x∈(Mk.allT Mk.lkF (l.take j) s).1,I64 x from fun x hx=>by
  have h1:=(Room.allT (k:=0) Mk.lkF_ok (l.take j) s (hroom.mono (by have:=zaQ l j;omega))).2 x hx
  exact ⟨by omega,by omega⟩)
 have e0:=HBX.out.cell 0 rfl
 have e2:=HBX.out.cell 2 rfl
 have el:=HBX.out.lt
 have hzW:=HB1.out.size
 clear hv hm hW1 hts hvs hl hx hwl hwx hroom hlt hlv hlv0
 go_enter func76,ntmps76
 go_upto_region 1 with fail
 rw[HW.out]
 go_wp2_with fail
 go_loopg [10,9] lv (fun g i ov wr=>∃(j:Nat) (K':KV),g=lv-j∧i=.int .i64 j∧j≤lv∧Hid (ZkGo B base mb K K' (fun b=>X b∨ov.ownBlock=some b) (Mk.allT Mk.lkF (l.take j) s).2 W1 wr)∧Hid (wr.ownsRow W1.heap.size 3 1 ov (Mk.allT Mk.lkF (l.take j) s).1.length ((Mk.allT Mk.lkF (l.take j) s).1.map (Value.int .i64)))∧Hid (∀b,ov.ownBlock=some b→¬SZ mb K' b))
 case atStart=>exact ⟨0,K,rfl,rfl,by omega,zh (by simpa[Mk.allT] using ZkGo.refl (HM.out.turn (X':=fun b=>X b∨(Value.slice none 0 0).ownBlock=some b) (fun b _ h=>h.elim id (fun h=>by simp[Value.ownBlock] at h)) (fun b h=>h.elim (HM.out.bx b) (fun h=>by simp[Value.ownBlock] at h)))),zh (by simpa[Mk.allT] using World.ownsRow_nil _ _ _ _),zh (fun b h=>by simp[Value.ownBlock] at h)⟩
 case round=>
  obtain ⟨j,K',rfl,rfl,hj,HG,HO,HAP⟩:=hrel
  clear e0 e2 el
  have HBX2:=zh (HG.out.turned.box HBX.out (HM.out.st.boxApart HBX.out (by decide) (by decide) (by decide)))
  have e3:=HBX2.out.cell 3 rfl
  have e2:=HBX2.out.cell 2 rfl
  have el:=HBX2.out.lt
  by_cases hjl:j<lv
  ·obtain ⟨x',hx⟩:∃x',l[j]?=some x':=⟨_,List.getElem?_eq_getElem (by rw[HLL.out];exact hjl)⟩
   have hx':(l++[x])[j]?=some x':=by rw[List.getElem?_append_left (by rw[HLL.out];exact hjl)];exact hx
   obtain ⟨b,off,cs,ho,_,hcl,hcell,hr⟩:=SlC.at HT.out HG.out.low hx'
   subst ho
   match cs,hcl with
   | [c0,c1,c2,c3],_=>
    have q0:=hcell 0 _ rfl
    have q1:=hcell 1 _ rfl
    have q2:=hcell 2 _ rfl
    have q3:=hcell 3 _ rfl
    simp only[Nat.add_zero] at q0
    have hbl:=zac q0
    obtain ⟨qa,qb,qc,qd,qe,qf,rfl,rfl,rfl,rfl,_⟩:=TrmR.shape hr
    have hjt:j<lv+1:=by omega
    have hrm:=Room.allT (k:=6*x'.all) Mk.lkF_ok (l.take j) s (HRO.out.mono (by have:=za2 hx;have:=zaQ l (j+1);omega))
    have HC:=zh (HH.out x' (List.mem_of_getElem? hx) _ _ _ _ B base mb K' _ (Mk.allT Mk.lkF (l.take j) s).2 nc nk fr sc wr (TrmR.kept HG.out.low _ _ hr) HG.out.inn (HWL.out x' (List.mem_of_getElem? hx)) (hrm.1.mono (by omega)))
    have HTK:=zh (zbY Mk.lkF hx s)
    have hjb:=zh (HB.out (j+1))
    obtain ⟨q,hq⟩:∃q,Mk.had Mk.lkF x' (Mk.allT Mk.lkF (l.take j) s).2=q:=⟨_,rfl⟩
    have HLEN:=zh (show (Mk.allT Mk.lkF (l.take j) s).1.length=j from by rw[zae,List.length_take];have:=HLL.out;omega)
    rw[hq] at HC HTK
    clear hr hrm hx hx' hq hcell
    go_wp2_with fail
    refine HC.out.mono ?_
    rintro e w2 ⟨rfl,K2,hg2⟩
    have HG2:=zh (HG.out.next hg2)
    have hq64:I64 q.1:=hjb.out _ (by rw[HTK.out];simp)
    have HQ:=zh hq64
    have HO2:=zh (zaM HO.out (fun c hc=>hg2.turned.block c (zan HO.out hc) (HAP.out c hc)))
    have HAP2:=zh (show ∀b,u9.ownBlock=some b→¬SZ mb K2 b from fun b h hs=>HAP.out b h (hg2.less b (zan HO.out h) hs))
    have hw2:W1.heap.size≤w2.heap.size:=HG2.out.turned.size
    have hlen2:(Mk.allT Mk.lkF (l.take j) s).1.length≤300000:=by have:=HLEN.out;omega
    obtain ⟨i0,hi0,hz0,hz1,hz2⟩:=info_parts zbu
    clear hg2 hq64 q0 q1 q2 q3 hbl e3 e2 el
    go_wp2_with (at_builtin;refine wpList_append_lies _ rfl (.tmp 27) (.tmp 35) 24 rfl W1.heap.size 3 i0 (.int .i64 0) 1 8 underlying24 hi0 hz0 hz1 hz2 rfl (by decide) u9 (Mk.allT Mk.lkF (l.take j) s).1.length _ rfl (HO2.out.alloc _) ⟨w2.heap.size,0,none⟩ 1 1 [.int .i64 q.1] rfl rfl (zaS w2 _ _) (by intro u hu;simp only[List.mem_cons,List.not_mem_nil,or_false] at hu;subst hu;rfl) (by decide) (by unfold maxLen;omega) (by omega) (by simp;omega) (w2.heap.size+1) (by simp) ?_)
    intro g cap w3 hown hgrow hlie hglt
    have HT3:Turned (fun b=>u9.ownBlock=some b) w2 w3:=(Turned.of_below (Below.one w2 _)).next (Turned.grown hgrow (fun b h=>h))
    have HTT:Turned (SZ mb K) W1 w3:=HG2.out.turned.trans HT3 (fun b hb h=>by have:=zao HO2.out h;omega)
    have hgS:¬SZ mb K2 g:=fun hs=>by
     rcases hlie with h | h
     ·exact HAP2.out g h hs
     ·have:=HG2.out.inn.st.lt g hs
      omega
    have HAP3:=zh (show ∀b,(Value.slice (some ⟨g,0,none⟩) ((Mk.allT Mk.lkF (l.take j) s).1.length+1) cap).ownBlock=some b→¬SZ mb K2 b from fun b h=>by
     have e:g=b:=by simpa[Value.ownBlock] using h
     subst e
     exact hgS)
    have HGN:=zh (show ZkGo B base mb K K2 (fun b=>X b∨(Value.slice (some ⟨g,0,none⟩) ((Mk.allT Mk.lkF (l.take j) s).1.length+1) cap).ownBlock=some b) (Mk.allT Mk.lkF (l.take (j+1)) s).2 W1 w3 from by
     rw[HTK.out]
     refine ⟨⟨HG2.out.inn.st.keep HT3 (fun b _ h=>⟨.inr h,HAP2.out b h⟩) (fun b hb h=>?_),HG2.out.inn.b1,HG2.out.inn.b2,Nat.le_trans HG2.out.inn.b4 HT3.size,fun b h=>?_⟩,HTT,HG2.out.less,HTT.below HM.out.low (Nat.le_trans hsz hzW)⟩
     ·refine h.imp id fun e=>?_
      have e:g=b:=by simpa[Value.ownBlock] using e
      subst e
      rcases hlie with h | h
      ·exact h
      ·omega
     ·rcases h with h | h
      ·exact Nat.lt_of_lt_of_le (HG2.out.inn.bx b (.inl h)) HT3.size
      ·have e:g=b:=by simpa[Value.ownBlock] using h
       subst e
       exact hglt)
    have HON:=zh (show w3.ownsRow W1.heap.size 3 1 (.slice (some ⟨g,0,none⟩) ((Mk.allT Mk.lkF (l.take j) s).1.length+1) cap) (Mk.allT Mk.lkF (l.take (j+1)) s).1.length ((Mk.allT Mk.lkF (l.take (j+1)) s).1.map (Value.int .i64)) from by
     rw[HTK.out]
     simpa using hown)
    clear hown hgrow hlie hglt HT3 HTT hgS
    go_wp2_with fail
    go_roundg (lv-(j+1))
    case measure=>omega
    case rel=>exact ⟨j+1,K2,rfl,by go_num,by omega,HGN,HON,HAP3⟩
  ·obtain rfl:j=lv:=by omega
   have HE:=zh (show l.take j=l from List.take_of_length_le (by rw[HLL.out];exact Nat.le_refl _))
   have hg:=HG.out
   have ho:=HO.out
   have hb:=HB.out j
   rw[HE.out] at hg ho hb
   have HIN:=zh (show IntsM wr (fun b=>SZ mb K' b∨X b) (Mk.allT Mk.lkF l s).1 u9 from IntsM.of_row ho hb (fun b h hs=>by
    rcases hs with hs | hs
    ·exact HAP.out b h hs
    ·have:=HM.out.bx b hs
     have:=zao ho h
     omega))
   have HPL0:=zh (zae Mk.lkF l s)
   have hra:=Room.allT (k:=6*x.all+4) Mk.lkF_ok l s (HRO.out.mono (by omega))
   have hra2:=zc4 Mk.lkF_ok l s (6*x.all-2+l.length) (HRO.out.mono (by have:=Trm.allL_length l;omega))
   obtain ⟨p,hp⟩:∃p,Mk.allT Mk.lkF l s=p:=⟨_,rfl⟩
   rw[hp] at hg HIN HPL0 hra hra2 hb
   have HP:=zh hp
   have HRA:=zh hra
   have HRA2:=zh hra2
   have HBI:=zh hb
   have HG2:=zh (show ZkGo B base mb K K' X p.2 W1 wr from ⟨hg.inn.turn (fun b _ h=>.inl h) (fun b h=>hg.inn.bx b (.inl h)),hg.turned,hg.less,hg.low⟩)
   obtain ⟨ol,ll,cl,rfl⟩:=HIN.out.1.form
   obtain ⟨hll,hlc,hlm⟩:=HIN.out.1.lens
   obtain rfl:ll=j:=by rw[hll,HPL0.out,HLL.out]
   obtain ⟨w1,hw1⟩:∃w1,wr=w1:=⟨_,rfl⟩
   rw[hw1] at HIN HG2 e3 e2 el HBX2 ⊢
   clear hg ho hb HG HO hp hra hra2 hll hw1
   go_wp2_with fail
   go_loopg [11] ll (fun g i wr=>∃(k:Nat) (K2:KV),g=ll-k∧i=.int .i64 k∧k≤ll∧Hid (ZkGo B base mb K' K2 X (p.2.bind (v.take k) (p.1.take k)) w1 wr))
   case atStart=>exact ⟨0,K',rfl,rfl,by omega,zh (by simpa[MSt.bind] using ZkGo.refl HG2.out.inn)⟩
   case round=>
    obtain ⟨k,K2,rfl,rfl,hk,HG⟩:=hrel
    clear e3 e2 el
    have HBX3:=zh ((HG2.out.next HG.out).turned.box HBX.out (HM.out.st.boxApart HBX.out (by decide) (by decide) (by decide)))
    by_cases hkl:k<ll
    ·obtain ⟨y,hy⟩:∃y,v[k]?=some y:=⟨_,List.getElem?_eq_getElem (by rw[←HLV.out];exact hkl)⟩
     obtain ⟨r0,hr0⟩:∃r0,p.1[k]?=some r0:=⟨_,List.getElem?_eq_getElem (by rw[HPL0.out,HLL.out];exact hkl)⟩
     obtain ⟨yb,yoff,hyo,hyb,hyc,hyi⟩:=SlC.int (HV.out.kept (HG2.out.low.trans HG.out.low) fun _ _ _ h=>h) hy
     obtain ⟨gb,goff,hgo,hgb,hgc,hgi⟩:=SlC.int (IntsM.goZ HIN.out HG.out).1 hr0
     subst hyo hgo
     have hyl:=zac hyc
     have hgl:=zac hgc
     have HYI:=zh hyi
     have HGI:=zh hgi
     have HSN:=zh (show p.2.bind (v.take (k+1)) (p.1.take (k+1))=(p.2.bind (v.take k) (p.1.take k)).bind [y] [r0] from by
      simp only[MSt.bind]
      rw[List.take_add_one,hy,List.take_add_one,hr0,List.zip_append (by rw[List.length_take,List.length_take];have:=(List.getElem?_eq_some_iff.1 hy).1;have:=(List.getElem?_eq_some_iff.1 hr0).1;omega),List.append_assoc]
      rfl)
     have hvl:(p.2.bind (v.take k) (p.1.take k)).vars.length≤2000000:=by
      have h1:=HRA2.out.2.2.2.2
      have h2:=HLL.out
      have h3:=HPL0.out
      simp only[MSt.bind,List.length_append,List.length_zip,List.length_take]
      omega
     have e2:=HBX3.out.cell 2 rfl
     have el:=HBX3.out.lt
     clear hy hr0 hyi hgi
     go_upto_region 11 with fail
     have HD:=zh ((Below.refl wr.heap.size wr).drew)
     refine zaa (Below wr.heap.size wr) 10 (by kernel_rfl) (by kernel_rfl) HD.out ?_
     intro T0 _ WW HWW HWW2
     have z0:∀t,(WW t).cell? _=_:=fun t=>((HWW t).cell (p:=⟨yb,yoff+k,none⟩) hyl).trans hyc
     have z1:∀t,(WW t).cell? _=_:=fun t=>((HWW t).cell (p:=⟨W.heap.size,2,none⟩) el).trans e2
     have z2:∀t,(WW t).cell? _=_:=fun t=>((HWW t).cell (p:=⟨gb,goff+k,none⟩) hgl).trans hgc
     have HWH:=zh HWW
     clear HWW HWW2
     simp only[List.take_succ_cons,List.take_zero,List.drop_succ_cons,List.drop_zero]
     repeat (go_big_quiet_step (fail))
     refine wpQuiet_nil ?_
     intro t'
     obtain ⟨W3,hW3⟩:∃W3,WW t'=W3:=⟨_,rfl⟩
     have HB3:=zh (show Below wr.heap.size wr W3 from hW3 ▸ HWH.out t')
     rw[hW3]
     clear z0 z1 z2 hW3 HWH hyl hyc e2 el hgc hgl
     have HG3:=zh (HG.out.after HB3.out)
     have HBD:=zh (zcD y r0 W3 HG3.out.inn hvl HYI.out HGI.out)
     clear hvl
     go_wp2_with fail
     with_reducible refine HBD.out.mono ?_
     rintro e w4 ⟨rfl,K4,hg4⟩
     have HG4:=zh (HG3.out.next hg4)
     rw[←HSN.out] at HG4
     clear hg4
     go_wp2_with fail
     go_roundg (ll-(k+1))
     case measure=>omega
     case rel=>exact ⟨k+1,K4,rfl,by go_num,by omega,HG4⟩
    ·obtain rfl:k=ll:=by omega
     have HE1:=zh (show v.take k=v from List.take_of_length_le (by rw[←HLV.out];exact Nat.le_refl _))
     have HE2:=zh (show p.1.take k=p.1 from List.take_of_length_le (by rw[HPL0.out,HLL.out];exact Nat.le_refl _))
     have hg:=HG2.out.next HG.out
     rw[HE1.out,HE2.out] at hg
     have HG5:=zh hg
     have HR5:=zh (show Room (p.2.bind v p.1) (6*x.all-2) from Room.bind v p.1 (HRA2.out.mono (by rw[HPL0.out];exact Nat.le_refl _)) HRA.out.2)
     clear hg
     obtain ⟨tb,off,x0,x1,x2,x3,hto,hpx⟩:=TrmS.part HT.out (i:=k) (x:=x) (by rw[←HLL.out];simp)
     subst hto
     have HPX5:=zh (hpx.kept HG5.out.low)
     obtain ⟨qa,qb,qc,qd,qe,qf,rfl,rfl,rfl,rfl,_⟩:=TrmR.shape HPX5.out.r
     have HI:=zh (HX.out _ _ _ _ B base mb K2 X _ d nc nk fr sc' wr HPX5.out.r HG5.out.inn HWX.out (HR5.out.mono (by omega)) hd)
     have e3:=HBX3.out.cell 3 rfl
     have el:=HBX3.out.lt
     have q0:=HPX5.out.e0
     have q1:=HPX5.out.e1
     have q2:=HPX5.out.e2
     have q3:=HPX5.out.e3
     have ql:=HPX5.out.size
     clear hpx
     go_wp2_with fail
     with_reducible refine HI.out.mono ?_
     rintro r w6 ⟨rfl,K6,hg6⟩
     have HG9:=zh ((HG5.out.next hg6).before HB1.out hsz)
     clear hg6 HI e3 el q0 q1 q2 q3 ql
     go_wp2_with fail
     first | go_end0 | (refine bodyPost_ret (results_none rfl _ _ _) rfl ?_)
     exact ⟨rfl,_,by rw[HP.out];exact HG9.out⟩
end
section
open Go Go.RowKit Mk
def MuI (ps:List Proc) (cons:List Dat) (nC H b4:Nat) (cv crow:Value) (xc:List Value) (w:World) (j:Nat) (wr:World):Prop:=
 ∃v xs,Below H w wr∧BoxL wr (H+1) 34 [.slice none 0 0,.slice none 0 0]∧BoxL wr b4 34 [cv,v]∧(∃o l c,v=.slice o l c)∧wr.ownsRow (H+2) 47 5 v j xs ∧
  CellsG 5 (ProcN wr (fun b=>b=b4∨b=H+1∨v.ownBlock=some b)) (ps.take j) xs∧(∃U B,Sub (fun b=>b=b4∨b=H+1∨v.ownBlock=some b) U wr∧B≤wr.heap.size∧RepS U B cons cv)∧wr.ownsRow (H+2) 43 6 crow nC xc
theorem zdQ {ps:List Proc} {cons:List Dat} {nC H b4 j g c:Nat} {cv crow v sl:Value} {xc:List Value} {w wr W1 W6 w7:World} {p:Proc} {xs:List Value} (hb:Below H w wr) (hbr:BoxL wr (H+1) 34 [.slice none 0 0,.slice none 0 0]) (hbx:BoxL wr b4 34 [cv,v])
  (hown:wr.ownsRow (H+2) 47 5 v j xs) (hcs:CellsG 5 (ProcN wr (fun b=>b=b4∨b=H+1∨v.ownBlock=some b)) (ps.take j) xs) (hcons:∃U B,Sub (fun b=>b=b4∨b=H+1∨v.ownBlock=some b) U wr∧B≤wr.heap.size∧RepS U B cons cv) (hrow:wr.ownsRow (H+2) 43 6 crow nC xc) (hH4:H+1<b4)
  (hpj:ps[j]?=some p) (h1:Below wr.heap.size wr W1) (h6:Below W1.heap.size W1 W6) (hgr:W6.grownBy w7 v.ownBlock) (hsl:∃U B,Sub (fun b=>b<wr.heap.size) U W1∧B≤W1.heap.size∧SlC U B 5 (InsR U B) p.code sl)
  (hargs:-9223372036854775808≤p.args∧p.args≤9223372036854775807) (hregs:-9223372036854775808≤p.regs∧p.regs≤9223372036854775807) (hal:p.alive=[])
  (hown7:w7.ownsRow (H+2) 47 5 (.slice (some ⟨g,0,none⟩) (j+1) c) (j+1) (xs++[.int .i64 p.args,.bool p.rest,.int .i64 p.regs,sl,.slice none 0 0])) (hgo:v.ownBlock=some g∨W6.heap.size≤g) :
  BoxL w7 b4 34 [cv,v]∧MuI ps cons nC H b4 cv crow xc w (j+1) (w7.setCell ⟨b4,1,none⟩ (.slice (some ⟨g,0,none⟩) (j+1) c)):=by
 have h16:Below wr.heap.size wr W6:=Below.next h1 h6
 have hlt:=hown.lt
 have hz1:=h1.size
 have hz6:=h6.size
 have hz7:=hgr.size
 have hHr:=hbr.lt
 have hb4l:=hbx.lt
 have boxes:∀{b:Nat} {cs:List Value},BoxL wr b 34 cs→BoxL w7 b 34 cs:=fun {b cs} h=>by
  refine (hgr.block b (by have:=h.lt;omega) (fun e=>?_)).trans (h.keep h16)
  obtain ⟨cs',f,hc⟩:=zaF hown b e.symm
  rw[show wr.heap[b]?=_ from h] at hc
  simp at hc
 have hsub:∀U,Sub (fun b=>b=b4∨b=H+1∨v.ownBlock=some b) U wr→Sub (fun b=>b=b4∨b=H+1∨(Value.slice (some ⟨g,0,none⟩) (j+1) c).ownBlock=some b) U (w7.setCell ⟨b4,1,none⟩ (.slice (some ⟨g,0,none⟩) (j+1) c)):=fun U hU=>by
  refine ((hU.below h16).step hz7 (fun b hl hn=>hgr.block b hl (fun e=>hn (.inr (.inr e.symm)))) (fun b hl hS=>?_)).set ⟨b4,1,none⟩ _ (.inl rfl)
  rcases hS with h | h | h
  ·exact .inl h
  ·exact .inr (.inl h)
  ·simp only[Value.ownBlock,Option.some.injEq] at h
   subst h
   rcases hgo with h | h
   ·exact .inr (.inr h)
   ·omega
 refine ⟨boxes hbx,.slice (some ⟨g,0,none⟩) (j+1) c,xs++[.int .i64 p.args,.bool p.rest,.int .i64 p.regs,sl,.slice none 0 0],?_,?_,(boxes hbx).set 1 _,⟨_,_,_,rfl⟩,?_,?_,?_,?_⟩
 ·refine Below.setCell (p:=⟨b4,1,none⟩) ?_ (by dsimp only;omega) _
  refine (hb.trans (h16.mono (by omega))).grown hgr (by omega) (fun k e=>?_)
  have:=(hlt k e).1
  omega
 ·exact (boxes hbr).other _ _ (by dsimp only;omega)
 ·refine zaV hown7 _ _ (fun r hr e=>?_)
  obtain ⟨cs',f,hc⟩:=zaF hown7 r hr
  have e:r=b4:=e
  rw[e,show w7.heap[b4]?=_ from boxes hbx] at hc
  simp at hc
 ·rw[List.take_add_one,hpj]
  refine CellsG.snoc (size:=5) rfl ?_ (hcs.mono fun x _ cs h=>h.to hsub (by rw[World.size_setCell];omega))
  obtain ⟨U,B,g1,g2,g3⟩:=hsl
  refine ⟨U,B,sl,((g1.below h6).step (S':=fun b=>b=b4∨b=H+1∨(Value.slice (some ⟨g,0,none⟩) (j+1) c).ownBlock=some b) hz7 (fun b hl hn=>hgr.block b hl (fun e=>hn ?_)) (fun b hl hS=>?_)).set ⟨b4,1,none⟩ _ (.inl rfl),by rw[World.size_setCell];omega,rfl,hargs,hregs,g3,hal⟩
  ·have:=(hlt b e.symm).2
   omega
  ·rcases hS with h | h | h
   ·show b<wr.heap.size
    omega
   ·show b<wr.heap.size
    omega
   ·simp only[Value.ownBlock,Option.some.injEq] at h
    subst h
    rcases hgo with h | h
    ·exact (hlt _ h).2
    ·omega
 ·obtain ⟨U,B,g1,g2,g3⟩:=hcons
  exact ⟨U,B,hsub U g1,by rw[World.size_setCell];omega,g3⟩
 ·refine zaV (zaM hrow (fun r hr=>?_)) _ _ (fun r hr e=>?_)
  ·refine (hgr.block r (by have:=zan hrow hr;omega) (fun e=>?_)).trans (h16.block r (zan hrow hr))
   obtain ⟨cs',f,hc⟩:=zaF hrow r hr
   obtain ⟨ds',f',hd⟩:=zaF hown r e.symm
   rw[hc] at hd
   simp at hd
  ·obtain ⟨cs',f,hc⟩:=zaF hrow r hr
   have e:r=b4:=e
   rw[e,show wr.heap[b4]?=_ from hbx] at hc
   simp at hc
theorem zbk {W:World} {base g n size cap i:Nat} {e:TypeId} {xs:List Value} {u:Value} (h:W.ownsRow base e size (.slice (some ⟨g,0,none⟩) n cap) n xs) (hu:xs[i]?=some u):W.cell? ⟨g,i,none⟩=some u:=by
 rcases h.2 with ⟨h0,_⟩ | ⟨g',cap',cur,he,_,hg,_,_,_,htk⟩
 ·cases h0
 ·simp only[Value.slice.injEq,Option.some.injEq,Addr.mk.injEq,and_true,true_and] at he
  obtain ⟨rfl,rfl⟩:=he
  have hb:BoxL W g e cur.toList:=hg
  refine hb.cell i ?_
  rw[←htk,List.getElem?_take] at hu
  split at hu
  ·exact hu
  ·cases hu
theorem zma {W5 w6 w7:World} {B:Nat} (h6:Below W5.heap.size W5 w6) (h7:Below W5.heap.size W5 w7) (hB:B≤W5.heap.size) (hs:w6.heap.size≤w7.heap.size):Below B w6 w7:=⟨h7.os.trans h6.os.symm,h7.tape.trans h6.tape.symm,h7.output.trans h6.output.symm,hs,fun b hb=>(h7.block b (by omega)).trans (h6.block b (by omega)).symm⟩
theorem zc0 {W:World} {H H':Nat} {p:Proc} {a r g o8 x:Value} (h:ProcR (Go.Proofs.YtdcajmeeeoofgaaGreatDoor.gap W 0 H) W.heap.size p [a,r,g,o8,x]) (hH:H'≤H):∃U B,Sub (fun b=>b<H') U W∧B≤W.heap.size∧SlC U B 5 (InsR U B) p.code o8:=by
 obtain ⟨sl,al,he,_,_,hs,_⟩:=h
 simp only[List.cons.injEq,and_true] at he
 obtain ⟨rfl,rfl,rfl,rfl,rfl⟩:=he
 exact ⟨_,_,Sub.of_gap (fun b hb=>Nat.lt_of_lt_of_le hb hH),Nat.le_refl _,hs⟩
theorem zcc {W:World} {B:Nat} {p:Proc} {cs:List Value} (h:ProcR W B p cs):(-9223372036854775808≤p.args∧p.args≤9223372036854775807)∧(-9223372036854775808≤p.regs∧p.regs≤9223372036854775807):=by
 obtain ⟨sl,al,_,h1,h2,_⟩:=h
 exact ⟨h1,h2⟩
theorem zcN {W:World} {b:Nat} {t:TypeId} {cs:List Value} (h:BoxL W b t cs):∀(j:Nat) (u:Value),cs[j]?=some u→W.cell? ((⟨b,0,none⟩:Addr).add j)=some u:=fun j u hj=>by
 rw[zaP rfl]
 simpa using h.cell j hj
def Mdl.cods (m:Mdl):List Cod:=m.codes++[⟨[],false,m.body⟩]
theorem zeT {m:Mdl} (h:m.okB=true):∀c∈m.cods,∃nc nk fr sc,Trm.wf nc nk fr c.body sc=true:=fun c hc=>by
 rw[Mdl.okB] at h
 simp only[Bool.and_eq_true] at h
 obtain ⟨_,⟨h1,h2⟩,h3⟩:=h
 rcases List.mem_append.1 hc with hc | hc
 ·exact ⟨_,_,_,_,(Mdl.codes_each h3 c hc).1⟩
 ·rw[List.mem_singleton.1 hc]
  exact ⟨_,_,_,_,h1⟩
theorem zcK {nc nk:Int}:∀{l:List Cod} {B:Int→Bool},Mdl.codesB nc nk l B=true→∀c∈l,c.v.length≤1000001
 | [],_,_,c,h=>by simp at h
 | x::l,B,h,c,hc=>by
  rw[Mdl.codesB] at h
  simp only[Bool.and_eq_true] at h
  obtain ⟨h1,h2,h3,h4⟩:=h
  rcases List.mem_cons.1 hc with rfl | hc
  ·have:=Trm.newB_short h2
   rw[List.length_append] at this
   omega
  ·exact zcK h4 c hc
theorem zdo {m:Mdl} (h:m.okB=true):∀c∈m.cods,c.v.length≤1000001:=fun c hc=>by
 rw[Mdl.okB] at h
 simp only[Bool.and_eq_true] at h
 rcases List.mem_append.1 hc with hc | hc
 ·exact zcK h.2.2 c hc
 ·rw[List.mem_singleton.1 hc]
  simp
theorem zbl (m:Mdl):(m.unit Mk.lkL).procs=m.cods.map (Mk.proc Mk.lkL):=by simp[Mdl.unit,Mdl.cods]
theorem zdr {a:Act} (h:a.tmps.size=41) (hd:a.defers=[]):∃x0 x1 x2 x3 x4 x5 x6 x7 x8 x9 x10 x11 x12 x13 x14 x15 x16 x17 x18 x19 x20 x21 x22 x23 x24 x25 x26 x27 x28 x29 x30 x31 x32 x33 x34 x35 x36 x37 x38 x39 x40,a = { tmps:=#[x0,x1,x2,x3,x4,x5,x6,x7,x8,x9,x10,x11,x12,x13,x14,x15,x16,x17,x18,x19,x20,x21,x22,x23,x24,x25,x26,x27,x28,x29,x30,x31,x32,x33,x34,x35,x36,x37,x38,x39,x40],defers:=[] }:=by
 obtain ⟨⟨l⟩,d⟩:=a
 simp only at hd
 subst hd
 replace h:l.length=41:=h
 obtain ⟨x0,l,rfl⟩:=List.exists_cons_of_length_eq_add_one h
 replace h:l.length=40:=Nat.succ.inj h
 obtain ⟨x1,l,rfl⟩:=List.exists_cons_of_length_eq_add_one h
 replace h:l.length=39:=Nat.succ.inj h
 obtain ⟨x2,l,rfl⟩:=List.exists_cons_of_length_eq_add_one h
 replace h:l.length=38:=Nat.succ.inj h
 obtain ⟨x3,l,rfl⟩:=List.exists_cons_of_length_eq_add_one h
 replace h:l.length=37:=Nat.succ.inj h
 obtain ⟨x4,l,rfl⟩:=List.exists_cons_of_length_eq_add_one h
 replace h:l.length=36:=Nat.succ.inj h
 obtain ⟨x5,l,rfl⟩:=List.exists_cons_of_length_eq_add_one h
 replace h:l.length=35:=Nat.succ.inj h
 obtain ⟨x6,l,rfl⟩:=List.exists_cons_of_length_eq_add_one h
 replace h:l.length=34:=Nat.succ.inj h
 obtain ⟨x7,l,rfl⟩:=List.exists_cons_of_length_eq_add_one h
 replace h:l.length=33:=Nat.succ.inj h
 obtain ⟨x8,l,rfl⟩:=List.exists_cons_of_length_eq_add_one h
 replace h:l.length=32:=Nat.succ.inj h
 obtain ⟨x9,l,rfl⟩:=List.exists_cons_of_length_eq_add_one h
 replace h:l.length=31:=Nat.succ.inj h
 obtain ⟨x10,l,rfl⟩:=List.exists_cons_of_length_eq_add_one h
 replace h:l.length=30:=Nat.succ.inj h
 obtain ⟨x11,l,rfl⟩:=List.exists_cons_of_length_eq_add_one h
 replace h:l.length=29:=Nat.succ.inj h
 obtain ⟨x12,l,rfl⟩:=List.exists_cons_of_length_eq_add_one h
 replace h:l.length=28:=Nat.succ.inj h
 obtain ⟨x13,l,rfl⟩:=List.exists_cons_of_length_eq_add_one h
 replace h:l.length=27:=Nat.succ.inj h
 obtain ⟨x14,l,rfl⟩:=List.exists_cons_of_length_eq_add_one h
 replace h:l.length=26:=Nat.succ.inj h
 obtain ⟨x15,l,rfl⟩:=List.exists_cons_of_length_eq_add_one h
 replace h:l.length=25:=Nat.succ.inj h
 obtain ⟨x16,l,rfl⟩:=List.exists_cons_of_length_eq_add_one h
 replace h:l.length=24:=Nat.succ.inj h
 obtain ⟨x17,l,rfl⟩:=List.exists_cons_of_length_eq_add_one h
 replace h:l.length=23:=Nat.succ.inj h
 obtain ⟨x18,l,rfl⟩:=List.exists_cons_of_length_eq_add_one h
 replace h:l.length=22:=Nat.succ.inj h
 obtain ⟨x19,l,rfl⟩:=List.exists_cons_of_length_eq_add_one h
 replace h:l.length=21:=Nat.succ.inj h
 obtain ⟨x20,l,rfl⟩:=List.exists_cons_of_length_eq_add_one h
 replace h:l.length=20:=Nat.succ.inj h
 obtain ⟨x21,l,rfl⟩:=List.exists_cons_of_length_eq_add_one h
 replace h:l.length=19:=Nat.succ.inj h
 obtain ⟨x22,l,rfl⟩:=List.exists_cons_of_length_eq_add_one h
 replace h:l.length=18:=Nat.succ.inj h
 obtain ⟨x23,l,rfl⟩:=List.exists_cons_of_length_eq_add_one h
 replace h:l.length=17:=Nat.succ.inj h
 obtain ⟨x24,l,rfl⟩:=List.exists_cons_of_length_eq_add_one h
 replace h:l.length=16:=Nat.succ.inj h
 obtain ⟨x25,l,rfl⟩:=List.exists_cons_of_length_eq_add_one h
 replace h:l.length=15:=Nat.succ.inj h
 obtain ⟨x26,l,rfl⟩:=List.exists_cons_of_length_eq_add_one h
 replace h:l.length=14:=Nat.succ.inj h
 obtain ⟨x27,l,rfl⟩:=List.exists_cons_of_length_eq_add_one h
 replace h:l.length=13:=Nat.succ.inj h
 obtain ⟨x28,l,rfl⟩:=List.exists_cons_of_length_eq_add_one h
 replace h:l.length=12:=Nat.succ.inj h
 obtain ⟨x29,l,rfl⟩:=List.exists_cons_of_length_eq_add_one h
 replace h:l.length=11:=Nat.succ.inj h
 obtain ⟨x30,l,rfl⟩:=List.exists_cons_of_length_eq_add_one h
 replace h:l.length=10:=Nat.succ.inj h
 obtain ⟨x31,l,rfl⟩:=List.exists_cons_of_length_eq_add_one h
 replace h:l.length=9:=Nat.succ.inj h
 obtain ⟨x32,l,rfl⟩:=List.exists_cons_of_length_eq_add_one h
 replace h:l.length=8:=Nat.succ.inj h
 obtain ⟨x33,l,rfl⟩:=List.exists_cons_of_length_eq_add_one h
 replace h:l.length=7:=Nat.succ.inj h
 obtain ⟨x34,l,rfl⟩:=List.exists_cons_of_length_eq_add_one h
 replace h:l.length=6:=Nat.succ.inj h
 obtain ⟨x35,l,rfl⟩:=List.exists_cons_of_length_eq_add_one h
 replace h:l.length=5:=Nat.succ.inj h
 obtain ⟨x36,l,rfl⟩:=List.exists_cons_of_length_eq_add_one h
 replace h:l.length=4:=Nat.succ.inj h
 obtain ⟨x37,l,rfl⟩:=List.exists_cons_of_length_eq_add_one h
 replace h:l.length=3:=Nat.succ.inj h
 obtain ⟨x38,l,rfl⟩:=List.exists_cons_of_length_eq_add_one h
 replace h:l.length=2:=Nat.succ.inj h
 obtain ⟨x39,l,rfl⟩:=List.exists_cons_of_length_eq_add_one h
 replace h:l.length=1:=Nat.succ.inj h
 obtain ⟨x40,l,rfl⟩:=List.exists_cons_of_length_eq_add_one h
 replace h:l.length=0:=Nat.succ.inj h
 obtain rfl:=List.eq_nil_of_length_eq_zero h
 exact ⟨x0,x1,x2,x3,x4,x5,x6,x7,x8,x9,x10,x11,x12,x13,x14,x15,x16,x17,x18,x19,x20,x21,x22,x23,x24,x25,x26,x27,x28,x29,x30,x31,x32,x33,x34,x35,x36,x37,x38,x39,x40,rfl⟩
theorem zlA (w:World) (x y:Int) (b:Bool) (o o1 o2:Option Addr) (l c l1 c1 l2 c2:Nat):(Instr.buildSlice 23 1 #[(0,.agg #[.slice o l c,.bool b,.int .i64 x,.int .i64 y,.slice o1 l1 c1,.slice o2 l2 c2])]).run prog w=.ok (.slice (some ⟨w.heap.size,0,none⟩) 1 1) (w.alloc (.cells #[.slice o l c,.bool b,.int .i64 x,.int .i64 y,.slice o1 l1 c1,.slice o2 l2 c2] 43)):=by go_simp
def MuR (H G B nC:Nat) (sv:Value) (cods:List Cod) (ag:Value) (cs:List Value) (i:Nat) (v:Value) (W:World):Prop:=match i with
 | 0=>v=.pointer (some ⟨H,1,none⟩)
 | 1=>v=sv
 | 2=>B≤W.heap.size∧∃o l c xc,v=.slice o l c∧W.ownsRow G 43 6 (.slice o l c) nC xc∧CellsG 6 (CodR W B) cods xc
 | 3=>v=.pointer (some ⟨H,2,none⟩)
 | 4=>v=ag
 | 5=>v=.agg cs.toArray
 | 6=>∃b,v=.slice (some ⟨b,0,none⟩) 1 1∧BoxL W b 43 cs
 | 7=>B≤W.heap.size∧∃g cap xc,v=.slice (some ⟨g,0,none⟩) (nC+1) cap∧W.ownsRow G 43 6 (.slice (some ⟨g,0,none⟩) (nC+1) cap) (nC+1) (xc++cs)∧CellsG 6 (CodR W B) cods xc
 | 8=>v=.int .i64 ((nC:Int)+1)
 | _=>v=.int .i64 0
theorem ze5 (H G B nC:Nat) (sv:Value) (cods:List Cod) (ag:Value) (cs:List Value):∀i v A C,i≤7→MuR H G B nC sv cods ag cs i v A→Below A.heap.size A C→MuR H G B nC sv cods ag cs i v C:=by
 intro i v A C hi h hb
 match i,hi,h with
 | 0,_,h=>exact h
 | 1,_,h=>exact h
 | 2,_,⟨h0,o,l,c,xc,h1,h2,h3⟩=>exact ⟨Nat.le_trans h0 hb.size,o,l,c,xc,h1,zam h2 hb,h3.mono fun _ _ _ h=>CodR.kept h (hb.mono h0)⟩
 | 3,_,h=>exact h
 | 4,_,h=>exact h
 | 5,_,h=>exact h
 | 6,_,⟨b,h1,h2⟩=>exact ⟨b,h1,h2.keep hb⟩
 | 7,_,⟨h0,g,cap,xc,h1,h2,h3⟩=>exact ⟨Nat.le_trans h0 hb.size,g,cap,xc,h1,zam h2 hb,h3.mono fun _ _ _ h=>CodR.kept h (hb.mono h0)⟩
theorem zht (H G B nC:Nat) (sv:Value) (cods:List Cod) (ag:Value) (cs:List Value):∀i v A C,i≠7→(i==2 || i==6)=false→MuR H G B nC sv cods ag cs i v A→MuR H G B nC sv cods ag cs i v C:=by
 intro i v A C hi hu h
 match i,hi,hu,h with
 | 0,_,_,h=>exact h
 | 1,_,_,h=>exact h
 | 3,_,_,h=>exact h
 | 4,_,_,h=>exact h
 | 5,_,_,h=>exact h
 | 8,_,_,h=>exact h
 | i+9,_,_,h=>exact h
theorem zhy (m:Mdl) (v:Value) (B:Nat) (w:World) (hv:MdlR w B m v) (hB:B≤w.heap.size) (hn:m.consts.length≤1000000∧m.codes.length≤1000) (hsz:∀c∈m.cods,6*c.body.all≤800000)
  (HCM:∀w',Below w.heap.size w w'→Calls prog 13 #[v] w' fun e w''=>e=.returned (.int .i64 (if m.okB then 0 else 5))∧Below w'.heap.size w' w'') :
  Calls prog 6 #[v] w fun e w'=>∃c p,e=.returned (.tuple #[.agg #[c,p],.int .i64 (m.makeErr Mk.lkL)])∧UntR w' w'.heap.size (m.makeU Mk.lkL) (.agg #[c,p])∧Below w.heap.size w w':=by
 obtain ⟨cc,pp,b0,b1,b2,b3,rfl,hcon,hcod,hbody⟩:=hv
 obtain ⟨q,r,u,q',r',u',rfl,rfl,rfl,rfl,hbn⟩:=TrmR.shape hbody
 obtain ⟨oc,lc,cc',rfl⟩:∃o l c,cc=.slice o l c:=by obtain ⟨o,l,c,h,_⟩:=hcon;exact ⟨o,l,c,h⟩
 obtain ⟨op,lp,cp,rfl⟩:=hcod.form
 obtain ⟨W2,hW2⟩:∃W2,(w.alloc (.cells #[.slice oc lc cc',.slice op lp cp,.int .i64 m.body.op,.int .i64 m.body.n,.slice q r u,.slice q' r' u'] 29)).alloc (.cells #[.slice none 0 0,.slice none 0 0] 34)=W2:=⟨_,rfl⟩
 have HB2:=zh (show Below w.heap.size w W2 from by rw[←hW2];exact (Below.one w _).trans ((Below.one _ _).mono (by simp)))
 have HM2:=zh (show BoxL W2 w.heap.size 29 [.slice oc lc cc',.slice op lp cp,.int .i64 m.body.op,.int .i64 m.body.n,.slice q r u,.slice q' r' u'] from by rw[←hW2];exact (BoxL.new rfl _ _).alloc _)
 have HR2:=zh (show BoxL W2 (w.heap.size+1) 34 [.slice none 0 0,.slice none 0 0] from by rw[←hW2];exact BoxL.new (by simp) _ _)
 have HW2:=zh hW2
 have HCON:=zh hcon
 have HCOD:=zh hcod
 have HBODY:=zh hbody
 have HCK:=zh (HCM W2 HB2.out)
 have HSZ:=zh hsz
 clear hW2 hcon hcod hbody hbn HCM hsz
 go_enter func6,ntmps6
 go_upto_region 1 with fail
 rw[HW2.out]
 have m0:=HM2.out.cell 0 rfl
 have m1:=HM2.out.cell 1 rfl
 have m2:=HM2.out.cell 2 rfl
 have m3:=HM2.out.cell 3 rfl
 have m4:=HM2.out.cell 4 rfl
 have m5:=HM2.out.cell 5 rfl
 have ml:=HM2.out.lt
 go_wp2_with fail
 with_reducible refine HCK.out.mono ?_
 rintro e w3 ⟨rfl,hb3⟩
 have HB3:=zh (HB2.out.trans (hb3.mono HB2.out.size))
 have HM3:=zh (HM2.out.keep hb3)
 have HR3:=zh (HR2.out.keep hb3)
 clear hb3 m0 m1 m2 m3 m4 m5 ml HCK
 cases hok:m.okB with
 | false=>
  have he:m.makeErr Mk.lkL=5:=by simp[Mdl.makeErr,hok]
  have hu:m.makeU Mk.lkL=⟨[],[]⟩:=by simp[Mdl.makeU,hok]
  have HE:=zh he
  have HU:=zh hu
  have r0:=HR3.out.cell 0 rfl
  have r1:=HR3.out.cell 1 rfl
  have z0:=HR3.out.free 0
  have z1:=HR3.out.free 1
  have rl:=HR3.out.lt
  have bN:=(HR3.out.set 0 (.slice none 0 0)).set 1 (.slice none 0 0)
  have n0:=bN.cell 0 rfl
  have n1:=bN.cell 1 rfl
  have HBF:=zh ((HB3.out.setCell (p:=⟨w.heap.size+1,0,none⟩) (by dsimp only;omega) (.slice none 0 0)).setCell (p:=⟨w.heap.size+1,1,none⟩) (by dsimp only;omega) (.slice none 0 0))
  clear he hu bN
  simp only[Bool.false_eq_true,if_false]
  go_wp2_with fail
  refine bodyPost_ret (v:=.tuple #[.agg #[.slice none 0 0,.slice none 0 0],.int .i64 5]) (by simp[results,results6,go_sem,n0,n1]) rfl ⟨.slice none 0 0,.slice none 0 0,by rw[HE.out],?_,HBF.out⟩
  rw[HU.out]
  exact ⟨_,_,rfl,⟨none,0,0,rfl,rfl,Nat.le_refl _,by omega,rfl,rfl⟩,⟨none,0,0,rfl,rfl,Nat.le_refl _,by omega,rfl,rfl⟩⟩
 | true=>
  simp only[if_true]
  have HOK:=zh hok
  clear hok
  have m0:=HM3.out.cell 0 rfl
  have ml:=HM3.out.lt
  have HCLD:=zh (zfC m.consts (.slice oc lc cc') B w3 (HCON.out.kept (HB3.out.mono hB)) (by have:=HB3.out.size;omega) hn.1)
  go_wp2_with fail
  with_reducible refine HCLD.out.mono ?_
  rintro e w4 ⟨cv,rfl,hcv,⟨ov,lv,cv2,rfl⟩,hb4⟩
  have HCV:=zh hcv
  have HB4:=zh hb4
  clear hcv hb4 HCLD m0 ml
  obtain ⟨W5,hW5⟩:∃W5,w4.alloc (.cells #[.slice ov lv cv2,.slice none 0 0] 34)=W5:=⟨_,rfl⟩
  have HB35:=zh (show Below w3.heap.size w3 W5 from by rw[←hW5];exact Below.next HB4.out (Below.one w4 _))
  have HB5:=zh (show Below w.heap.size w W5 from HB3.out.trans (HB35.out.mono HB3.out.size))
  have HM5:=zh (HM3.out.keep HB35.out)
  have HR5:=zh (HR3.out.keep HB35.out)
  have HU5:=zh (show BoxL W5 w4.heap.size 34 [.slice ov lv cv2,.slice none 0 0] from by rw[←hW5];exact BoxL.new rfl _ _)
  have HS5:=zh (show W5.heap.size=w4.heap.size+1 from by rw[←hW5];simp)
  have HW5:=zh hW5
  clear hW5
  go_upto_region 4 with fail
  rw[HW5.out]
  have HBW:=zh (show B≤W5.heap.size from by have:=HB5.out.size;omega)
  have HLP:=zh (show lp=m.codes.length from HCOD.out.lens.1)
  obtain ⟨nC,hnC⟩:∃nC,m.codes.length=nC:=⟨_,rfl⟩
  have HNC:=zh hnC
  have hn2:nC≤1000:=by omega
  have HCL:=zh (show ∀W',Below W5.heap.size W5 W'→Calls prog 15 #[.slice op lp cp] W' fun e w''=>∃o l c xc,e=.returned (.slice o l c)∧w''.ownsRow W5.heap.size 43 6 (.slice o l c) nC xc∧CellsG 6 (CodR w'' B) m.codes xc∧Below W'.heap.size W' w''∧Below W5.heap.size W5 w'' from fun W' hb=>by
   have hcod:SlC W' B 6 (CodR W' B) m.codes (.slice op lp cp):=HCOD.out.kept ((HB5.out.mono hB).trans (hb.mono (by have:=HB5.out.size;omega))) fun _ _ _ h=>CodR.kept h ((HB5.out.mono hB).trans (hb.mono (by have:=HB5.out.size;omega)))
   refine (zgo m.codes _ B W' hcod (by have:=HB5.out.size;have:=hb.size;omega) (by omega)).mono ?_
   rintro e w'' ⟨v',xs,rfl,h1,h2,⟨o,l,c,rfl⟩,h3⟩
   refine ⟨o,l,c,xs,rfl,?_,h2.mono fun _ _ _ h=>CodR.kept h (h3.mono (by have:=HB5.out.size;have:=hb.size;omega)),h3,Below.next hb h3⟩
   rw[←hnC]
   exact zco h1 hb.size)
  have HD1:=zh (Below.drew (Below.refl W5.heap.size W5))
  have HD2:=zh (show Below W5.heap.size W5 (W5.alloc (.cells #[.slice none 0 0,.bool false,.int .i64 m.body.op,.int .i64 m.body.n,.slice q r u,.slice q' r' u'] 43)).drew from (Below.one W5 _).drew)
  have m1:=HM5.out.cell 1 rfl
  have m2:=HM5.out.cell 2 rfl
  have m3:=HM5.out.cell 3 rfl
  have m4:=HM5.out.cell 4 rfl
  have m5:=HM5.out.cell 5 rfl
  have ml:=HM5.out.lt
  obtain ⟨i0,hi,hz0,hz1,hz2⟩:=info_parts zeB
  clear hnC
  go_cut [22,23,24] from 15 to 24 (fun a b c wx=>∃(g cap:Nat) (xc:List Value),a=.slice (some ⟨g,0,none⟩) (nC+1) cap∧b=.int .i64 ((nC:Int)+1)∧c=.int .i64 0∧Hid (wx.ownsRow W5.heap.size 43 6 (.slice (some ⟨g,0,none⟩) (nC+1) cap) (nC+1) (xc++[.slice none 0 0,.bool false,.int .i64 m.body.op,.int .i64 m.body.n,.slice q r u,.slice q' r' u']))∧Hid (CellsG 6 (CodR wx B) m.codes xc)∧Hid (Below W5.heap.size W5 wx))
  case first=>as_aux_lemma=>
   refine zde 7 (fun i=>i==2 || i==6) (MuR w.heap.size W5.heap.size B nC (.slice op lp cp) m.codes (.agg #[.int .i64 m.body.op,.int .i64 m.body.n,.slice q r u,.slice q' r' u']) [.slice none 0 0,.bool false,.int .i64 m.body.op,.int .i64 m.body.n,.slice q r u,.slice q' r' u']) (fun A C=>Below W5.heap.size A C) (fun A C=>Below A.heap.size A C) (by kernel_rfl) (by show turnB _ 41 7 _=true;kernel_rfl) (fun h k=>h.trans k) (fun h k=>Below.next h k) (fun {A C} h k=>k.mono h.size) (Below.refl _ _) (Below.refl _ _) (fun i v A C hi hu h _=>zht _ _ _ _ _ _ _ _ i v A C hi hu h) (fun i v A C hu h hb=>ze5 _ _ _ _ _ _ _ _ i v A C (by simp at hu;omega) h hb) (fun v A C h hb=>ze5 _ _ _ _ _ _ _ _ 7 v A C (Nat.le_refl _) h hb) ?hops ?hend
   case hops=>
    intro i o ho a w1 hdf hsz hex _ hdep hrest
    have HX:=zh (show Below W5.heap.size W5 w1 from HD1.out.trans hex)
    obtain ⟨x0,x1,x2,x3,x4,x5,x6,x7,x8,x9,x10,x11,x12,x13,x14,x15,x16,x17,x18,x19,x20,x21,x22,x23,x24,x25,x26,x27,x28,x29,x30,x31,x32,x33,x34,x35,x36,x37,x38,x39,x40,rfl⟩:=zdr hsz hdf
    clear m1 m2 m3 m4 m5 ml
    match i with
    | 0=>
     obtain rfl:_=o:=Option.some.inj ho
     obtain rfl:x1=.pointer (some ⟨w.heap.size,0,none⟩):=hrest.at 1 (by kernel_rfl)
     go_wp2
     exact ⟨rfl,_,rfl,rfl,Below.refl _ _⟩
    | 1=>
     obtain rfl:_=o:=Option.some.inj ho
     obtain rfl:x15=_:=zaJ hdep 0 15 (by kernel_rfl)
     have m1:=(HM5.out.keep HX.out).cell 1 rfl
     have ml:=(HM5.out.keep HX.out).lt
     go_wp2
     exact ⟨rfl,_,rfl,rfl,Below.refl _ _⟩
    | 2=>
     obtain rfl:_=o:=Option.some.inj ho
     obtain rfl:x16=_:=zaJ hdep 1 16 (by kernel_rfl)
     go_wp2_with fail
     with_reducible refine (HCL.out _ HX.out).mono ?_
     rintro e' w2 ⟨o2,l2,c2,xc,rfl,h1,h2,h3,h4⟩
     have hz:=h4.size
     go_wp2
     exact ⟨rfl,_,rfl,⟨by have:=HBW.out;omega,o2,l2,c2,xc,rfl,h1,h2⟩,h3⟩
    | 3=>
     obtain rfl:_=o:=Option.some.inj ho
     obtain rfl:x1=.pointer (some ⟨w.heap.size,0,none⟩):=hrest.at 1 (by kernel_rfl)
     go_wp2
     exact ⟨rfl,_,rfl,rfl,Below.refl _ _⟩
    | 4=>
     obtain rfl:_=o:=Option.some.inj ho
     obtain rfl:x18=_:=zaJ hdep 3 18 (by kernel_rfl)
     have m2:=(HM5.out.keep HX.out).cell 2 rfl
     have m3:=(HM5.out.keep HX.out).cell 3 rfl
     have m4:=(HM5.out.keep HX.out).cell 4 rfl
     have m5:=(HM5.out.keep HX.out).cell 5 rfl
     have ml:=(HM5.out.keep HX.out).lt
     go_wp2
     exact ⟨rfl,_,rfl,rfl,Below.refl _ _⟩
    | 5=>
     obtain rfl:_=o:=Option.some.inj ho
     obtain rfl:x19=_:=zaJ hdep 4 19 (by kernel_rfl)
     go_wp2
     exact ⟨rfl,_,rfl,rfl,Below.refl _ _⟩
    | 6=>
     obtain rfl:_=o:=Option.some.inj ho
     obtain rfl:x20=.agg ([.slice none 0 0,.bool false,.int .i64 m.body.op,.int .i64 m.body.n,.slice q r u,.slice q' r' u']:List Value).toArray:=zaJ hdep 5 20 (by kernel_rfl)
     exact zcj (v:=.slice (some ⟨w1.heap.size,0,none⟩) 1 1) (w':=w1.alloc (.cells #[.slice none 0 0,.bool false,.int .i64 m.body.op,.int .i64 m.body.n,.slice q r u,.slice q' r' u'] 43)) rfl rfl rfl (zlA _ _ _ _ _ _ _ _ _ _ _ _ _) ⟨rfl,_,rfl,⟨_,rfl,BoxL.new rfl _ _⟩,Below.one _ _⟩
    | 7=>
     obtain rfl:_=o:=Option.some.inj ho
     obtain ⟨hB1,o2,l2,c2,xc,h17,hown,hcs⟩:B≤w1.heap.size∧∃(o:Option Addr) (l c:Nat) (xc:List Value),x17=.slice o l c∧w1.ownsRow W5.heap.size 43 6 (.slice o l c) nC xc∧CellsG 6 (CodR w1 B) m.codes xc:=zaJ hdep 2 17 (by kernel_rfl)
     subst h17
     obtain ⟨b,h21,hbx⟩:∃b,x21=.slice (some ⟨b,0,none⟩) 1 1∧BoxL w1 b 43 [.slice none 0 0,.bool false,.int .i64 m.body.op,.int .i64 m.body.n,.slice q r u,.slice q' r' u']:=zaJ hdep 6 21 (by kernel_rfl)
     subst h21
     refine wpList_append_lies w1 rfl (.tmp 17) (.tmp 21) 23 rfl W5.heap.size 43 i0 (.agg #[.slice none 0 0,.bool false,.int .i64 0,.int .i64 0,.slice none 0 0,.slice none 0 0]) 6 96 underlying23 hi hz0 hz1 hz2 rfl (by decide) (.slice o2 l2 c2) nC xc rfl hown ⟨b,0,none⟩ 1 1 [.slice none 0 0,.bool false,.int .i64 m.body.op,.int .i64 m.body.n,.slice q r u,.slice q' r' u'] rfl rfl (zcN hbx) (by intro u hu;simp only[List.mem_cons,List.not_mem_nil,or_false] at hu;rcases hu with rfl | rfl | rfl | rfl | rfl | rfl<;>rfl) (by decide) (by unfold maxLen;omega) (by omega) (by have:=HX.out.size;omega) w1.heap.size rfl ?_
     intro g cap w7 hown7 hgr7 hlie7 hlt7
     have hz7:=hgr7.size
     have HG7:Below W5.heap.size w1 w7:=(Below.refl W5.heap.size w1).grown hgr7 HX.out.size (fun g hg=>zao hown hg)
     exact ⟨rfl,_,rfl,⟨by omega,g,cap,xc,rfl,hown7,hcs.mono fun _ _ _ h=>CodR.kept h (HG7.mono HBW.out)⟩,HG7⟩
    | 8=>
     obtain rfl:_=o:=Option.some.inj ho
     obtain ⟨hB1,g,cap,xc,h22,hown,hcs⟩:B≤w1.heap.size∧∃(g cap:Nat) (xc:List Value),x22=.slice (some ⟨g,0,none⟩) (nC+1) cap∧w1.ownsRow W5.heap.size 43 6 (.slice (some ⟨g,0,none⟩) (nC+1) cap) (nC+1) (xc++([.slice none 0 0,.bool false,.int .i64 m.body.op,.int .i64 m.body.n,.slice q r u,.slice q' r' u']:List Value))∧CellsG 6 (CodR w1 B) m.codes xc:=zaJ hdep 7 22 (by kernel_rfl)
     subst h22
     go_wp2
     exact ⟨rfl,_,rfl,by show _=_;simp,Below.refl _ _⟩
    | 9=>
     obtain rfl:_=o:=Option.some.inj ho
     go_wp2
     exact ⟨rfl,_,rfl,rfl,Below.refl _ _⟩
    | i+10=>exact absurd (Array.getElem?_eq_some_iff.1 ho).1 (by simp)
   case hend=>
    intro a w1 hdf hsz hex hval hrest
    obtain ⟨x0,x1,x2,x3,x4,x5,x6,x7,x8,x9,x10,x11,x12,x13,x14,x15,x16,x17,x18,x19,x20,x21,x22,x23,x24,x25,x26,x27,x28,x29,x30,x31,x32,x33,x34,x35,x36,x37,x38,x39,x40,rfl⟩:=zdr hsz hdf
    obtain rfl:x0=.agg #[.slice oc lc cc',.slice op lp cp,.int .i64 m.body.op,.int .i64 m.body.n,.slice q r u,.slice q' r' u']:=hrest.at 0 (by kernel_rfl)
    obtain rfl:x1=.pointer (some ⟨w.heap.size,0,none⟩):=hrest.at 1 (by kernel_rfl)
    obtain rfl:x2=.pointer (some ⟨w.heap.size+1,0,none⟩):=hrest.at 2 (by kernel_rfl)
    obtain rfl:x3=.int .i64 0:=hrest.at 3 (by kernel_rfl)
    obtain rfl:x4=.pointer (some ⟨w4.heap.size,0,none⟩):=hrest.at 4 (by kernel_rfl)
    obtain rfl:x5=undef:=hrest.at 5 (by kernel_rfl)
    obtain rfl:x6=undef:=hrest.at 6 (by kernel_rfl)
    obtain rfl:x7=.agg #[.slice oc lc cc',.slice op lp cp,.int .i64 m.body.op,.int .i64 m.body.n,.slice q r u,.slice q' r' u']:=hrest.at 7 (by kernel_rfl)
    obtain rfl:x8=.int .i64 0:=hrest.at 8 (by kernel_rfl)
    obtain rfl:x9=.bool false:=hrest.at 9 (by kernel_rfl)
    obtain rfl:x10=undef:=hrest.at 10 (by kernel_rfl)
    obtain rfl:x11=.pointer (some ⟨w.heap.size,0,none⟩):=hrest.at 11 (by kernel_rfl)
    obtain rfl:x12=.slice oc lc cc':=hrest.at 12 (by kernel_rfl)
    obtain rfl:x13=.slice ov lv cv2:=hrest.at 13 (by kernel_rfl)
    obtain rfl:x14=.agg #[.slice ov lv cv2,.slice none 0 0]:=hrest.at 14 (by kernel_rfl)
    obtain rfl:x25=undef:=hrest.at 25 (by kernel_rfl)
    obtain rfl:x26=undef:=hrest.at 26 (by kernel_rfl)
    obtain rfl:x27=undef:=hrest.at 27 (by kernel_rfl)
    obtain rfl:x28=undef:=hrest.at 28 (by kernel_rfl)
    obtain rfl:x29=undef:=hrest.at 29 (by kernel_rfl)
    obtain rfl:x30=undef:=hrest.at 30 (by kernel_rfl)
    obtain rfl:x31=undef:=hrest.at 31 (by kernel_rfl)
    obtain rfl:x32=undef:=hrest.at 32 (by kernel_rfl)
    obtain rfl:x33=undef:=hrest.at 33 (by kernel_rfl)
    obtain rfl:x34=undef:=hrest.at 34 (by kernel_rfl)
    obtain rfl:x35=undef:=hrest.at 35 (by kernel_rfl)
    obtain rfl:x36=undef:=hrest.at 36 (by kernel_rfl)
    obtain rfl:x37=undef:=hrest.at 37 (by kernel_rfl)
    obtain rfl:x38=undef:=hrest.at 38 (by kernel_rfl)
    obtain rfl:x39=undef:=hrest.at 39 (by kernel_rfl)
    obtain rfl:x40=undef:=hrest.at 40 (by kernel_rfl)
    obtain ⟨hB1,g,cap,xc,h22,hown,hcs⟩:B≤w1.heap.size∧∃(g cap:Nat) (xc:List Value),x22=.slice (some ⟨g,0,none⟩) (nC+1) cap∧w1.ownsRow W5.heap.size 43 6 (.slice (some ⟨g,0,none⟩) (nC+1) cap) (nC+1) (xc++([.slice none 0 0,.bool false,.int .i64 m.body.op,.int .i64 m.body.n,.slice q r u,.slice q' r' u']:List Value))∧CellsG 6 (CodR w1 B) m.codes xc:=hval 7 _ 22 rfl rfl rfl
    subst h22
    obtain rfl:x23=.int .i64 ((nC:Int)+1):=hval 8 _ 23 rfl rfl rfl
    obtain rfl:x24=.int .i64 0:=hval 9 _ 24 rfl rfl rfl
    have HX:=zh (show Below W5.heap.size W5 w1 from HD1.out.trans hex)
    have HON:=zh hown
    have HCC:=zh hcs
    clear m1 m2 m3 m4 m5 ml hval hrest hown hcs hex
    go_wp2_with fail
    go_meet
    exact ⟨g,cap,xc,rfl,rfl,rfl,HON,HCC,HX⟩
  case rest=>
   obtain ⟨g,cap,xc,rfl,rfl,rfl,HO7,HC7,HG7⟩:=hcut
   obtain ⟨xs0,hxs0⟩:∃xs0,xc++[.slice none 0 0,.bool false,.int .i64 m.body.op,.int .i64 m.body.n,.slice q r u,.slice q' r' u']=xs0:=⟨_,rfl⟩
   have HCX:=zh (show CellsG 6 (CodR wc B) m.cods xs0 from by
    rw[←hxs0]
    refine CellsG.snoc (size:=6) rfl ?_ HC7.out
    exact ⟨_,_,_,_,_,rfl,⟨none,0,0,rfl,rfl,Nat.le_refl _,by omega,rfl,rfl⟩,TrmR.kept ((HB5.out.trans (HG7.out.mono HB5.out.size)).mono hB) _ _ HBODY.out⟩)
   rw[hxs0] at HO7
   have HCL2:=zh (show m.cods.length=nC+1 from by rw[Mdl.cods,List.length_append,HNC.out];rfl)
   have HBC:=zh (show Below w.heap.size w wc from HB5.out.trans (HG7.out.mono HB5.out.size))
   have HRC:=zh (HR5.out.keep HG7.out)
   have HUC:=zh (HU5.out.keep HG7.out)
   have hH4:w.heap.size+1<w4.heap.size:=Nat.lt_of_lt_of_le HR3.out.lt HB4.out.size
   have h4c:Below w4.heap.size w4 wc:=Below.next (show Below w4.heap.size w4 W5 from by rw[←HW5.out];exact Below.one w4 _) HG7.out
   have HI0:=zh (show MuI (m.cods.map (Mk.proc Mk.lkL)) m.consts (nC+1) w.heap.size w4.heap.size (.slice ov lv cv2) (.slice (some ⟨g,0,none⟩) (nC+1) cap) xs0 w 0 wc from
    ⟨.slice none 0 0,[],HBC.out,HRC.out,HUC.out,⟨_,_,_,rfl⟩,World.ownsRow_nil _ _ _ _,rfl,⟨gap w4 B w3.heap.size,w4.heap.size,(fun b o u hc=>by
     obtain ⟨h1,h2⟩:=zfv hc
     have hl:=zac h2
     refine ⟨Nat.lt_of_lt_of_le hl h4c.size,fun h=>?_,keepC h4c h2⟩
     rcases h with h | h | h
     ·have h:b=w4.heap.size:=h
      have hl:b<w4.heap.size:=hl
      omega
     ·have h:b=w.heap.size+1:=h
      have h3:=HR3.out.lt
      exact h1 ⟨by omega,by omega⟩
     ·simp[Value.ownBlock] at h),h4c.size,HCV.out⟩,zco HO7.out (by have:=HS5.out;omega)⟩)
   clear hxs0 HO7 HC7
   clear h4c
   go_wp2_with fail
   go_loopg [24] (nC+1) (fun G i wr=>∃j:Nat,G=(nC+1)-j∧j≤nC+1∧i=.int .i64 j∧Hid (MuI (m.cods.map (Mk.proc Mk.lkL)) m.consts (nC+1) w.heap.size w4.heap.size (.slice ov lv cv2) (.slice (some ⟨g,0,none⟩) (nC+1) cap) xs0 w j wr)∧wc.heap.size≤wr.heap.size)
   case atStart=>exact ⟨0,rfl,by omega,rfl,HI0,Nat.le_refl _⟩
   case round=>
    obtain ⟨j,rfl,hj,rfl,HI,hzz⟩:=hrel
    clear HI0 HUC HRC
    obtain ⟨v,xs,hb,hbr,hbx,⟨o5,l5,c5,rfl⟩,hown,hcs,hcons,hrow⟩:=HI.out
    by_cases hjl:j<nC+1
    ·obtain ⟨c,hcj⟩:∃c,m.cods[j]?=some c:=⟨_,List.getElem?_eq_getElem (by rw[HCL2.out];exact hjl)⟩
     obtain ⟨cs,hcl,hcr,hcx⟩:=CellsG.at HCX.out hcj
     obtain ⟨ov',lv',cv',q1,r1,u1,q2,r2,u2,rfl,hsv,hst⟩:=zcd hcr
     have e0:=zbk hrow (hcx 0 _ rfl)
     have e1:=zbk hrow (hcx 1 _ rfl)
     have e2:=zbk hrow (hcx 2 _ rfl)
     have e3:=zbk hrow (hcx 3 _ rfl)
     have e4:=zbk hrow (hcx 4 _ rfl)
     have e5:=zbk hrow (hcx 5 _ rfl)
     rw[Nat.add_zero] at e0
     have hgl:=zac e0
     have HCJ:=zh hcj
     have HCR:=zh hcr
     have HIR:=zh (show MuI (m.cods.map (Mk.proc Mk.lkL)) m.consts (nC+1) w.heap.size w4.heap.size (.slice ov lv cv2) (.slice (some ⟨g,0,none⟩) (nC+1) cap) xs0 w j wr from HI.out)
     obtain ⟨p,hp⟩:∃p,Mk.proc Mk.lkL c=p:=⟨_,rfl⟩
     have HPJ:=zh (show (m.cods.map (Mk.proc Mk.lkL))[j]?=some p from by rw[List.getElem?_map,hcj,←hp];rfl)
     have HAL:=zh (show p.alive=[] from by rw[←hp];rfl)
     have HOWN:=zh hown
     have HBB:=zh hb
     have HRB:=zh hbr
     have HXB:=zh hbx
     have HCS:=zh hcs
     have HCN:=zh hcons
     have HRW:=zh hrow
     obtain ⟨nc,nk,fr,sc,hwf⟩:=zeT HOK.out c (List.mem_of_getElem? hcj)
     have HPR:=zh (zke c _ _ _ _ _ B nc nk fr sc (wr.alloc (.cells #[.slice ov' lv' cv',.bool c.rest,.int .i64 c.body.op,.int .i64 c.body.n,.slice q1 r1 u1,.slice q2 r2 u2] 43)).drew (CodR.kept HCR.out ((zma HBC.out hb hB hzz).trans ((Below.one wr _).drew.mono (by have:=hb.size;omega)))) (by have:=hb.size;show B≤(wr.alloc _).heap.size;simp;omega) hwf ⟨zdo HOK.out c (List.mem_of_getElem? hcj),HSZ.out c (List.mem_of_getElem? hcj)⟩)
     rw[hp] at HPR
     have HD7:=zh (show Below wr.heap.size wr (wr.alloc (.cells #[.slice ov' lv' cv',.bool c.rest,.int .i64 c.body.op,.int .i64 c.body.n,.slice q1 r1 u1,.slice q2 r2 u2] 43)).drew from (Below.one wr _).drew)
     have hjs:j≤1001:=by omega
     have hwrz:w.heap.size+2≤wr.heap.size:=by have:=hbx.lt;omega
     have b0:=(hbx.keep HD7.out).cell 0 rfl
     have b1:=hbx.cell 1 rfl
     have bl:=hbx.lt
     obtain ⟨i0,hi,hz0,hz1,hz2⟩:=info_parts zb9
     clear hcj hcr hcx hsv hst hb hbr hbx hown hcs hcons hrow hwf hp
     go_upto_region 7 with fail
     clear e0 e1 e2 e3 e4 e5 hgl
     go_region_law (first
      | (refine step_append_lies _ rfl (.tmp 29) (.tmp 32) 32 rfl (w.heap.size+2) 47 i0 (.agg #[.int .i64 0,.bool false,.int .i64 0,.slice none 0 0,.slice none 0 0]) 5 72 underlying32 hi hz0 hz1 hz2 rfl (by decide) (.slice o5 l5 c5) j xs rfl (HO8.out.alloc _) ⟨w8.heap.size,0,none⟩ 1 1 [.int .i64 p.args,.bool p.rest,.int .i64 p.regs,.slice o8 l8 c8,.slice none 0 0] rfl rfl (zaS w8 _ _) (by intro u hu;simp only[List.mem_cons,List.not_mem_nil,or_false] at hu;rcases hu with rfl | rfl | rfl | rfl | rfl<;>rfl) (by decide) (by unfold maxLen;omega) (by omega) (by have:=HW8.out.size;simp;omega) (w8.heap.size+1) (by simp) ?_;intro g7 cap7 w9 hown9 hgr9 hlie9 hlt9;have HZ9:=zh (Nat.le_trans (Below.one w8 _).size hgr9.size);have HST:=zh (zdQ HBB.out HRB.out HXB.out HOWN.out HCS.out HCN.out HRW.out hH4 HPJ.out HW8.out (Below.one w8 _) hgr9 HSL8.out HAR8.out.1 HAR8.out.2 HAL.out hown9 (hlie9.imp id (fun h=>by rw[h];simp)));have t0:=HST.out.1.cell 1 rfl;have tz:=HST.out.1.free 1;have tl:=HST.out.1.lt;clear hown9 hgr9 hlie9 hlt9)
      | (go_simp;go_wp2_with (go_at_call 16;(with_reducible refine HPR.out.mono ?_);rintro e w8 ⟨o8,l8,c8,rfl,hpr8,hb8⟩;have HW8:=zh (Below.next HD7.out hb8);have HO8:=zh (zam HOWN.out HW8.out);have HSL8:=zh (zc0 hpr8 HD7.out.size);have HAR8:=zh (zcc hpr8);have k1:=(HXB.out.keep HW8.out).cell 1 rfl;have kl:=(HXB.out.keep HW8.out).lt;clear hpr8 hb8)))
     all_goals
      have HN:=zh HST.out.2
      have hz9:wc.heap.size≤(w9.setCell ⟨w4.heap.size,1,none⟩ (.slice (some ⟨g7,0,none⟩) (j+1) cap7)).heap.size:=by rw[World.size_setCell];exact Nat.le_trans hzz (Nat.le_trans HW8.out.size HZ9.out)
      clear t0 tz tl
      go_wp2_with fail
      go_roundg (nC+1-(j+1))
      case measure=>omega
      case rel=>exact ⟨j+1,by omega,by omega,by go_num,HN,hz9⟩
    ·obtain rfl:j=nC+1:=by omega
     obtain ⟨U,B',hsub,hB',hrs⟩:=hcons
     have HPS:=zh (show (m.cods.map (Mk.proc Mk.lkL)).take (nC+1)=(m.unit Mk.lkL).procs from by
      rw[zbl]
      exact List.take_of_length_le (by rw[List.length_map,HCL2.out];exact Nat.le_refl _))
     rw[HPS.out] at hcs
     have HLN:=zh (show (m.unit Mk.lkL).procs.length=nC+1 from by rw[zbl,List.length_map,HCL2.out])
     have HUR:=zh (show UntR wr wr.heap.size (m.unit Mk.lkL) (.agg #[.slice ov lv cv2,.slice o5 l5 c5]) from
      ⟨_,_,rfl,hrs.cellsTo hsub.cells hB',za0 (te:=47) (base:=w.heap.size+2) (by rw[HLN.out];exact hown) (hcs.mono fun x _ cs h=>h.read)⟩)
     have HCK2:=zh (zdh (m.unit Mk.lkL) _ wr.heap.size wr HUR.out (Nat.le_refl _))
     have HBB:=zh hb
     have HRB:=zh hbr
     have HXB:=zh hbx
     have HCS:=zh hcs
     have HOWN:=zh hown
     have HSUB:=zh hsub
     have HRS:=zh hrs
     have hB'':=hB'
     have q0:=hbx.cell 0 rfl
     have q1:=hbx.cell 1 rfl
     have ql:=hbx.lt
     clear hb hbr hbx hown hcs hsub hrs hrow HI hB'
     go_wp2_with fail
     with_reducible refine HCK2.out.mono ?_
     rintro e w9 ⟨rfl,hb9⟩
     have HB9:=zh hb9
     have HB99:=zh (HBB.out.trans (hb9.mono HBB.out.size))
     have HR9:=zh (HRB.out.keep hb9)
     have HX9:=zh (HXB.out.keep hb9)
     clear hb9 q0 q1 ql HCK2
     have r0:=HR9.out.cell 0 rfl
     have r1:=HR9.out.cell 1 rfl
     have z0:=HR9.out.free 0
     have z1:=HR9.out.free 1
     have rl:=HR9.out.lt
     cases hok2:(m.unit Mk.lkL).okB with
     | false=>
      have he:(m.unit Mk.lkL).err=5:=by simp[Unt.err,hok2]
      have HE:=zh (show m.makeErr Mk.lkL=5 from by simp[Mdl.makeErr,hok2])
      have HU:=zh (show m.makeU Mk.lkL=⟨[],[]⟩ from by simp[Mdl.makeU,hok2])
      rw[he]
      clear he hok2
      have bN:=(HR9.out.set 0 (.slice none 0 0)).set 1 (.slice none 0 0)
      have n0:=bN.cell 0 rfl
      have n1:=bN.cell 1 rfl
      have HBF:=zh ((HB99.out.setCell (p:=⟨w.heap.size+1,0,none⟩) (by dsimp only;omega) (.slice none 0 0)).setCell (p:=⟨w.heap.size+1,1,none⟩) (by dsimp only;omega) (.slice none 0 0))
      clear bN
      go_wp2_with fail
      refine bodyPost_ret (v:=.tuple #[.agg #[.slice none 0 0,.slice none 0 0],.int .i64 5]) (by simp[results,results6,go_sem,n0,n1]) rfl ⟨.slice none 0 0,.slice none 0 0,by rw[HE.out],?_,HBF.out⟩
      rw[HU.out]
      exact ⟨_,_,rfl,⟨none,0,0,rfl,rfl,Nat.le_refl _,by omega,rfl,rfl⟩,⟨none,0,0,rfl,rfl,Nat.le_refl _,by omega,rfl,rfl⟩⟩
     | true=>
      have he:(m.unit Mk.lkL).err=0:=by simp[Unt.err,hok2]
      have HE:=zh (show m.makeErr Mk.lkL=0 from by simp[Mdl.makeErr,hok2,HOK.out])
      have HU:=zh (show m.makeU Mk.lkL=m.unit Mk.lkL from by simp[Mdl.makeU,hok2,HOK.out])
      rw[he]
      clear he hok2
      have q0:=HX9.out.cell 0 rfl
      have q1:=HX9.out.cell 1 rfl
      have ql:=HX9.out.lt
      have bN:=(HR9.out.set 0 (.slice ov lv cv2)).set 1 (.slice o5 l5 c5)
      have n0:=bN.cell 0 rfl
      have n1:=bN.cell 1 rfl
      have HBF:=zh ((HB99.out.setCell (p:=⟨w.heap.size+1,0,none⟩) (by dsimp only;omega) (.slice ov lv cv2)).setCell (p:=⟨w.heap.size+1,1,none⟩) (by dsimp only;omega) (.slice o5 l5 c5))
      have hst:∀V,Sub (fun b=>b=w4.heap.size∨b=w.heap.size+1∨(Value.slice o5 l5 c5).ownBlock=some b) V wr→Sub (fun b=>b=w4.heap.size∨b=w.heap.size+1∨(Value.slice o5 l5 c5).ownBlock=some b) V ((w9.setCell ⟨w.heap.size+1,0,none⟩ (.slice ov lv cv2)).setCell ⟨w.heap.size+1,1,none⟩ (.slice o5 l5 c5)):=fun V hV=>((hV.below HB9.out).set ⟨w.heap.size+1,0,none⟩ _ (.inr (.inl rfl))).set ⟨w.heap.size+1,1,none⟩ _ (.inr (.inl rfl))
      have HUF:=zh (show UntR ((w9.setCell ⟨w.heap.size+1,0,none⟩ (.slice ov lv cv2)).setCell ⟨w.heap.size+1,1,none⟩ (.slice o5 l5 c5)) ((w9.setCell ⟨w.heap.size+1,0,none⟩ (.slice ov lv cv2)).setCell ⟨w.heap.size+1,1,none⟩ (.slice o5 l5 c5)).heap.size (m.unit Mk.lkL) (.agg #[.slice ov lv cv2,.slice o5 l5 c5]) from by
       have hz9:=HB9.out.size
       refine ⟨_,_,rfl,HRS.out.cellsTo (hst U HSUB.out).cells (by rw[World.size_setCell,World.size_setCell];omega),?_⟩
       refine za0 (te:=47) (base:=w.heap.size+2) ?_ (HCS.out.mono fun x _ cs h=>(h.to hst (by rw[World.size_setCell,World.size_setCell];exact hz9)).read)
       rw[HLN.out]
       exact ownsRow_setCell_below (ownsRow_setCell_below (zam HOWN.out HB9.out) (a:=⟨w.heap.size+1,0,none⟩) (by dsimp only;omega) _) (a:=⟨w.heap.size+1,1,none⟩) (by dsimp only;omega) _)
      clear bN hst
      go_wp2_with fail
      refine bodyPost_ret (v:=.tuple #[.agg #[.slice ov lv cv2,.slice o5 l5 c5],.int .i64 0]) (by simp[results,results6,go_sem,n0,n1]) rfl ⟨.slice ov lv cv2,.slice o5 l5 c5,by rw[HE.out],?_,HBF.out⟩
      rw[HU.out]
      exact HUF.out
end
section
open Go Go.RowKit Mk
theorem zju (e:Bool) (n:Int) (v:List Int) (l:List Trm) (x:Trm) (hlv0:l.length=v.length) (hl:∀y∈l,ZAllC y.t) (hx:ZIntoC e x) (c0 c1 c2 c3:Value) (B base mb:Nat) (K:KV) (X:Nat→Prop) (s:MSt) (d:Int) (nc nk:Int) (fr:Bool) (sc sc':Int→Bool) (W:World)
  (hv:TrmR W B (.mk 9 n v (l++[x])) [c0,c1,c2,c3]) (hm:ZkIn W B base mb K X s) (hwl:∀y∈l,∀z∈y.t,Trm.wf nc nk fr z sc=true) (hwx:Trm.wf nc nk fr x sc'=true) (hroom:Room s (6*Trm.allL (l++[x])+4)) (hd:0≤d∧d≤1900000) :
  Calls prog 76 #[.pointer (some ⟨mb,0,none⟩),.agg #[c0,c1,c2,c3],.int .i64 d,.bool e] W fun r w'=>r=.returned (.tuple #[])∧∃K',ZkGo B base mb K K' X (Mk.into Mk.lkF x d e (Mk.fill Mk.lkF v (l++[x]) (Mk.fix1 v (l++[x]) s))) W w':=by
 obtain ⟨W1,hW1⟩:∃W1,W.alloc (.cells #[c0,c1,c2,c3] 27)=W1:=⟨_,rfl⟩
 have HB1:=zh (show Below W.heap.size W W1 from by rw[←hW1];exact Below.one W _)
 have HBX:=zh (show BoxL W1 W.heap.size 27 [c0,c1,c2,c3] from by rw[←hW1];exact BoxL.new rfl _ _)
 have HM:=zh (hm.keep HB1.out)
 have hsz:=hm.size
 have HW:=zh hW1
 obtain ⟨vs,ts,he,_,hn,hvs,hts⟩:=zas.1 hv
 simp only[List.cons.injEq,and_true] at he
 obtain ⟨rfl,rfl,rfl,rfl⟩:=he
 obtain ⟨ov,lv,cvv,rfl⟩:=hvs.form
 obtain ⟨ot,lt,ct,rfl⟩:=hts.form
 have HT:=zh (show TrmS W1 B (l++[x]) (.slice ot lt ct) from TrmS.kept hts (HB1.out.mono hsz))
 have HV:=zh (show SlC W1 B 1 IntR v (.slice ov lv cvv) from hvs.kept (HB1.out.mono hsz) fun _ _ _ h=>h)
 obtain ⟨hlt,hltc,hltm⟩:=SlC.lens HT.out
 obtain ⟨hlv,hlvc,hlvm⟩:=HV.out.lens
 obtain rfl:lt=lv+1:=by rw[hlt,hlv,←hlv0];simp
 have HLL:=zh (show l.length=lv by omega)
 have HLV:=zh hlv
 have HH:=zh hl
 have HX:=zh hx
 have HWL:=zh hwl
 have HWX:=zh hwx
 have hshort:=Trm.allL_length (l++[x])
 have HRO:=zh hroom
 have hxp:=x.all_pos
 have hlv3:lv≤300000:=by have:=hroom.1;simp only[List.length_append,List.length_singleton] at hshort;have:=HLL.out;omega
 have HTL:=zh (show (l++[x]).length=lv+1 from by simp[HLL.out])
 have hrf:Room (Mk.fill Mk.lkF v (l++[x]) (Mk.fix1 v (l++[x]) s)) (6*x.all-2):=by
  have e1:Mk.fill Mk.lkF v (l++[x]) (Mk.fix1 v (l++[x]) s)=Mk.fill Mk.lkF v l (Mk.fix1 v (l++[x]) s):=by
   rw[←Mk.fill_take Mk.lkF v (l++[x]),←hlv0,List.take_left]
  rw[e1]
  refine Room.fill Mk.lkF_ok v l (Room.fix1 v (l++[x]) (hroom.mono ?_))
  rw[zaz,show Trm.allL [x]=x.all by simp[Trm.allL]]
  simp only[List.length_append,List.length_singleton]
  have:=Trm.allL_length l
  omega
 have HRF:=zh hrf
 have e0:=HBX.out.cell 0 rfl
 have e2:=HBX.out.cell 2 rfl
 have el:=HBX.out.lt
 have hzW:=HB1.out.size
 clear hv hm hW1 hts hvs hl hx hwl hwx hroom hlt hlv hlv0 hrf
 go_enter func76,ntmps76
 go_upto_region 1 with fail
 rw[HW.out]
 go_wp2_with fail
 go_loopg [12] lv (fun g i wr=>∃(j:Nat) (K1:KV),g=lv-j∧i=.int .i64 j∧j≤lv∧Hid (ZkGo B base mb K K1 X (Mk.fix1 (v.take j) (l++[x]) s) W1 wr))
 case atStart=>exact ⟨0,K,rfl,rfl,by omega,zh (by rw[List.take_zero,show Mk.fix1 [] (l++[x]) s=s by rw[Mk.fix1];simp];exact ZkGo.refl HM.out)⟩
 case round=>
  obtain ⟨j,K1,rfl,rfl,hj,HG⟩:=hrel
  clear e0 e2 el
  have HBX2:=zh (HG.out.turned.box HBX.out (HM.out.st.boxApart HBX.out (by decide) (by decide) (by decide)))
  by_cases hjl:j<lv
  ·obtain ⟨y,hy⟩:∃y,v[j]?=some y:=⟨_,List.getElem?_eq_getElem (by rw[←HLV.out];exact hjl)⟩
   obtain ⟨z,hz⟩:∃z,(l++[x])[j]?=some z:=⟨_,List.getElem?_eq_getElem (by rw[HTL.out];omega)⟩
   obtain ⟨zb,zoff,z0,z1,z2,z3,hzo,hpz⟩:=TrmS.part (TrmS.kept HT.out HG.out.low) hz
   obtain ⟨yb,yoff,hyo,hyb,hyc,hyi⟩:=SlC.int (HV.out.kept HG.out.low fun _ _ _ h=>h) hy
   subst hzo hyo
   have hjt:j<lv+1:=by omega
   have HYI:=zh hyi
   have HPZ:=zh hpz
   have HSN:=zh (Mk.fix1_snoc v (l++[x]) j y z s hy hz)
   have hyl:=zac hyc
   have hrm:=Mk.Room.fix1 (k:=3) (v.take j) (l++[x]) (HRO.out.mono (by have:=hshort;have:=HTL.out;omega))
   obtain ⟨s1,hs1⟩:∃s1,Mk.fix1 (v.take j) (l++[x]) s=s1:=⟨_,rfl⟩
   rw[hs1] at HG HSN hrm
   have HRM:=zh hrm
   obtain ⟨qa,qb,qc,qd,qe,qf,rfl,rfl,rfl,rfl,hzn⟩:=TrmR.shape HPZ.out.r
   have HZN:=zh hzn
   have hregs:I64 s1.regs:=⟨by have:=HRM.out.2.1;omega,by have:=HRM.out.2.2.1;omega⟩
   have HRG:=zh hregs
   have HF:=zh (zck wr HG.out.inn (HRM.out.mono (by omega)))
   clear hy hz hpz hs1 hrm hyi hzn hregs
   go_wp2_with fail
   with_reducible refine HF.out.mono ?_
   rintro r2 w2 ⟨rfl,hg2⟩
   have HG2:=zh (HG.out.next hg2)
   have HBX3:=zh (HG2.out.turned.box HBX.out (HM.out.st.boxApart HBX.out (by decide) (by decide) (by decide)))
   have HYC:=zh ((hg2.low.cell (p:=⟨yb,yoff+j,none⟩) hyb).trans hyc)
   have HPZ2:=zh (HPZ.out.kept hg2.low)
   have HRM2:=zh (Room.fresh (k:=2) HRM.out)
   have HBD:=zh (zcD y s1.regs w2 HG2.out.inn (by have:=HRM2.out.2.2.2.2;omega) HYI.out HRG.out)
   have HRM3:=zh (Room.bind (k:=1) [y] [s1.regs] HRM2.out (fun y hy=>by rw[List.mem_singleton.1 hy];exact ⟨HRM.out.2.1,by have:=HRM.out.2.2.1;omega⟩))
   obtain ⟨s2,hs2⟩:∃s2,s1.fresh.bind [y] [s1.regs]=s2:=⟨_,rfl⟩
   rw[hs2] at HBD HSN HRM3
   clear hg2 hyc hyl HF HPZ hs2
   have hyc:=HYC.out
   have hyl:=zac hyc
   have e2:=HBX3.out.cell 2 rfl
   have el:=HBX3.out.lt
   go_wp2_with fail
   with_reducible refine HBD.out.mono ?_
   rintro r3 w3 ⟨rfl,K3,hg3⟩
   have HG3:=zh (HG2.out.next hg3)
   have HBX4:=zh (HG3.out.turned.box HBX.out (HM.out.st.boxApart HBX.out (by decide) (by decide) (by decide)))
   have HPZ3:=zh (HPZ2.out.kept hg3.low)
   have HPT:=zh (zal 7 s1.regs z.n 0 [] none 0 0 w3 HG3.out.inn (by have:=HRM3.out.1;omega) (by constructor<;>omega) HRG.out HZN.out (by constructor<;>omega) (IntsM.nil _ _))
   clear hg3 hyc hyl e2 el HBD HYC HPZ2
   have y1:=HPZ3.out.e1
   have yl:=HPZ3.out.size
   have e3:=HBX4.out.cell 3 rfl
   have el:=HBX4.out.lt
   go_wp2_with fail
   with_reducible refine HPT.out.mono ?_
   rintro r4 w4 ⟨rfl,K4,hg4⟩
   have HG4:=zh (show ZkGo B base mb K K4 X (Mk.fix1 (v.take (j+1)) (l++[x]) s) W1 w4 from by rw[HSN.out];exact HG3.out.next hg4)
   clear hg4 HPT y1 yl e3 el
   go_wp2_with fail
   go_roundg (lv-(j+1))
   case measure=>omega
   case rel=>exact ⟨j+1,K4,rfl,by go_num,by omega,HG4⟩
  ·obtain rfl:j=lv:=by omega
   have HE:=zh (show v.take j=v from List.take_of_length_le (by rw[←HLV.out];exact Nat.le_refl _))
   have hg:=HG.out
   rw[HE.out] at hg
   have HG0:=zh hg
   obtain ⟨s0,hs0⟩:∃s0,Mk.fix1 v (l++[x]) s=s0:=⟨_,rfl⟩
   have HS0:=zh hs0
   rw[hs0] at HG0
   have HRO2:=zh (show Room s0 (6*Trm.allL (l++[x])+4-3*(l++[x]).length) from by rw[←hs0];exact Room.fix1 v (l++[x]) (HRO.out.mono (by have:=hshort;omega)))
   have e2:=HBX2.out.cell 2 rfl
   have el:=HBX2.out.lt
   clear hg HG HE hs0
   go_wp2_with fail
   go_loopg [14] j (fun g i wr=>∃(k:Nat) (K2:KV),g=j-k∧i=.int .i64 k∧k≤j∧Hid (ZkGo B base mb K K2 X (Mk.fill Mk.lkF (v.take k) (l++[x]) s0) W1 wr))
   case atStart=>exact ⟨0,K1,rfl,rfl,by omega,zh (by rw[List.take_zero,show Mk.fill Mk.lkF [] (l++[x]) s0=s0 by rw[Mk.fill];simp];exact HG0.out)⟩
   case round=>
    obtain ⟨k,K2,rfl,rfl,hk,HG⟩:=hrel
    clear e2 el HBX2
    have HBX3:=zh (HG.out.turned.box HBX.out (HM.out.st.boxApart HBX.out (by decide) (by decide) (by decide)))
    by_cases hkl:k<j
    ·obtain ⟨y,hy⟩:∃y,v[k]?=some y:=⟨_,List.getElem?_eq_getElem (by rw[←HLV.out];exact hkl)⟩
     obtain ⟨z,hz⟩:∃z,(l++[x])[k]?=some z:=⟨_,List.getElem?_eq_getElem (by rw[HTL.out];omega)⟩
     have hzl:l[k]?=some z:=by rw[←hz,List.getElem?_append_left (by rw[HLL.out];exact hkl)]
     obtain ⟨zb,zoff,z0,z1,z2,z3,hzo,hpz⟩:=TrmS.part (TrmS.kept HT.out HG.out.low) hz
     obtain ⟨yb,yoff,hyo,hyb,hyc,hyi⟩:=SlC.int (HV.out.kept HG.out.low fun _ _ _ h=>h) hy
     subst hzo hyo
     have hkt:k<j+1:=by omega
     have HYI:=zh hyi
     have HPZ:=zh hpz
     have HSN:=zh (Mk.fill_snoc Mk.lkF v (l++[x]) k y z s0 hy hz)
     have hrm:Room (Mk.fill Mk.lkF (v.take k) (l++[x]) s0) (6*Trm.allL z.t+1):=by
      have e1:Mk.fill Mk.lkF (v.take k) (l++[x]) s0=Mk.fill Mk.lkF (v.take k) ((l++[x]).take k) s0:=by
       rw[←Mk.fill_take Mk.lkF (v.take k) (l++[x]) s0,List.length_take,Nat.min_eq_left (by have:=HLV.out;omega)]
      rw[e1]
      refine Mk.Room.fill Mk.lkF_ok (v.take k) ((l++[x]).take k) (HRO2.out.mono ?_)
      have h1:=za2 hz
      have h2:Trm.allL ((l++[x]).take (k+1))+Trm.allL ((l++[x]).drop (k+1))=Trm.allL (l++[x]):=by rw[←zaz,List.take_append_drop]
      have h3:=Trm.allL_length ((l++[x]).drop (k+1))
      have h4:((l++[x]).take k).length=k:=by rw[List.length_take];have:=HTL.out;omega
      have h5:z.all=1+Trm.allL z.t:=by obtain ⟨o,n,v,t⟩:=z;rfl
      rw[List.length_drop] at h3
      have h6:=HTL.out
      have h8:=Trm.allL_length ((l++[x]).take k)
      rw[h4] at h8 ⊢
      omega
     obtain ⟨s1,hs1⟩:∃s1,Mk.fill Mk.lkF (v.take k) (l++[x]) s0=s1:=⟨_,rfl⟩
     rw[hs1] at HG HSN hrm
     have HRM:=zh hrm
     obtain ⟨qa,qb,qc,qd,qe,qf,rfl,rfl,rfl,rfl,hzn⟩:=TrmR.shape HPZ.out.r
     have HAL:=zh (HH.out z (List.mem_of_getElem? hzl) (.slice qd qe qf) B base mb K2 X s1 nc nk fr sc wr (by
       have hr:=HPZ.out.r
       obtain ⟨oy,ny,vy,ty⟩:=z
       obtain ⟨vs',ts',he,_,_,_,h⟩:=zas.1 hr
       simp only[List.cons.injEq,and_true] at he
       obtain ⟨_,_,_,rfl⟩:=he
       exact h) HG.out.inn (HWL.out z (List.mem_of_getElem? hzl)) (hrm.mono (by omega)))
     have hra:=Room.allT (k:=1) Mk.lkF_ok z.t s1 (hrm.mono (by omega))
     obtain ⟨p,hp⟩:∃p,Mk.allT Mk.lkF z.t s1=p:=⟨_,rfl⟩
     rw[hp] at HAL HSN hra
     have HRA:=zh hra
     have y3:=HPZ.out.e3
     have yl:=HPZ.out.size
     have e3:=HBX3.out.cell 3 rfl
     have el:=HBX3.out.lt
     clear hy hz hzl hpz hs1 hrm hyi hzn hra hp
     go_wp2_with fail
     with_reducible refine HAL.out.mono ?_
     rintro r2 w2 ⟨rv,rfl,K3,hg2,hi2⟩
     obtain ⟨ol,ll,cl,rfl⟩:=hi2.1.form
     have HG2:=zh (HG.out.next hg2)
     have HI2:=zh hi2
     have HBX4:=zh (HG2.out.turned.box HBX.out (HM.out.st.boxApart HBX.out (by decide) (by decide) (by decide)))
     have HYC:=zh ((hg2.low.cell (p:=⟨yb,yoff+k,none⟩) hyb).trans hyc)
     obtain ⟨rg,hrg⟩:∃rg,Mk.lkF p.2.vars y=rg:=⟨_,rfl⟩
     have hrl:=HRA.out.1.lk Mk.lkF_ok y
     have HRR:=zh (za9 y w2 HG2.out.inn rg hrg)
     rw[hrg] at hrl HSN
     have HRL:=zh hrl
     clear hg2 hi2 hrl hrg HAL y3 yl e3 el hyc
     have hyc:=HYC.out
     have hyl:=zac hyc
     have e2:=HBX4.out.cell 2 rfl
     have el:=HBX4.out.lt
     go_wp2_with fail
     with_reducible refine HRR.out.mono ?_
     rintro r3 w3 ⟨rfl,hb3⟩
     have HG3:=zh (HG2.out.after hb3)
     have HI3:=zh (HI2.out.below hb3)
     have HPT:=zh (zal 8 0 rg 0 p.1 ol ll cl w3 HG3.out.inn (by have:=HRA.out.1.1;omega) (by constructor<;>omega) (by constructor<;>omega) ⟨by have:=HRL.out.1;omega,by have:=HRL.out.2;omega⟩ (by constructor<;>omega) HI3.out)
     clear hb3 hyc hyl e2 el HRR
     go_wp2_with fail
     with_reducible refine HPT.out.mono ?_
     rintro r4 w4 ⟨rfl,K4,hg4⟩
     have HG4:=zh (show ZkGo B base mb K K4 X (Mk.fill Mk.lkF (v.take (k+1)) (l++[x]) s0) W1 w4 from by rw[HSN.out];exact HG3.out.next hg4)
     clear hg4 HPT
     go_wp2_with fail
     go_roundg (j-(k+1))
     case measure=>omega
     case rel=>exact ⟨k+1,K4,rfl,by go_num,by omega,HG4⟩
    ·obtain rfl:k=j:=by omega
     have HE:=zh (show v.take k=v from List.take_of_length_le (by rw[←HLV.out];exact Nat.le_refl _))
     have hg:=HG.out
     have hrf:=HRF.out
     rw[HE.out] at hg
     rw[HS0.out] at hrf
     obtain ⟨s5,hs5⟩:∃s5,Mk.fill Mk.lkF v (l++[x]) s0=s5:=⟨_,rfl⟩
     have HS5:=zh hs5
     rw[hs5] at hg hrf
     have HG5:=zh hg
     have HR5:=zh hrf
     clear hg hrf hs5
     obtain ⟨tb,off,x0,x1,x2,x3,hto,hpx⟩:=TrmS.part HT.out (i:=k) (x:=x) (by rw[←HLL.out];simp)
     subst hto
     have HPX5:=zh (hpx.kept HG5.out.low)
     obtain ⟨qa,qb,qc,qd,qe,qf,rfl,rfl,rfl,rfl,_⟩:=TrmR.shape HPX5.out.r
     have HI:=zh (HX.out _ _ _ _ B base mb K2 X _ d nc nk fr sc' wr HPX5.out.r HG5.out.inn HWX.out HR5.out hd)
     have e3:=HBX3.out.cell 3 rfl
     have el:=HBX3.out.lt
     have q0:=HPX5.out.e0
     have q1:=HPX5.out.e1
     have q2:=HPX5.out.e2
     have q3:=HPX5.out.e3
     have ql:=HPX5.out.size
     clear hpx
     go_wp2_with fail
     with_reducible refine HI.out.mono ?_
     rintro r w6 ⟨rfl,K6,hg6⟩
     have HG9:=zh ((HG5.out.next hg6).before HB1.out hsz)
     clear hg6 HI e3 el q0 q1 q2 q3 ql
     go_wp2_with fail
     first | go_end0 | (refine bodyPost_ret (results_none rfl _ _ _) rfl ?_)
     exact ⟨rfl,_,by rw[HS0.out,HS5.out];exact HG9.out⟩
end
end Go.Proofs.YtdcajmeeeoofgaaGreatDoor
