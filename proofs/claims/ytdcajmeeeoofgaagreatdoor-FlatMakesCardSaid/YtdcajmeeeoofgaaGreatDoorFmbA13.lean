/- .. -/
import Derived.Test.YtdcajmeeeoofgaaGreatDoorFmbA12
open Go.Proofs.Tryz
set_option maxRecDepth 100000
set_option maxHeartbeats 16000000
namespace Go.Proofs.YtdcajmeeeoofgaaGreatDoor
section
open Go Go.RowKit Mk
structure PartAt (W:World) (B b o:Nat) (x:Trm) (c0 c1 c2 c3:Value):Prop where
 lt:b<B
 e0:W.cell? ⟨b,o,none⟩=some c0
 e1:W.cell? ⟨b,o+1,none⟩=some c1
 e2:W.cell? ⟨b,o+2,none⟩=some c2
 e3:W.cell? ⟨b,o+3,none⟩=some c3
 r:TrmR W B x [c0,c1,c2,c3]
theorem PartAt.kept {W W':World} {B b o:Nat} {x:Trm} {c0 c1 c2 c3:Value} (h:PartAt W B b o x c0 c1 c2 c3) (hb:Below B W W'):PartAt W' B b o x c0 c1 c2 c3:=
 ⟨h.lt,(hb.cell (p:=⟨b,o,none⟩) h.lt).trans h.e0,(hb.cell (p:=⟨b,o+1,none⟩) h.lt).trans h.e1,(hb.cell (p:=⟨b,o+2,none⟩) h.lt).trans h.e2,(hb.cell (p:=⟨b,o+3,none⟩) h.lt).trans h.e3,TrmR.kept hb _ _ h.r⟩
theorem PartAt.size {W:World} {B b o:Nat} {x:Trm} {c0 c1 c2 c3:Value} (h:PartAt W B b o x c0 c1 c2 c3):b<W.heap.size:=zac h.e0
theorem TrmS.part {W:World} {B:Nat} {l:List Trm} {o:Option Addr} {len cap:Nat} (h:TrmS W B l (.slice o len cap)) {i:Nat} {x:Trm} (hx:l[i]?=some x):∃b off c0 c1 c2 c3,o=some ⟨b,off,none⟩∧PartAt W B b (off+i*4) x c0 c1 c2 c3:=by
 obtain ⟨b,off,cs,ho,hlt,hcl,hcell,hr⟩:=SlC.at h (Below.refl _ _) hx
 match cs,hcl with
 | [c0,c1,c2,c3],_=>exact ⟨b,off,c0,c1,c2,c3,ho,hlt,by simpa using hcell 0 _ rfl,hcell 1 _ rfl,hcell 2 _ rfl,hcell 3 _ rfl,hr⟩
theorem SlC.int {W:World} {B:Nat} {l:List Int} {o:Option Addr} {len cap:Nat} (h:SlC W B 1 IntR l (.slice o len cap)) {j:Nat} {x:Int} (hx:l[j]?=some x):∃b off,o=some ⟨b,off,none⟩∧b<B∧W.cell? ⟨b,off+j,none⟩=some (.int .i64 x)∧I64 x:=by
 obtain ⟨b,off,cs,ho,hlt,_,hcell,rfl,hi⟩:=h.at (Below.refl _ _) hx
 exact ⟨b,off,ho,hlt,by simpa using hcell 0 _ rfl,hi⟩
theorem zgi (w:World):Calls prog 94 #[] w fun e w'=>e=.returned (.tuple #[])∧Below w.heap.size w w':=by
 go_enter func94,ntmps94
 go_wp2_with fail
 go_end0
 exact ⟨rfl,Below.refl _ _⟩
theorem zf3 (e:Bool) (op n:Int) (v:List Int) (a b c:Trm) (ha:HadC a) (hb:IntoC e b) (hc:IntoC e c) (c0 c1 c2 c3:Value) (B base mb vb:Nat) (cv:Value) (X:Nat→Prop) (s:MSt) (d:Int) (nc nk:Int) (fr:Bool) (sc:Int→Bool) (W:World)
  (hv:TrmR W B (.mk op n v [a,b,c]) [c0,c1,c2,c3]) (hm:MkIn W B base mb vb cv X s) (wa:Trm.wf nc nk fr a sc=true) (wb:Trm.wf nc nk fr b sc=true) (wc:Trm.wf nc nk fr c sc=true) (hroom:Room s (2+6*Trm.allL [a,b,c])) (hd:0≤d∧d≤1900000) :
  Calls prog 65 #[.pointer (some ⟨mb,0,none⟩),.agg #[c0,c1,c2,c3],.int .i64 d,.bool e] W fun r w'=>r=.returned (.tuple #[])∧∃cv',MkGo B base mb vb cv cv' X (Mk.choice Mk.lkL [a,b,c] d e s) W w':=by
 obtain ⟨W1,hW1⟩:∃W1,W.alloc (.cells #[c0,c1,c2,c3] 27)=W1:=⟨_,rfl⟩
 have HB1:=zh (show Below W.heap.size W W1 from by rw[←hW1];exact Below.one W _)
 have HBX:=zh (show BoxL W1 W.heap.size 27 [c0,c1,c2,c3] from by rw[←hW1];exact BoxL.new rfl _ _)
 have HM:=zh (hm.keep HB1.out)
 have HLT:=zh hm.st.lt
 have hsz:=hm.size
 have HW:=zh hW1
 obtain ⟨vs,ts,he,_,_,hvs,hts⟩:=zas.1 hv
 simp only[List.cons.injEq,and_true] at he
 obtain ⟨rfl,rfl,rfl,rfl⟩:=he
 obtain ⟨ov,lv,cvv,rfl⟩:=hvs.form
 obtain ⟨ot,lt,ct,rfl⟩:=hts.form
 have hT:TrmS W1 B [a,b,c] (.slice ot lt ct):=TrmS.kept hts (HB1.out.mono hsz)
 obtain ⟨hlen,_,_⟩:=SlC.lens hT
 obtain rfl:lt=3:=hlen
 obtain ⟨tb,off,a0,a1,a2,a3,rfl,hpa⟩:=TrmS.part hT (i:=0) rfl
 obtain ⟨tb',off',b0,b1,b2,b3,ho,hpb⟩:=TrmS.part hT (i:=1) rfl
 simp only[Option.some.injEq,Addr.mk.injEq,and_true] at ho
 obtain ⟨rfl,rfl⟩:=ho
 obtain ⟨tb',off',d0,d1,d2,d3,ho,hpc⟩:=TrmS.part hT (i:=2) rfl
 simp only[Option.some.injEq,Addr.mk.injEq,and_true] at ho
 obtain ⟨rfl,rfl⟩:=ho
 have HPA:=zh hpa
 have HPB:=zh hpb
 have HPC:=zh hpc
 have hal:Trm.allL [a,b,c]=a.all+b.all+c.all:=by simp[Trm.allL];omega
 have pa:=a.all_pos
 have pb:=b.all_pos
 have pc:=c.all_pos
 rw[hal] at hroom
 have HA:=zh (ha a0 a1 a2 a3 B base mb vb cv X s nc nk fr sc W1 hpa.r HM.out wa (hroom.mono (by omega)))
 obtain ⟨p,hp⟩:∃p,Mk.had Mk.lkL a s=p:=⟨_,rfl⟩
 have hrA:=Room.had (k:=2+(6*b.all-2)+(6*c.all-2)) Mk.lkL_ok a (Room.into Mk.lkL_ok a) (s:=s) (hroom.mono (by omega))
 rw[show Mk.hadW Mk.lkL a.op a.n (Mk.into Mk.lkL a) s=p from hp] at hrA
 rw[hp] at HA
 have hgoal:Mk.choice Mk.lkL [a,b,c] d e s=Mk.thens (Mk.into Mk.lkL b) (Mk.into Mk.lkL c) p.1 d e p.2:=by rw[←hp];rfl
 rw[hgoal]
 have HRA:=zh hrA
 have HB:=zh hb
 have HC:=zh hc
 have WB:=zh wb
 have WC:=zh wc
 have e3:=HBX.out.cell 3 rfl
 have el:=HBX.out.lt
 have q0:=hpa.e0
 have q1:=hpa.e1
 have q2:=hpa.e2
 have q3:=hpa.e3
 have ql:=hpa.size
 simp only[Nat.zero_mul,Nat.add_zero] at q0 q1 q2 q3
 clear hv hm hW1 hts hvs hT hpa hpb hpc ha hb hc wa wb wc hroom hrA hgoal hp
 go_enter func65,ntmps65
 go_upto_region 1 with fail
 rw[HW.out]
 go_wp2_with fail
 refine HA.out.mono ?_
 rintro r w2 ⟨rfl,cv2,hg2⟩
 have HG2:=zh hg2
 have HL:=zh (ziB 16 0 p.1 0 [] none 0 0 w2 hg2.inn (by have:=HRA.out.1.1;omega) (by constructor<;>omega) (by constructor<;>omega) ⟨by have:=HRA.out.2.1;omega,by have:=HRA.out.2.2;omega⟩ (by constructor<;>omega) (IntsM.nil _ _))
 clear hg2 e3 el q0 q1 q2 q3 ql
 go_wp2_with fail
 refine HL.out.mono ?_
 rintro r w3 ⟨g3,cap3,k3,rfl,hpb3,hcb3,hk3,hg3⟩
 have HP3:=zh hpb3
 have HK3:=zh hcb3
 have HG3:=zh hg3
 have HI3:=zh (HG2.out.next hg3)
 have HBX3:=zh (HI3.out.box HM.out HBX.out (by decide) (by decide))
 have HR3:=zh (Room.put (k:=1+(6*b.all-2)+(6*c.all-2)) (HRA.out.1.mono (by omega)) ⟨16,0,p.1,0,[]⟩)
 obtain ⟨s1,hs1⟩:∃s1,p.2.put ⟨16,0,p.1,0,[]⟩=s1:=⟨_,rfl⟩
 have HX1:=zh (show s1.code[p.2.code.length]?=some ⟨16,0,p.1,0,[]⟩ from by rw[←hs1];simp[MSt.put])
 have HS1:=zh hs1
 have HN1:=zh (HB.out b0 b1 b2 b3 B base mb vb _ X _ d nc nk fr sc w3 (HPB.out.kept HI3.out.low).r HI3.out.inn WB.out (HR3.out.mono (by omega)) hd)
 rw[hs1] at HG3 HI3 HR3 HN1
 have q0:=(HPB.out.kept HI3.out.low).e0
 have q1:=(HPB.out.kept HI3.out.low).e1
 have q2:=(HPB.out.kept HI3.out.low).e2
 have q3:=(HPB.out.kept HI3.out.low).e3
 have ql:=(HPB.out.kept HI3.out.low).size
 have e3:=HBX3.out.cell 3 rfl
 have el:=HBX3.out.lt
 clear hpb3 hcb3 hg3 hs1 HA HL
 go_wp2_with fail
 refine HN1.out.mono ?_
 rintro r w4 ⟨rfl,cv4,hg4⟩
 have HP4:=zh (hg4.box HI3.out.inn HP3.out (by decide) (by decide))
 have HK4:=zh (hg4.box HI3.out.inn HK3.out (by decide) (by decide))
 have HBX4:=zh (hg4.box HI3.out.inn HBX3.out (by decide) (by decide))
 have HI4:=zh (HI3.out.next hg4)
 have HR4:=zh (Room.into Mk.lkL_ok b d e s1 (1+(6*c.all-2)) (HR3.out.mono (by omega)))
 have HX4:=zh ((Mk.Ext.into (lk:=Mk.lkL) b d e s1).at HX1.out)
 have HE1:=zh (show p.2.code.length<s1.code.length from (List.getElem?_eq_some_iff.1 HX1.out).1)
 have HE2:=zh ((Mk.Ext.into (lk:=Mk.lkL) b d e s1).len)
 clear hg4 q0 q1 q2 q3 ql e3 el HN1
 cases e with
 | true=>
  have HTE:=zh (zfm w4 HI4.out.inn w2.heap.size k3 p.2.code.length _ HX4.out (show (16:Int)≠15 by decide) (by have:=HR4.out.1;omega) HP4.out HK4.out)
  go_wp2_with fail
  refine HTE.out.mono ?_
  rintro r w5 ⟨rfl,hg5⟩
  have HI5:=zh (HI4.out.next hg5)
  have HBX5:=zh (hg5.box HI4.out.inn HBX4.out (by decide) (by decide))
  have HN2:=zh (HC.out d0 d1 d2 d3 B base mb vb _ X _ d nc nk fr sc w5 (HPC.out.kept HI5.out.low).r HI5.out.inn WC.out ((Room.setB HR4.out _ _).mono (by omega)) hd)
  have q0:=(HPC.out.kept HI5.out.low).e0
  have q1:=(HPC.out.kept HI5.out.low).e1
  have q2:=(HPC.out.kept HI5.out.low).e2
  have q3:=(HPC.out.kept HI5.out.low).e3
  have ql:=(HPC.out.kept HI5.out.low).size
  have e3:=HBX5.out.cell 3 rfl
  have el:=HBX5.out.lt
  clear hg5 HTE
  go_wp2_with fail
  refine HN2.out.mono ?_
  rintro r w6 ⟨rfl,cv6,hg6⟩
  have HI6:=zh ((HI5.out.next hg6).before HB1.out hsz)
  clear hg6 q0 q1 q2 q3 ql e3 el HN2
  go_wp2_with fail
  refine (zgi w6).mono ?_
  rintro r w7 ⟨rfl,hb7⟩
  have HI7:=zh (HI6.out.after hb7)
  go_wp2_with fail
  go_end0
  refine ⟨rfl,cv6,?_⟩
  have:=HI7.out
  rw[←HS1.out] at this
  exact this
 | false=>
  have HL:=zh (ziB 15 0 0 0 [] none 0 0 w4 HI4.out.inn (by have:=HR4.out.1;omega) (by constructor<;>omega) (by constructor<;>omega) (by constructor<;>omega) (by constructor<;>omega) (IntsM.nil _ _))
  go_wp2_with fail
  refine HL.out.mono ?_
  rintro r w5 ⟨g5,cap5,k5,rfl,hpb5,hcb5,hk5,hg5⟩
  have HP5:=zh hpb5
  have HK5:=zh hcb5
  have HP5':=zh (hg5.box HI4.out.inn HP4.out (by decide) (by decide))
  have HK5':=zh (hg5.box HI4.out.inn HK4.out (by decide) (by decide))
  have HBX5:=zh (hg5.box HI4.out.inn HBX4.out (by decide) (by decide))
  have HI5:=zh (HI4.out.next hg5)
  have HR5:=zh (Room.put (k:=6*c.all-2) (HR4.out.mono (by omega)) ⟨15,0,0,0,[]⟩)
  obtain ⟨s2,hs2⟩:∃s2,Mk.into Mk.lkL b d false s1=s2:=⟨_,rfl⟩
  have HS2:=zh hs2
  rw[hs2] at HI5 HR5 HX4 HE2 HK5
  have HX5:=zh (show (s2.put ⟨15,0,0,0,[]⟩).code[p.2.code.length]?=some ⟨16,0,p.1,0,[]⟩ from by simp only[MSt.put];rw[List.getElem?_append_left (List.getElem?_eq_some_iff.1 HX4.out).1];exact HX4.out)
  have HTE:=zh (zfm w5 HI5.out.inn w2.heap.size k3 p.2.code.length _ HX5.out (show (16:Int)≠15 by decide) (by have:=HR5.out.1;omega) HP5'.out HK5'.out)
  clear hpb5 hcb5 hg5 hs2 HL
  go_wp2_with fail
  refine HTE.out.mono ?_
  rintro r w6 ⟨rfl,hg6⟩
  have HI6:=zh (HI5.out.next hg6)
  have HP6:=zh (hg6.box HI5.out.inn HP5.out (by decide) (by decide))
  have HK6:=zh (hg6.box HI5.out.inn HK5.out (by decide) (by decide))
  have HBX6:=zh (hg6.box HI5.out.inn HBX5.out (by decide) (by decide))
  have HR6:=zh (Room.setB HR5.out p.2.code.length (s2.put ⟨15,0,0,0,[]⟩).len)
  obtain ⟨s4,hs4⟩:∃s4,(s2.put ⟨15,0,0,0,[]⟩).setB p.2.code.length (s2.put ⟨15,0,0,0,[]⟩).len=s4:=⟨_,rfl⟩
  have HS4:=zh hs4
  rw[hs4] at HI6 HR6
  have HX6:=zh (show s4.code[s2.code.length]?=some ⟨15,0,0,0,[]⟩ from by
   rw[←hs4]
   show ((s2.code++[_]).modify p.2.code.length _)[s2.code.length]?=_
   have hne:p.2.code.length≠s2.code.length:=by have:=HE1.out;have:=HE2.out;omega
   rw[List.getElem?_modify]
   simp[hne])
  have HN2:=zh (HC.out d0 d1 d2 d3 B base mb vb _ X _ d nc nk fr sc w6 (HPC.out.kept HI6.out.low).r HI6.out.inn WC.out (HR6.out.mono (by omega)) hd)
  have q0:=(HPC.out.kept HI6.out.low).e0
  have q1:=(HPC.out.kept HI6.out.low).e1
  have q2:=(HPC.out.kept HI6.out.low).e2
  have q3:=(HPC.out.kept HI6.out.low).e3
  have ql:=(HPC.out.kept HI6.out.low).size
  have e3:=HBX6.out.cell 3 rfl
  have el:=HBX6.out.lt
  clear hg6 HTE hs4
  go_wp2_with fail
  refine HN2.out.mono ?_
  rintro r w7 ⟨rfl,cv7,hg7⟩
  have HI7:=zh (HI6.out.next hg7)
  have HP7:=zh (hg7.box HI6.out.inn HP6.out (by decide) (by decide))
  have HK7:=zh (hg7.box HI6.out.inn HK6.out (by decide) (by decide))
  have HR7:=zh (Room.into Mk.lkL_ok c d false s4 0 (HR6.out.mono (by omega)))
  have HX7:=zh ((Mk.Ext.into (lk:=Mk.lkL) c d false s4).at HX6.out)
  have HTE:=zh (zjN w7 HI7.out.inn w4.heap.size k5 s2.code.length _ HX7.out rfl (by have:=HR7.out.1;omega) HP7.out HK7.out)
  clear hg7 q0 q1 q2 q3 ql e3 el HN2
  go_wp2_with fail
  refine HTE.out.mono ?_
  rintro r w8 ⟨rfl,hg8⟩
  have HI8:=zh ((HI7.out.next hg8).before HB1.out hsz)
  clear hg8
  go_wp2_with fail
  go_end0
  refine ⟨rfl,cv7,?_⟩
  have:=HI8.out
  rw[←HS4.out,←HS2.out,←HS1.out] at this
  exact this
end
section
namespace Mk
def Lst (N:Nat) (s:MSt):Prop:=∀x∈s.code,x.l.length≤N
theorem Lst.put {N:Nat} {s:MSt} (h:Lst N s) {x:Ins} (hx:x.l.length≤N):Lst N (s.put x):=fun y hy=>by
 rcases List.mem_append.1 hy with hy | hy
 ·exact h y hy
 ·rw[List.mem_singleton.1 hy];exact hx
theorem Lst.same {N:Nat} {s t:MSt} (h:Lst N s) (e:t.code=s.code):Lst N t:=fun y hy=>h y (by rw[←e];exact hy)
theorem zch {f:Ins→Ins}:∀{l:List Ins} {k:Nat} {x:Ins},x∈l.modify k f→x∈l∨∃y∈l,x=f y
 | [],k,x,h=>by cases k<;>simp at h
 | y::l,0,x,h=>by
  simp only[List.modify_zero_cons,List.mem_cons] at h
  rcases h with h | h
  ·exact .inr ⟨y,by simp,h⟩
  ·exact .inl (by simp[h])
 | y::l,k+1,x,h=>by
  simp only[List.modify_succ_cons,List.mem_cons] at h
  rcases h with h | h
  ·exact .inl (by simp[h])
  ·rcases zch h with h | ⟨z,hz,h⟩
   ·exact .inl (by simp[h])
   ·exact .inr ⟨z,by simp[hz],h⟩
theorem Lst.setA {N:Nat} {s:MSt} (h:Lst N s) (k:Nat) (a:Int):Lst N (s.setA k a):=fun y hy=>by
 rcases zch hy with hy | ⟨z,hz,rfl⟩
 ·exact h y hy
 ·exact h z hz
theorem Lst.setB {N:Nat} {s:MSt} (h:Lst N s) (k:Nat) (a:Int):Lst N (s.setB k a):=fun y hy=>by
 rcases zch hy with hy | ⟨z,hz,rfl⟩
 ·exact h y hy
 ·exact h z hz
theorem Lst.ite {N:Nat} {c:Prop} [Decidable c] {a b:MSt} (ha:Lst N a) (hb:Lst N b):Lst N (if c then a else b):=by split<;>assumption
theorem Lst.strict {N:Nat} {s:MSt} (h:Lst N s) (op n d:Int) {l:List Int} (hl:l.length≤N):Lst N (strict op n d l s):=by
 have ht:l.tail.length≤N:=by simp;omega
 unfold Mk.strict
 repeat' (refine Lst.ite ?_ ?_)
 all_goals first | exact h.put (Nat.zero_le _) | exact h.put ht | exact h.put hl | exact (h.put (Nat.zero_le _)).put (Nat.zero_le _) | exact h
theorem Lst.ended {N:Nat} {s:MSt} (h:Lst N s) (op n:Int) {l:List Int} (hl:l.length≤N):Lst N (ended op n l s):=by
 have ht:l.tail.length≤N:=by simp;omega
 unfold Mk.ended
 repeat' (refine Lst.ite ?_ ?_)
 all_goals first | exact h.put ht | exact h.put hl
theorem Lst.fix1 {N:Nat}:∀(v:List Int) (t:List Trm) {s:MSt},Lst N s→Lst N (fix1 v t s)
 | [],t,s,h=>by
  rw[Mk.fix1]
  ·exact h
  ·simp
 | v::vs,[],s,h=>by
  rw[Mk.fix1]
  ·exact h
  ·simp
 | v::vs,x::l,s,h=>by
  rw[Mk.fix1]
  exact Lst.fix1 vs l (Lst.put (h.same rfl) (Nat.zero_le _))
theorem Lst.thens {N:Nat} {f g:Int→Bool→MSt→MSt} (hf:∀(d:Int) (e:Bool) (s:MSt),Lst N s→Lst N (f d e s)) (hg:∀(d:Int) (e:Bool) (s:MSt),Lst N s→Lst N (g d e s)) (c d:Int) (e:Bool) {s:MSt} (h:Lst N s):Lst N (thens f g c d e s):=by
 have h2:Lst N (f d e (s.put ⟨16,0,c,0,[]⟩)):=hf _ _ _ (h.put (Nat.zero_le _))
 unfold Mk.thens
 dsimp only
 cases e with
 | true=>exact hg _ _ _ (h2.setB _ _)
 | false=>exact Lst.setA (hg _ _ _ (Lst.setB (h2.put (Nat.zero_le _)) _ _)) _ _
theorem Lst.had {N:Nat} {lk:List (Int × Int)→Int→Int} (x:Trm) (hx:∀(d:Int) (e:Bool) (s:MSt),Lst N s→Lst N (into lk x d e s)) {s:MSt} (h:Lst N s):Lst N (hadW lk x.op x.n (into lk x) s).2:=by
 unfold hadW
 split
 ·exact h
 ·exact hx _ _ _ (h.same rfl)
theorem zbF (lk:List (Int × Int)→Int→Int) (t:List Trm) (s:MSt) {N:Nat} (h:Trm.allL t≤N):(allT lk t s).1.length≤N:=by
 have h1:=zae lk t s
 have h2:=Trm.allL_length t
 omega
mutual
theorem Lst.into {N:Nat} {lk:List (Int × Int)→Int→Int}:∀(x:Trm) (d:Int) (e:Bool) (s:MSt),x.all≤N→Lst N s→Lst N (into lk x d e s)
 | .mk op n v t,d,e,s,hN,h=>by
  have ht:Trm.allL t≤N:=by rw[Trm.all] at hN;omega
  rw[Mk.into]
  split
  ·exact Lst.choice t d e s ht h
  split
  ·exact Lst.seqs t d e s ht h
  split
  ·exact Lst.lets t v [] d e s ht h
  split
  ·exact Lst.fixs t v d e _ ht (h.fix1 v t)
  split
  ·split
   ·exact Lst.ended (Lst.allT t s ht h) _ _ (zbF lk t s ht)
   ·split
    ·exact h.put (Nat.zero_le _)
    ·exact Lst.put (Lst.strict (Lst.allT t s.fresh ht (h.same rfl)) _ _ _ (zbF lk t _ ht)) (Nat.zero_le _)
  ·split
   ·exact h.put (Nat.zero_le _)
   ·exact Lst.strict (Lst.allT t s ht h) _ _ _ (zbF lk t s ht)
theorem Lst.choice {N:Nat} {lk:List (Int × Int)→Int→Int}:∀(l:List Trm) (d:Int) (e:Bool) (s:MSt),Trm.allL l≤N→Lst N s→Lst N (choice lk l d e s)
 | [a,b,x],d,e,s,hN,h=>by
  simp only[Trm.allL] at hN
  rw[Mk.choice]
  exact Lst.thens (fun d e s hs=>Lst.into b d e s (by omega) hs) (fun d e s hs=>Lst.into x d e s (by omega) hs) _ _ _ (Lst.had a (fun d e s hs=>Lst.into a d e s (by omega) hs) h)
 | [],_,_,_,_,h=>by rw[Mk.choice];exact h;all_goals simp
 | [_],_,_,_,_,h=>by rw[Mk.choice];exact h;all_goals simp
 | [_,_],_,_,_,_,h=>by rw[Mk.choice];exact h;all_goals simp
 | _::_::_::_::_,_,_,_,_,h=>by rw[Mk.choice];exact h;all_goals simp
theorem Lst.allT {N:Nat} {lk:List (Int × Int)→Int→Int}:∀(l:List Trm) (s:MSt),Trm.allL l≤N→Lst N s→Lst N (allT lk l s).2
 | [],s,_,h=>by rw[Mk.allT];exact h
 | x::l,s,hN,h=>by
  rw[Trm.allL] at hN
  rw[Mk.allT]
  exact Lst.allT l _ (by omega) (Lst.had x (fun d e s hs=>Lst.into x d e s (by omega) hs) h)
theorem Lst.seqs {N:Nat} {lk:List (Int × Int)→Int→Int}:∀(l:List Trm) (d:Int) (e:Bool) (s:MSt),Trm.allL l≤N→Lst N s→Lst N (seqs lk l d e s)
 | [],_,_,s,_,h=>by rw[Mk.seqs];exact h
 | [x],d,e,s,hN,h=>by
  rw[Trm.allL] at hN
  rw[Mk.seqs]
  exact Lst.into x d e s (by omega) h
 | x::y::l,d,e,s,hN,h=>by
  rw[Trm.allL] at hN
  rw[Mk.seqs]
  exact Lst.seqs (y::l) d e _ (by omega) (Lst.had x (fun d e s hs=>Lst.into x d e s (by omega) hs) h)
theorem Lst.lets {N:Nat} {lk:List (Int × Int)→Int→Int}:∀(l:List Trm) (v rs:List Int) (d:Int) (e:Bool) (s:MSt),Trm.allL l≤N→Lst N s→Lst N (lets lk l v rs d e s)
 | [],_,_,_,_,s,_,h=>by rw[Mk.lets];exact h
 | [x],v,rs,d,e,s,hN,h=>by
  rw[Trm.allL] at hN
  rw[Mk.lets]
  exact Lst.into x d e _ (by omega) (h.same rfl)
 | x::y::l,v,rs,d,e,s,hN,h=>by
  rw[Trm.allL] at hN
  rw[Mk.lets]
  exact Lst.lets (y::l) v _ d e _ (by omega) (Lst.had x (fun d e s hs=>Lst.into x d e s (by omega) hs) h)
theorem Lst.fixs {N:Nat} {lk:List (Int × Int)→Int→Int}:∀(l:List Trm) (v:List Int) (d:Int) (e:Bool) (s:MSt),Trm.allL l≤N→Lst N s→Lst N (fixs lk l v d e s)
 | [],_,_,_,s,_,h=>by rw[Mk.fixs];exact h
 | [x],v,d,e,s,hN,h=>by
  rw[Trm.allL] at hN
  rw[Mk.fixs]
  exact Lst.into x d e s (by omega) h
 | .mk o m w t::y::l,v,d,e,s,hN,h=>by
  rw[Trm.allL,Trm.all] at hN
  rw[Mk.fixs]
  exact Lst.fixs (y::l) v.tail d e _ (by omega) (Lst.put (Lst.allT t s (by omega) h) (zbF lk t s (by omega)))
end
theorem zf1 (lk:List (Int × Int)→Int→Int) (c:Cod) {N:Nat} (h:c.body.all≤N):∀x∈(proc lk c).code,x.l.length≤N:=by
 unfold proc
 exact Lst.into c.body 0 true _ h (fun x hx=>by cases hx)
end Mk
end
section
open Go Go.RowKit Mk
structure KV where
 c:Value
 v:Value
 a:Value
def SZ (mb:Nat) (K:KV) (b:Nat):Prop:=b=mb∨K.c.ownBlock=some b∨K.v.ownBlock=some b∨K.a.ownBlock=some b
structure ZkS (W:World) (base mb:Nat) (K:KV) (X:Nat→Prop) (s:MSt):Prop where
 box:BoxL W mb 86 [K.c,.int .i64 s.regs,K.v,K.a]
 row:∃xs,W.ownsRow base 49 5 K.c s.code.length xs∧CellsG 5 (InsM W (fun b=>SZ mb K b∨X b)) s.code xs
 vars:W.ownsRow base 3 1 K.v s.vars.length (s.vars.map fun p=>Value.int .i64 p.1)
 regs:W.ownsRow base 3 1 K.a s.vars.length (s.vars.map fun p=>Value.int .i64 p.2)
 ne:∀b,K.v.ownBlock=some b→K.a.ownBlock≠some b
 i64:∀p∈s.vars,I64 p.1∧I64 p.2
theorem zap {W:World} {base n size b c:Nat} {e t:TypeId} {v:Value} {xs cs:List Value} (h:W.ownsRow base e size v n xs) (hb:v.ownBlock=some b) (hc:BoxL W c t cs) (ht:e≠t):b≠c:=fun h'=>by
 subst h'
 obtain ⟨cs',f,hr⟩:=zaF h b hb
 have e:=hr.symm.trans hc
 simp only[Option.some.injEq,Obj.cells.injEq] at e
 exact ht e.2.1
theorem zbm {W:World} {base base' n n' size size' b c:Nat} {e t:TypeId} {v v':Value} {xs cs:List Value} (h:W.ownsRow base e size v n xs) (hb:v.ownBlock=some b) (h':W.ownsRow base' t size' v' n' cs) (hc:v'.ownBlock=some c) (ht:e≠t):b≠c:=fun e'=>by
 subst e'
 obtain ⟨cs',f,hr⟩:=zaF h b hb
 obtain ⟨cs'',f',hr'⟩:=zaF h' b hc
 have e:=hr.symm.trans hr'
 simp only[Option.some.injEq,Obj.cells.injEq] at e
 exact ht e.2.1
theorem ZkS.lt {W:World} {base mb:Nat} {K:KV} {X:Nat→Prop} {s:MSt} (h:ZkS W base mb K X s):∀b,SZ mb K b→b<W.heap.size:=fun b hb=>by
 rcases hb with rfl | hb | hb | hb
 ·exact h.box.lt
 ·obtain ⟨xs,hr,_⟩:=h.row
  exact zan hr hb
 ·exact zan h.vars hb
 ·exact zan h.regs hb
theorem ZkS.keep {W W':World} {base mb:Nat} {K:KV} {X X':Nat→Prop} {s:MSt} {S:Nat→Prop} (h:ZkS W base mb K X s) (ht:Turned S W W') (hS:∀b,b<W.heap.size→S b→X b∧¬SZ mb K b) (hX:∀b,b<W.heap.size→X' b→X b):ZkS W' base mb K X' s:=by
 obtain ⟨xs,hr,hc⟩:=h.row
 have hn:∀b,SZ mb K b→W'.heap[b]?=W.heap[b]?:=fun b hb=>ht.block b (h.lt b hb) (fun hs=>(hS _ (h.lt b hb) hs).2 hb)
 exact ⟨(hn mb (.inl rfl)).trans h.box,⟨xs,zaM hr (fun c hc=>hn c (.inr (.inl hc))),hc.mono fun x _ cs hx=>hx.kept ht (fun b hb hs=>.inr (hS b hb hs).1) (fun b hb h=>h.imp id (hX b hb))⟩,zaM h.vars (fun c hc=>hn c (.inr (.inr (.inl hc)))),zaM h.regs (fun c hc=>hn c (.inr (.inr (.inr hc)))),h.ne,h.i64⟩
theorem ZkS.below {W W':World} {base mb:Nat} {K:KV} {X:Nat→Prop} {s:MSt} (h:ZkS W base mb K X s) (hb:Below W.heap.size W W'):ZkS W' base mb K X s:=h.keep (Turned.of_below (S:=fun _=>False) hb) (fun _ _ h=>h.elim) (fun _ _ h=>h)
structure ZkIn (W:World) (B base mb:Nat) (K:KV) (X:Nat→Prop) (s:MSt):Prop where
 st:ZkS W base mb K X s
 b1:B≤base
 b2:B≤mb
 b4:base≤W.heap.size
 bx:∀b,X b→b<W.heap.size
theorem ZkIn.low {W:World} {B base mb:Nat} {K:KV} {X:Nat→Prop} {s:MSt} (h:ZkIn W B base mb K X s):∀b,SZ mb K b→B≤b:=fun b hb=>by
 rcases hb with rfl | hb | hb | hb
 ·exact h.b2
 ·obtain ⟨xs,hr,_⟩:=h.st.row
  exact Nat.le_trans h.b1 (zao hr hb)
 ·exact Nat.le_trans h.b1 (zao h.st.vars hb)
 ·exact Nat.le_trans h.b1 (zao h.st.regs hb)
theorem ZkIn.size {W:World} {B base mb:Nat} {K:KV} {X:Nat→Prop} {s:MSt} (h:ZkIn W B base mb K X s):B≤W.heap.size:=Nat.le_trans h.b1 h.b4
theorem ZkIn.keep {W W':World} {B base mb:Nat} {K:KV} {X:Nat→Prop} {s:MSt} (h:ZkIn W B base mb K X s) (hb:Below W.heap.size W W'):ZkIn W' B base mb K X s:=⟨h.st.below hb,h.b1,h.b2,Nat.le_trans h.b4 hb.size,fun b hb'=>Nat.lt_of_lt_of_le (h.bx b hb') hb.size⟩
theorem ZkIn.turn {W:World} {B base mb:Nat} {K:KV} {X X':Nat→Prop} {s:MSt} (h:ZkIn W B base mb K X s) (hX:∀b,b<W.heap.size→X' b→X b) (hx:∀b,X' b→b<W.heap.size):ZkIn W B base mb K X' s:=⟨h.st.keep (Turned.refl (fun _=>False) W) (fun _ _ h=>h.elim) hX,h.b1,h.b2,h.b4,hx⟩
structure ZkGo (B base mb:Nat) (K K':KV) (X:Nat→Prop) (s':MSt) (w w':World):Prop where
 inn:ZkIn w' B base mb K' X s'
 turned:Turned (SZ mb K) w w'
 less:∀b,b<w.heap.size→SZ mb K' b→SZ mb K b
 low:Below B w w'
theorem ZkGo.refl {B base mb:Nat} {K:KV} {X:Nat→Prop} {s:MSt} {w:World} (h:ZkIn w B base mb K X s):ZkGo B base mb K K X s w w:=⟨h,Turned.refl _ _,fun _ _ h=>h,Below.refl _ _⟩
theorem ZkGo.next {B base mb:Nat} {K K' K'':KV} {X X':Nat→Prop} {s' s'':MSt} {w w' w'':World} (h:ZkGo B base mb K K' X s' w w') (h':ZkGo B base mb K' K'' X' s'' w' w''):ZkGo B base mb K K'' X' s'' w w'':=
 ⟨h'.inn,h.turned.trans h'.turned h.less,fun b hb hs=>h.less b hb (h'.less b (Nat.lt_of_lt_of_le hb h.turned.size) hs),h.low.trans h'.low⟩
theorem ZkGo.before {B base mb:Nat} {K K':KV} {X:Nat→Prop} {s':MSt} {w w1 w':World} (hb:Below w.heap.size w w1) (hB:B≤w.heap.size) (h:ZkGo B base mb K K' X s' w1 w'):ZkGo B base mb K K' X s' w w':=
 ⟨h.inn,(Turned.of_below hb).next h.turned,fun b hlt hs=>h.less b (Nat.lt_of_lt_of_le hlt hb.size) hs,(hb.mono hB).trans h.low⟩
theorem ZkGo.after {B base mb:Nat} {K K':KV} {X:Nat→Prop} {s':MSt} {w w1 w':World} (h:ZkGo B base mb K K' X s' w w1) (hb:Below w1.heap.size w1 w'):ZkGo B base mb K K' X s' w w':=
 h.next ⟨h.inn.keep hb,Turned.of_below hb,fun _ _ h=>h,hb.mono h.inn.size⟩
theorem ZkS.boxApart {W:World} {base mb b:Nat} {K:KV} {X:Nat→Prop} {s:MSt} {t:TypeId} {cs:List Value} (h:ZkS W base mb K X s) (hb:BoxL W b t cs) (h1:t≠86) (h2:t≠49) (h3:t≠3):¬SZ mb K b:=fun hs=>by
 rcases hs with rfl | hs | hs | hs
 ·have e:=(show W.heap[b]?=_ from h.box).symm.trans hb
  simp only[Option.some.injEq,Obj.cells.injEq] at e
  exact h1 e.2.1.symm
 ·obtain ⟨xs,hr,_⟩:=h.row
  exact zap hr hs hb h2.symm rfl
 ·exact zap h.vars hs hb h3.symm rfl
 ·exact zap h.regs hs hb h3.symm rfl
theorem ZkGo.box {B base mb b:Nat} {K K':KV} {X X':Nat→Prop} {s s':MSt} {w w':World} {t:TypeId} {cs:List Value} (h:ZkGo B base mb K K' X s' w w') (hi:ZkIn w B base mb K X' s) (hb:BoxL w b t cs) (h1:t≠86) (h2:t≠49) (h3:t≠3):BoxL w' b t cs:=h.turned.box hb (hi.st.boxApart hb h1 h2 h3)
theorem IntsM.goZ {B base mb:Nat} {K K':KV} {v:Value} {X:Nat→Prop} {s:MSt} {w w':World} {l:List Int} (h:IntsM w (fun b=>SZ mb K b∨X b) l v) (hg:ZkGo B base mb K K' X s w w'):IntsM w' (fun b=>SZ mb K' b∨X b) l v:=h.kept hg.turned (fun _ _ h=>.inl h) (fun b hb h=>h.imp (hg.less b hb) id)
theorem zbg {W:World} {base n size:Nat} {e:TypeId} {v:Value} {xs:List Value} (h:W.ownsRow base e size v n xs):∃o c,v=.slice o n c:=by
 rcases h.2 with ⟨h1,h2⟩ | ⟨g,cap,cur,h1,_⟩
 ·rw[h1]
  have:n=0:=by
   have:=h2
   first | exact this | exact this.1 | omega
  rw[this]
  exact ⟨_,_,rfl⟩
 ·exact ⟨_,_,h1⟩
theorem ZkS.fresh {W:World} {base mb:Nat} {K:KV} {X:Nat→Prop} {s:MSt} (h:ZkS W base mb K X s):ZkS (W.setCell ⟨mb,1,none⟩ (.int .i64 (s.regs+1))) base mb K X s.fresh:=by
 obtain ⟨xs,hr,hc⟩:=h.row
 have hT:Turned (fun b=>b=mb) W (W.setCell ⟨mb,1,none⟩ (.int .i64 (s.regs+1))):=Turned.set _ _ _ rfl
 have ho:∀c,c≠mb→(W.setCell ⟨mb,1,none⟩ (.int .i64 (s.regs+1))).heap[c]?=W.heap[c]?:=fun c hc=>zag _ _ _ hc
 exact ⟨h.box.set 1 _,⟨xs,zaM hr (fun c hcc=>ho c (zap hr hcc h.box (by decide))),hc.mono fun x _ cs hx=>hx.kept hT (fun b _ hb=>.inl (.inl hb)) (fun _ _ h=>h)⟩,zaM h.vars (fun c hcc=>ho c (zap h.vars hcc h.box (by decide))),zaM h.regs (fun c hcc=>ho c (zap h.regs hcc h.box (by decide))),h.ne,h.i64⟩
theorem zck {B base mb:Nat} {K:KV} {X:Nat→Prop} {s:MSt} (W:World) (h:ZkIn W B base mb K X s) (hr:Room s 1) :
  Calls prog 96 #[.pointer (some ⟨mb,0,none⟩)] W fun e w'=>e=.returned (.int .i64 s.regs)∧ZkGo B base mb K K X s.fresh W w':=by
 have hT:Turned (SZ mb K) W (W.setCell ⟨mb,1,none⟩ (.int .i64 (s.regs+1))):=Turned.set _ _ _ (.inl rfl)
 have HG:=zh (show ZkGo B base mb K K X s.fresh W (W.setCell ⟨mb,1,none⟩ (.int .i64 (s.regs+1))) from ⟨⟨h.st.fresh,h.b1,h.b2,Nat.le_trans h.b4 hT.size,fun b hb=>Nat.lt_of_lt_of_le (h.bx b hb) hT.size⟩,hT,fun _ _ h=>h,hT.below h.low h.size⟩)
 have hr1:=hr.2.1
 have hr2:=hr.2.2.1
 have HB:=zh (h.st.box.set 1 (.int .i64 (s.regs+1)))
 have x1:=h.st.box.cell 1 rfl
 have xz:=h.st.box.free 1
 have xl:=h.st.box.lt
 obtain ⟨W1,hW1⟩:∃W1,W.setCell ⟨mb,1,none⟩ (.int .i64 (s.regs+1))=W1:=⟨_,rfl⟩
 have HW:=zh hW1
 rw[hW1] at HG HB
 clear h hr hT hW1
 go_enter func96,ntmps96
 go_upto_region 2 with fail
 rw[HW.out]
 have y1:=HB.out.cell 1 rfl
 have yl:=HB.out.lt
 clear x1 xz xl
 go_wp2_with fail
 go_ret
 exact ⟨by first | rfl | (congr 2;omega),HG.out⟩
theorem za9 {B base mb:Nat} {K:KV} {X:Nat→Prop} {s:MSt} (v:Int) (W:World) (h:ZkIn W B base mb K X s) (r:Int) (hr:lkF s.vars v=r) :
  Calls prog 79 #[.pointer (some ⟨mb,0,none⟩),.int .i64 v] W fun e w'=>e=.returned (.int .i64 r)∧Below W.heap.size W w':=by
 obtain ⟨ov,cv,hv⟩:=zbg h.st.vars
 obtain ⟨oa,ca,ha⟩:=zbg h.st.regs
 obtain ⟨n,hn⟩:∃n,s.vars.length=n:=⟨_,rfl⟩
 have HV:=zh (show SlC W W.heap.size 1 IntR (s.vars.map Prod.fst) (.slice ov n cv) from by
  rw[←hn,←hv]
  exact rowInts (by simpa[List.map_map,Function.comp_def] using h.st.vars) (fun x hx=>by obtain ⟨p,hp,rfl⟩:=List.mem_map.1 hx;exact (h.st.i64 p hp).1))
 have HA:=zh (show SlC W W.heap.size 1 IntR (s.vars.map Prod.snd) (.slice oa n ca) from by
  rw[←hn,←ha]
  exact rowInts (by simpa[List.map_map,Function.comp_def] using h.st.regs) (fun x hx=>by obtain ⟨p,hp,rfl⟩:=List.mem_map.1 hx;exact (h.st.i64 p hp).2))
 have bx:=h.st.box
 rw[hv,ha,hn] at bx
 have x2:=bx.cell 2 rfl
 have x3:=bx.cell 3 rfl
 have xl:=bx.lt
 have HN:=zh hn
 have HR:=zh hr
 have hn63:n≤9223372036854775807:=by have:=HV.out.lens;omega
 clear h hv ha hn hr bx
 go_enter func79,ntmps79
 go_wp2_with fail
 go_loopg [5] n (fun g i wr=>∃j:Nat,g=n-j∧j≤n∧i=.int .i64 j∧Hid (lkF (s.vars.drop j) v=r)∧W=wr)
 case atStart=>exact ⟨0,rfl,by omega,rfl,zh (by simpa using HR.out),rfl⟩
 case round=>
  obtain ⟨j,rfl,hj,rfl,HJ,rfl⟩:=hrel
  by_cases hjl:j<n
  ·obtain ⟨p,hp⟩:∃p,s.vars[j]?=some p:=⟨_,List.getElem?_eq_getElem (by rw[HN.out];exact hjl)⟩
   obtain ⟨vb,voff,hvo,_,hvc,_⟩:=SlC.int HV.out (j:=j) (x:=p.1) (by simp[hp])
   obtain ⟨ab,aoff,hao,_,hac,_⟩:=SlC.int HA.out (j:=j) (x:=p.2) (by simp[hp])
   subst hvo hao
   have hvl:=zac hvc
   have hal:=zac hac
   have hd:s.vars.drop j=p::s.vars.drop (j+1):=by
    rw[List.drop_eq_getElem_cons (by rw[HN.out];exact hjl)]
    rw[(List.getElem?_eq_some_iff.1 hp).2]
   by_cases hq:p.1=v
   ·have q:(p.1==v)=true:=by simp[hq]
    obtain rfl:r=p.2:=by rw[←HJ.out,hd,lkF,if_pos hq]
    clear hq hd hp
    go_wp2_with fail
    go_ret
    exact ⟨rfl,Below.refl _ _⟩
   ·have q:(p.1==v)=false:=by simp[hq]
    have HJ2:=zh (show lkF (s.vars.drop (j+1)) v=r from by rw[←HJ.out,hd,lkF,if_neg hq])
    clear hq hd hp
    go_wp2_with fail
    go_roundg (n-(j+1))
    case measure=>omega
    case rel=>exact ⟨j+1,rfl,by omega,by go_num,HJ2,rfl⟩
  ·obtain rfl:j=n:=by omega
   obtain rfl:r=0:=by
    rw[←HJ.out,List.drop_eq_nil_of_le (by rw[HN.out];exact Nat.le_refl _),lkF]
   go_wp2_with fail
   go_ret
   exact ⟨rfl,Below.refl _ _⟩
end
section
open Go Go.RowKit Mk
theorem IntsM.rest1 {W:World} {S:Nat→Prop} {r0:Int} {rl:List Int} {b off:Nat} (h:IntsM W S (r0::rl) (.slice (some ⟨b,off,none⟩) (rl.length+1) 1)):IntsM W S rl (.slice (some ⟨b,off,none⟩) 0 0):=by
 have hl:=h.1.lens.2.1
 obtain rfl:rl=[]:=List.eq_nil_of_length_eq_zero (by omega)
 exact ⟨⟨_,0,0,rfl,rfl,Nat.le_refl _,by omega,fun h=>absurd rfl h,fun i x hx=>by simp at hx⟩,fun _ _ h=>absurd rfl h⟩
theorem IntsM.rest2 {W:World} {S:Nat→Prop} {r0:Int} {rl:List Int} {b off cl:Nat} (h:IntsM W S (r0::rl) (.slice (some ⟨b,off,none⟩) (rl.length+1) cl)) (_hc:¬cl=1):IntsM W S rl (.slice (some ⟨b,off+1,none⟩) rl.length (cl-1)):=by
 simpa using IntsM.drops (n:=1) h (by omega)
theorem zav (W:World) (B base mb vb:Nat) (cv:Value) (X:Nat→Prop) (s:MSt) (op n:Int) (v:List Int) (t:List Trm) (c0 c1 c2 c3:Value) (hv:TrmR W B (.mk op n v t) [c0,c1,c2,c3]) (hm:MkIn W B base mb vb cv X s) (W1:World) (hW1:W.alloc (.cells #[c0,c1,c2,c3] 27)=W1) :
  ∃ov lv cvv ot lt ct,c0=.int .i64 op∧c1=.int .i64 n∧c2=.slice ov lv cvv∧c3=.slice ot lt ct∧I64 n∧Hid (BoxL W1 W.heap.size 27 [c0,c1,c2,c3])∧Hid (MkIn W1 B base mb vb cv X s)∧Hid (TrmS W1 B t (.slice ot lt ct))∧Hid (SlC W1 B 1 IntR v (.slice ov lv cvv))∧Hid (Below W.heap.size W W1)∧lt=t.length∧lv=v.length:=by
 have HB1:Below W.heap.size W W1:=by rw[←hW1];exact Below.one W _
 obtain ⟨vs,ts,he,_,hn,hvs,hts⟩:=zas.1 hv
 simp only[List.cons.injEq,and_true] at he
 obtain ⟨rfl,rfl,rfl,rfl⟩:=he
 obtain ⟨ov,lv,cvv,rfl⟩:=hvs.form
 obtain ⟨ot,lt,ct,rfl⟩:=hts.form
 have hT:TrmS W1 B t (.slice ot lt ct):=TrmS.kept hts (HB1.mono hm.size)
 have hV:SlC W1 B 1 IntR v (.slice ov lv cvv):=hvs.kept (HB1.mono hm.size) fun _ _ _ h=>h
 exact ⟨ov,lv,cvv,ot,lt,ct,rfl,rfl,rfl,rfl,hn,zh (by rw[←hW1];exact BoxL.new rfl _ _),zh (hm.keep HB1),zh hT,zh hV,zh HB1,(SlC.lens hT).1,hV.lens.1⟩
theorem zll (n:Int) (v:List Int) (t:List Trm) (ht:AllC t) (c0 c1 c2 c3:Value) (B base mb vb:Nat) (cv:Value) (X:Nat→Prop) (s:MSt) (d:Int) (nc nk:Int) (fr:Bool) (sc:Int→Bool) (W:World)
  (hv:TrmR W B (.mk 0 n v t) [c0,c1,c2,c3]) (hm:MkIn W B base mb vb cv X s) (hw:∀x∈t,Trm.wf nc nk fr x sc=true) (hroom:Room s (2+6*Trm.allL t)) (hd:0≤d∧d≤1900000) :
  Calls prog 69 #[.pointer (some ⟨mb,0,none⟩),.agg #[c0,c1,c2,c3],.int .i64 d] W fun r w'=>r=.returned (.tuple #[])∧∃cv',MkGo B base mb vb cv cv' X (Mk.strict 0 n d (Mk.allT Mk.lkL t s).1 (Mk.allT Mk.lkL t s).2) W w':=by
 obtain ⟨W1,hW1⟩:∃W1,W.alloc (.cells #[c0,c1,c2,c3] 27)=W1:=⟨_,rfl⟩
 have hsz:=hm.size
 obtain ⟨ov,lv,cvv,ot,lt,ct,rfl,rfl,rfl,rfl,hn,HBX,HM,HT,HV,HB1,hlt,hlv⟩:=zav W B base mb vb cv X s _ n v t _ _ _ _ hv hm W1 hW1
 have HW:=zh hW1
 have HN:=zh hn
 clear hlt hlv hn
 have HA:=zh (ht (.slice ot lt ct) B base mb vb cv X s nc nk fr sc W1 HT.out HM.out hw (hroom.mono (by omega)))
 have hra:=Mk.Room.allT (k:=2) Mk.lkL_ok t s hroom
 have HPL0:=zh (zae Mk.lkL t s)
 obtain ⟨p,hp⟩:∃p,Mk.allT Mk.lkL t s=p:=⟨_,rfl⟩
 rw[hp] at HA hra HPL0
 rw[hp]
 have HRA:=zh hra
 have e0:=HBX.out.cell 0 rfl
 have e1:=HBX.out.cell 1 rfl
 have e3:=HBX.out.cell 3 rfl
 have el:=HBX.out.lt
 clear hv hm hW1 hw hroom hra hp ht
 go_enter func69,ntmps69
 go_upto_region 1 with fail
 rw[HW.out]
 go_wp2_with fail
 refine HA.out.mono ?_
 rintro r w2 ⟨rv,rfl,cv2,hg2,hi2⟩
 have HG2:=zh hg2
 have HI2:=zh hi2
 have HBX2:=zh (HG2.out.box HM.out HBX.out (by decide) (by decide))
 obtain ⟨ol,ll,cl,rfl⟩:=hi2.1.form
 obtain ⟨hll,hlc,hlm⟩:=hi2.1.lens
 have HLL:=zh hll
 clear hll
 have hcode:p.2.code.length≤1000000:=by have:=HRA.out.1.1;omega
 have hdi:I64 d:=⟨by omega,by omega⟩
 clear hg2 hi2 e0 e1 e3 el HA
 have e0:=HBX2.out.cell 0 rfl
 have e1:=HBX2.out.cell 1 rfl
 have el:=HBX2.out.lt
 have HL:=zh (zar 0 d n 0 [] none 0 0 w2 HG2.out.inn hcode (by constructor<;>omega) hdi HN.out (by constructor<;>omega) (IntsM.nil _ _))
 go_wp2_with fail
 with_reducible refine HL.out.mono ?_
 rintro r w3 ⟨fv,rfl,cv3,hg3⟩
 have HG9:=zh ((HG2.out.next hg3).before HB1.out hsz)
 clear hg3 HL e0 e1 el
 go_wp2_with fail
 first | go_end0 | (refine bodyPost_ret (results_none rfl _ _ _) rfl ?_)
 exact ⟨rfl,_,HG9.out⟩
theorem zkt (n:Int) (v:List Int) (t:List Trm) (ht:AllC t) (c0 c1 c2 c3:Value) (B base mb vb:Nat) (cv:Value) (X:Nat→Prop) (s:MSt) (d:Int) (nc nk:Int) (fr:Bool) (sc:Int→Bool) (W:World)
  (hv:TrmR W B (.mk 11 n v t) [c0,c1,c2,c3]) (hm:MkIn W B base mb vb cv X s) (hw:∀x∈t,Trm.wf nc nk fr x sc=true) (hroom:Room s (2+6*Trm.allL t)) (hd:0≤d∧d≤1900000) :
  Calls prog 69 #[.pointer (some ⟨mb,0,none⟩),.agg #[c0,c1,c2,c3],.int .i64 d] W fun r w'=>r=.returned (.tuple #[])∧∃cv',MkGo B base mb vb cv cv' X (Mk.strict 11 n d (Mk.allT Mk.lkL t s).1 (Mk.allT Mk.lkL t s).2) W w':=by
 obtain ⟨W1,hW1⟩:∃W1,W.alloc (.cells #[c0,c1,c2,c3] 27)=W1:=⟨_,rfl⟩
 have hsz:=hm.size
 obtain ⟨ov,lv,cvv,ot,lt,ct,rfl,rfl,rfl,rfl,hn,HBX,HM,HT,HV,HB1,hlt,hlv⟩:=zav W B base mb vb cv X s _ n v t _ _ _ _ hv hm W1 hW1
 have HW:=zh hW1
 have HN:=zh hn
 clear hlt hlv hn
 have HA:=zh (ht (.slice ot lt ct) B base mb vb cv X s nc nk fr sc W1 HT.out HM.out hw (hroom.mono (by omega)))
 have hra:=Mk.Room.allT (k:=2) Mk.lkL_ok t s hroom
 have HPL0:=zh (zae Mk.lkL t s)
 obtain ⟨p,hp⟩:∃p,Mk.allT Mk.lkL t s=p:=⟨_,rfl⟩
 rw[hp] at HA hra HPL0
 rw[hp]
 have HRA:=zh hra
 have e0:=HBX.out.cell 0 rfl
 have e1:=HBX.out.cell 1 rfl
 have e3:=HBX.out.cell 3 rfl
 have el:=HBX.out.lt
 clear hv hm hW1 hw hroom hra hp ht
 go_enter func69,ntmps69
 go_upto_region 1 with fail
 rw[HW.out]
 go_wp2_with fail
 refine HA.out.mono ?_
 rintro r w2 ⟨rv,rfl,cv2,hg2,hi2⟩
 have HG2:=zh hg2
 have HI2:=zh hi2
 have HBX2:=zh (HG2.out.box HM.out HBX.out (by decide) (by decide))
 obtain ⟨ol,ll,cl,rfl⟩:=hi2.1.form
 obtain ⟨hll,hlc,hlm⟩:=hi2.1.lens
 have HLL:=zh hll
 clear hll
 have hcode:p.2.code.length≤1000000:=by have:=HRA.out.1.1;omega
 have hdi:I64 d:=⟨by omega,by omega⟩
 clear hg2 hi2 e0 e1 e3 el HA
 have e0:=HBX2.out.cell 0 rfl
 have e1:=HBX2.out.cell 1 rfl
 have el:=HBX2.out.lt
 have HL:=zh (zar 2 d n 0 [] none 0 0 w2 HG2.out.inn hcode (by constructor<;>omega) hdi HN.out (by constructor<;>omega) (IntsM.nil _ _))
 go_wp2_with fail
 with_reducible refine HL.out.mono ?_
 rintro r w3 ⟨fv,rfl,cv3,hg3⟩
 have HG9:=zh ((HG2.out.next hg3).before HB1.out hsz)
 clear hg3 HL e0 e1 el
 go_wp2_with fail
 first | go_end0 | (refine bodyPost_ret (results_none rfl _ _ _) rfl ?_)
 exact ⟨rfl,_,HG9.out⟩
theorem zjl (n:Int) (v:List Int) (t:List Trm) (ht:AllC t) (c0 c1 c2 c3:Value) (B base mb vb:Nat) (cv:Value) (X:Nat→Prop) (s:MSt) (d:Int) (nc nk:Int) (fr:Bool) (sc:Int→Bool) (W:World)
  (hv:TrmR W B (.mk 13 n v t) [c0,c1,c2,c3]) (hm:MkIn W B base mb vb cv X s) (hw:∀x∈t,Trm.wf nc nk fr x sc=true) (hroom:Room s (2+6*Trm.allL t)) (hd:0≤d∧d≤1900000) :
  Calls prog 69 #[.pointer (some ⟨mb,0,none⟩),.agg #[c0,c1,c2,c3],.int .i64 d] W fun r w'=>r=.returned (.tuple #[])∧∃cv',MkGo B base mb vb cv cv' X (Mk.strict 13 n d (Mk.allT Mk.lkL t s).1 (Mk.allT Mk.lkL t s).2) W w':=by
 obtain ⟨W1,hW1⟩:∃W1,W.alloc (.cells #[c0,c1,c2,c3] 27)=W1:=⟨_,rfl⟩
 have hsz:=hm.size
 obtain ⟨ov,lv,cvv,ot,lt,ct,rfl,rfl,rfl,rfl,hn,HBX,HM,HT,HV,HB1,hlt,hlv⟩:=zav W B base mb vb cv X s _ n v t _ _ _ _ hv hm W1 hW1
 have HW:=zh hW1
 have HN:=zh hn
 clear hlt hlv hn
 have HA:=zh (ht (.slice ot lt ct) B base mb vb cv X s nc nk fr sc W1 HT.out HM.out hw (hroom.mono (by omega)))
 have hra:=Mk.Room.allT (k:=2) Mk.lkL_ok t s hroom
 have HPL0:=zh (zae Mk.lkL t s)
 obtain ⟨p,hp⟩:∃p,Mk.allT Mk.lkL t s=p:=⟨_,rfl⟩
 rw[hp] at HA hra HPL0
 rw[hp]
 have HRA:=zh hra
 have e0:=HBX.out.cell 0 rfl
 have e1:=HBX.out.cell 1 rfl
 have e3:=HBX.out.cell 3 rfl
 have el:=HBX.out.lt
 clear hv hm hW1 hw hroom hra hp ht
 go_enter func69,ntmps69
 go_upto_region 1 with fail
 rw[HW.out]
 go_wp2_with fail
 refine HA.out.mono ?_
 rintro r w2 ⟨rv,rfl,cv2,hg2,hi2⟩
 have HG2:=zh hg2
 have HI2:=zh hi2
 have HBX2:=zh (HG2.out.box HM.out HBX.out (by decide) (by decide))
 obtain ⟨ol,ll,cl,rfl⟩:=hi2.1.form
 obtain ⟨hll,hlc,hlm⟩:=hi2.1.lens
 have HLL:=zh hll
 clear hll
 have hcode:p.2.code.length≤1000000:=by have:=HRA.out.1.1;omega
 have hdi:I64 d:=⟨by omega,by omega⟩
 clear hg2 hi2 e0 e1 e3 el HA
 have e0:=HBX2.out.cell 0 rfl
 have e1:=HBX2.out.cell 1 rfl
 have el:=HBX2.out.lt
 have HL:=zh (zar 3 d 0 0 [] none 0 0 w2 HG2.out.inn hcode (by constructor<;>omega) hdi (by constructor<;>omega) (by constructor<;>omega) (IntsM.nil _ _))
 go_wp2_with fail
 with_reducible refine HL.out.mono ?_
 rintro r w3 ⟨fv,rfl,cv3,hg3⟩
 have HG9:=zh ((HG2.out.next hg3).before HB1.out hsz)
 clear hg3 HL e0 e1 el
 go_wp2_with fail
 first | go_end0 | (refine bodyPost_ret (results_none rfl _ _ _) rfl ?_)
 exact ⟨rfl,_,HG9.out⟩
theorem zkl (n:Int) (v:List Int) (t:List Trm) (ht:AllC t) (c0 c1 c2 c3:Value) (B base mb vb:Nat) (cv:Value) (X:Nat→Prop) (s:MSt) (d:Int) (nc nk:Int) (fr:Bool) (sc:Int→Bool) (W:World)
  (hv:TrmR W B (.mk 21 n v t) [c0,c1,c2,c3]) (hm:MkIn W B base mb vb cv X s) (hw:∀x∈t,Trm.wf nc nk fr x sc=true) (hroom:Room s (2+6*Trm.allL t)) (hd:0≤d∧d≤1900000) :
  Calls prog 69 #[.pointer (some ⟨mb,0,none⟩),.agg #[c0,c1,c2,c3],.int .i64 d] W fun r w'=>r=.returned (.tuple #[])∧∃cv',MkGo B base mb vb cv cv' X (Mk.strict 21 n d (Mk.allT Mk.lkL t s).1 (Mk.allT Mk.lkL t s).2) W w':=by
 obtain ⟨W1,hW1⟩:∃W1,W.alloc (.cells #[c0,c1,c2,c3] 27)=W1:=⟨_,rfl⟩
 have hsz:=hm.size
 obtain ⟨ov,lv,cvv,ot,lt,ct,rfl,rfl,rfl,rfl,hn,HBX,HM,HT,HV,HB1,hlt,hlv⟩:=zav W B base mb vb cv X s _ n v t _ _ _ _ hv hm W1 hW1
 have HW:=zh hW1
 have HN:=zh hn
 clear hlt hlv hn
 have HA:=zh (ht (.slice ot lt ct) B base mb vb cv X s nc nk fr sc W1 HT.out HM.out hw (hroom.mono (by omega)))
 have hra:=Mk.Room.allT (k:=2) Mk.lkL_ok t s hroom
 have HPL0:=zh (zae Mk.lkL t s)
 obtain ⟨p,hp⟩:∃p,Mk.allT Mk.lkL t s=p:=⟨_,rfl⟩
 rw[hp] at HA hra HPL0
 rw[hp]
 have HRA:=zh hra
 have e0:=HBX.out.cell 0 rfl
 have e1:=HBX.out.cell 1 rfl
 have e3:=HBX.out.cell 3 rfl
 have el:=HBX.out.lt
 clear hv hm hW1 hw hroom hra hp ht
 go_enter func69,ntmps69
 go_upto_region 1 with fail
 rw[HW.out]
 go_wp2_with fail
 refine HA.out.mono ?_
 rintro r w2 ⟨rv,rfl,cv2,hg2,hi2⟩
 have HG2:=zh hg2
 have HI2:=zh hi2
 have HBX2:=zh (HG2.out.box HM.out HBX.out (by decide) (by decide))
 obtain ⟨ol,ll,cl,rfl⟩:=hi2.1.form
 obtain ⟨hll,hlc,hlm⟩:=hi2.1.lens
 have HLL:=zh hll
 clear hll
 have hcode:p.2.code.length≤1000000:=by have:=HRA.out.1.1;omega
 have hdi:I64 d:=⟨by omega,by omega⟩
 clear hg2 hi2 e0 e1 e3 el HA
 have e0:=HBX2.out.cell 0 rfl
 have e1:=HBX2.out.cell 1 rfl
 have el:=HBX2.out.lt
 have HL:=zh (zar 5 d n 0 [] none 0 0 w2 HG2.out.inn hcode (by constructor<;>omega) hdi HN.out (by constructor<;>omega) (IntsM.nil _ _))
 go_wp2_with fail
 with_reducible refine HL.out.mono ?_
 rintro r w3 ⟨fv,rfl,cv3,hg3⟩
 have HG9:=zh ((HG2.out.next hg3).before HB1.out hsz)
 clear hg3 HL e0 e1 el
 go_wp2_with fail
 first | go_end0 | (refine bodyPost_ret (results_none rfl _ _ _) rfl ?_)
 exact ⟨rfl,_,HG9.out⟩
theorem zkg (n:Int) (v:List Int) (t:List Trm) (ht:AllC t) (c0 c1 c2 c3:Value) (B base mb vb:Nat) (cv:Value) (X:Nat→Prop) (s:MSt) (d:Int) (nc nk:Int) (fr:Bool) (sc:Int→Bool) (W:World)
  (hv:TrmR W B (.mk 20 n v t) [c0,c1,c2,c3]) (hm:MkIn W B base mb vb cv X s) (hw:∀x∈t,Trm.wf nc nk fr x sc=true) (hroom:Room s (2+6*Trm.allL t)) (hd:0≤d∧d≤1900000) :
  Calls prog 69 #[.pointer (some ⟨mb,0,none⟩),.agg #[c0,c1,c2,c3],.int .i64 d] W fun r w'=>r=.returned (.tuple #[])∧∃cv',MkGo B base mb vb cv cv' X (Mk.strict 20 n d (Mk.allT Mk.lkL t s).1 (Mk.allT Mk.lkL t s).2) W w':=by
 obtain ⟨W1,hW1⟩:∃W1,W.alloc (.cells #[c0,c1,c2,c3] 27)=W1:=⟨_,rfl⟩
 have hsz:=hm.size
 obtain ⟨ov,lv,cvv,ot,lt,ct,rfl,rfl,rfl,rfl,hn,HBX,HM,HT,HV,HB1,hlt,hlv⟩:=zav W B base mb vb cv X s _ n v t _ _ _ _ hv hm W1 hW1
 have HW:=zh hW1
 have HN:=zh hn
 clear hlt hlv hn
 have HA:=zh (ht (.slice ot lt ct) B base mb vb cv X s nc nk fr sc W1 HT.out HM.out hw (hroom.mono (by omega)))
 have hra:=Mk.Room.allT (k:=2) Mk.lkL_ok t s hroom
 have HPL0:=zh (zae Mk.lkL t s)
 obtain ⟨p,hp⟩:∃p,Mk.allT Mk.lkL t s=p:=⟨_,rfl⟩
 rw[hp] at HA hra HPL0
 rw[hp]
 have HRA:=zh hra
 have e0:=HBX.out.cell 0 rfl
 have e1:=HBX.out.cell 1 rfl
 have e3:=HBX.out.cell 3 rfl
 have el:=HBX.out.lt
 clear hv hm hW1 hw hroom hra hp ht
 go_enter func69,ntmps69
 go_upto_region 1 with fail
 rw[HW.out]
 go_wp2_with fail
 refine HA.out.mono ?_
 rintro r w2 ⟨rv,rfl,cv2,hg2,hi2⟩
 have HG2:=zh hg2
 have HI2:=zh hi2
 have HBX2:=zh (HG2.out.box HM.out HBX.out (by decide) (by decide))
 obtain ⟨ol,ll,cl,rfl⟩:=hi2.1.form
 obtain ⟨hll,hlc,hlm⟩:=hi2.1.lens
 have HLL:=zh hll
 clear hll
 have hcode:p.2.code.length≤1000000:=by have:=HRA.out.1.1;omega
 have hdi:I64 d:=⟨by omega,by omega⟩
 clear hg2 hi2 e0 e1 e3 el HA
 have e0:=HBX2.out.cell 0 rfl
 have e1:=HBX2.out.cell 1 rfl
 have el:=HBX2.out.lt
 have HL:=zh (zar 6 d n 0 [] none 0 0 w2 HG2.out.inn hcode (by constructor<;>omega) hdi HN.out (by constructor<;>omega) (IntsM.nil _ _))
 go_wp2_with fail
 with_reducible refine HL.out.mono ?_
 rintro r w3 ⟨fv,rfl,cv3,hg3⟩
 have HG9:=zh ((HG2.out.next hg3).before HB1.out hsz)
 clear hg3 HL e0 e1 el
 go_wp2_with fail
 first | go_end0 | (refine bodyPost_ret (results_none rfl _ _ _) rfl ?_)
 exact ⟨rfl,_,HG9.out⟩
theorem zjm (n:Int) (v:List Int) (t:List Trm) (ht:AllC t) (c0 c1 c2 c3:Value) (B base mb vb:Nat) (cv:Value) (X:Nat→Prop) (s:MSt) (d:Int) (nc nk:Int) (fr:Bool) (sc:Int→Bool) (W:World)
  (hv:TrmR W B (.mk 10 n v t) [c0,c1,c2,c3]) (hm:MkIn W B base mb vb cv X s) (hw:∀x∈t,Trm.wf nc nk fr x sc=true) (hroom:Room s (2+6*Trm.allL t)) (hd:0≤d∧d≤1900000) :
  Calls prog 69 #[.pointer (some ⟨mb,0,none⟩),.agg #[c0,c1,c2,c3],.int .i64 d] W fun r w'=>r=.returned (.tuple #[])∧∃cv',MkGo B base mb vb cv cv' X (Mk.strict 10 n d (Mk.allT Mk.lkL t s).1 (Mk.allT Mk.lkL t s).2) W w':=by
 obtain ⟨W1,hW1⟩:∃W1,W.alloc (.cells #[c0,c1,c2,c3] 27)=W1:=⟨_,rfl⟩
 have hsz:=hm.size
 obtain ⟨ov,lv,cvv,ot,lt,ct,rfl,rfl,rfl,rfl,hn,HBX,HM,HT,HV,HB1,hlt,hlv⟩:=zav W B base mb vb cv X s _ n v t _ _ _ _ hv hm W1 hW1
 have HW:=zh hW1
 have HN:=zh hn
 clear hlt hlv hn
 have HA:=zh (ht (.slice ot lt ct) B base mb vb cv X s nc nk fr sc W1 HT.out HM.out hw (hroom.mono (by omega)))
 have hra:=Mk.Room.allT (k:=2) Mk.lkL_ok t s hroom
 have HPL0:=zh (zae Mk.lkL t s)
 obtain ⟨p,hp⟩:∃p,Mk.allT Mk.lkL t s=p:=⟨_,rfl⟩
 rw[hp] at HA hra HPL0
 rw[hp]
 have HRA:=zh hra
 have e0:=HBX.out.cell 0 rfl
 have e1:=HBX.out.cell 1 rfl
 have e3:=HBX.out.cell 3 rfl
 have el:=HBX.out.lt
 clear hv hm hW1 hw hroom hra hp ht
 go_enter func69,ntmps69
 go_upto_region 1 with fail
 rw[HW.out]
 go_wp2_with fail
 refine HA.out.mono ?_
 rintro r w2 ⟨rv,rfl,cv2,hg2,hi2⟩
 have HG2:=zh hg2
 have HI2:=zh hi2
 have HBX2:=zh (HG2.out.box HM.out HBX.out (by decide) (by decide))
 obtain ⟨ol,ll,cl,rfl⟩:=hi2.1.form
 obtain ⟨hll,hlc,hlm⟩:=hi2.1.lens
 have HLL:=zh hll
 clear hll
 have hcode:p.2.code.length≤1000000:=by have:=HRA.out.1.1;omega
 have hdi:I64 d:=⟨by omega,by omega⟩
 clear hg2 hi2 e0 e1 e3 el HA
 have e0:=HBX2.out.cell 0 rfl
 have e1:=HBX2.out.cell 1 rfl
 have el:=HBX2.out.lt
 have HL:=zh (zar 9 d n 0 p.1 ol ll cl w2 HG2.out.inn hcode (by constructor<;>omega) hdi HN.out (by constructor<;>omega) HI2.out)
 go_wp2_with fail
 with_reducible refine HL.out.mono ?_
 rintro r w3 ⟨fv,rfl,cv3,hg3⟩
 have HG9:=zh ((HG2.out.next hg3).before HB1.out hsz)
 clear hg3 HL e0 e1 el
 go_wp2_with fail
 first | go_end0 | (refine bodyPost_ret (results_none rfl _ _ _) rfl ?_)
 exact ⟨rfl,_,HG9.out⟩
theorem zkb (n:Int) (v:List Int) (t:List Trm) (ht:AllC t) (c0 c1 c2 c3:Value) (B base mb vb:Nat) (cv:Value) (X:Nat→Prop) (s:MSt) (d:Int) (nc nk:Int) (fr:Bool) (sc:Int→Bool) (W:World)
  (hv:TrmR W B (.mk 19 n v t) [c0,c1,c2,c3]) (hm:MkIn W B base mb vb cv X s) (hw:∀x∈t,Trm.wf nc nk fr x sc=true) (hroom:Room s (2+6*Trm.allL t)) (hd:0≤d∧d≤1900000) :
  Calls prog 69 #[.pointer (some ⟨mb,0,none⟩),.agg #[c0,c1,c2,c3],.int .i64 d] W fun r w'=>r=.returned (.tuple #[])∧∃cv',MkGo B base mb vb cv cv' X (Mk.strict 19 n d (Mk.allT Mk.lkL t s).1 (Mk.allT Mk.lkL t s).2) W w':=by
 obtain ⟨W1,hW1⟩:∃W1,W.alloc (.cells #[c0,c1,c2,c3] 27)=W1:=⟨_,rfl⟩
 have hsz:=hm.size
 obtain ⟨ov,lv,cvv,ot,lt,ct,rfl,rfl,rfl,rfl,hn,HBX,HM,HT,HV,HB1,hlt,hlv⟩:=zav W B base mb vb cv X s _ n v t _ _ _ _ hv hm W1 hW1
 have HW:=zh hW1
 have HN:=zh hn
 clear hlt hlv hn
 have HA:=zh (ht (.slice ot lt ct) B base mb vb cv X s nc nk fr sc W1 HT.out HM.out hw (hroom.mono (by omega)))
 have hra:=Mk.Room.allT (k:=2) Mk.lkL_ok t s hroom
 have HPL0:=zh (zae Mk.lkL t s)
 obtain ⟨p,hp⟩:∃p,Mk.allT Mk.lkL t s=p:=⟨_,rfl⟩
 rw[hp] at HA hra HPL0
 rw[hp]
 have HRA:=zh hra
 have e0:=HBX.out.cell 0 rfl
 have e1:=HBX.out.cell 1 rfl
 have e3:=HBX.out.cell 3 rfl
 have el:=HBX.out.lt
 clear hv hm hW1 hw hroom hra hp ht
 go_enter func69,ntmps69
 go_upto_region 1 with fail
 rw[HW.out]
 go_wp2_with fail
 refine HA.out.mono ?_
 rintro r w2 ⟨rv,rfl,cv2,hg2,hi2⟩
 have HG2:=zh hg2
 have HI2:=zh hi2
 have HBX2:=zh (HG2.out.box HM.out HBX.out (by decide) (by decide))
 obtain ⟨ol,ll,cl,rfl⟩:=hi2.1.form
 obtain ⟨hll,hlc,hlm⟩:=hi2.1.lens
 have HLL:=zh hll
 clear hll
 have hcode:p.2.code.length≤1000000:=by have:=HRA.out.1.1;omega
 have hdi:I64 d:=⟨by omega,by omega⟩
 clear hg2 hi2 e0 e1 e3 el HA
 have e0:=HBX2.out.cell 0 rfl
 have e1:=HBX2.out.cell 1 rfl
 have el:=HBX2.out.lt
 have HL:=zh (zar 7 d n 0 p.1 ol ll cl w2 HG2.out.inn hcode (by constructor<;>omega) hdi HN.out (by constructor<;>omega) HI2.out)
 go_wp2_with fail
 with_reducible refine HL.out.mono ?_
 rintro r w3 ⟨fv,rfl,cv3,hg3⟩
 have HG9:=zh ((HG2.out.next hg3).before HB1.out hsz)
 clear hg3 HL e0 e1 el
 go_wp2_with fail
 first | go_end0 | (refine bodyPost_ret (results_none rfl _ _ _) rfl ?_)
 exact ⟨rfl,_,HG9.out⟩
theorem zkr (n:Int) (v:List Int) (t:List Trm) (ht:AllC t) (hct:1≤t.length) (c0 c1 c2 c3:Value) (B base mb vb:Nat) (cv:Value) (X:Nat→Prop) (s:MSt) (d:Int) (nc nk:Int) (fr:Bool) (sc:Int→Bool) (W:World)
  (hv:TrmR W B (.mk 12 n v t) [c0,c1,c2,c3]) (hm:MkIn W B base mb vb cv X s) (hw:∀x∈t,Trm.wf nc nk fr x sc=true) (hroom:Room s (2+6*Trm.allL t)) (hd:0≤d∧d≤1900000) :
  Calls prog 69 #[.pointer (some ⟨mb,0,none⟩),.agg #[c0,c1,c2,c3],.int .i64 d] W fun r w'=>r=.returned (.tuple #[])∧∃cv',MkGo B base mb vb cv cv' X (Mk.strict 12 n d (Mk.allT Mk.lkL t s).1 (Mk.allT Mk.lkL t s).2) W w':=by
 obtain ⟨W1,hW1⟩:∃W1,W.alloc (.cells #[c0,c1,c2,c3] 27)=W1:=⟨_,rfl⟩
 have hsz:=hm.size
 obtain ⟨ov,lv,cvv,ot,lt,ct,rfl,rfl,rfl,rfl,hn,HBX,HM,HT,HV,HB1,hlt,hlv⟩:=zav W B base mb vb cv X s _ n v t _ _ _ _ hv hm W1 hW1
 have HW:=zh hW1
 have HN:=zh hn
 clear hlt hlv hn
 have HA:=zh (ht (.slice ot lt ct) B base mb vb cv X s nc nk fr sc W1 HT.out HM.out hw (hroom.mono (by omega)))
 have hra:=Mk.Room.allT (k:=2) Mk.lkL_ok t s hroom
 have HPL0:=zh (zae Mk.lkL t s)
 obtain ⟨p,hp⟩:∃p,Mk.allT Mk.lkL t s=p:=⟨_,rfl⟩
 rw[hp] at HA hra HPL0
 rw[hp]
 have HRA:=zh hra
 have e0:=HBX.out.cell 0 rfl
 have e1:=HBX.out.cell 1 rfl
 have e3:=HBX.out.cell 3 rfl
 have el:=HBX.out.lt
 clear hv hm hW1 hw hroom hra hp ht
 go_enter func69,ntmps69
 go_upto_region 1 with fail
 rw[HW.out]
 go_wp2_with fail
 refine HA.out.mono ?_
 rintro r w2 ⟨rv,rfl,cv2,hg2,hi2⟩
 have HG2:=zh hg2
 have HI2:=zh hi2
 have HBX2:=zh (HG2.out.box HM.out HBX.out (by decide) (by decide))
 obtain ⟨ol,ll,cl,rfl⟩:=hi2.1.form
 obtain ⟨hll,hlc,hlm⟩:=hi2.1.lens
 have HLL:=zh hll
 clear hll
 have hcode:p.2.code.length≤1000000:=by have:=HRA.out.1.1;omega
 have hdi:I64 d:=⟨by omega,by omega⟩
 clear hg2 hi2 e0 e1 e3 el HA
 have e0:=HBX2.out.cell 0 rfl
 have e1:=HBX2.out.cell 1 rfl
 have el:=HBX2.out.lt
 have hll:=HLL.out
 have hpl:=HPL0.out
 obtain ⟨r0,rl,hpe⟩:∃r0 rl,p.1=r0::rl:=by
  cases h:p.1 with
  | nil=>rw[h] at hpl;simp at hpl;omega
  | cons a b=>exact ⟨a,b,rfl⟩
 obtain ⟨gb,goff,hgo,hgb,hgc,hri⟩:=SlC.int (j:=0) HI2.out.1 (x:=r0) (by rw[hpe];rfl)
 subst hgo
 have hgl:=zac hgc
 rw[Nat.add_zero] at hgc
 rw[hpe] at HI2 hll
 simp only[List.length_cons] at hll
 subst hll
 have HRI:=zh hri
 have HPE:=zh hpe
 clear hpl hpe
 have HL:=zh (zar 14 d r0 0 [] none 0 0 w2 HG2.out.inn hcode (by constructor<;>omega) hdi hri (by constructor<;>omega) (IntsM.nil _ _))
 clear hri
 go_wp2_with fail
 with_reducible refine HL.out.mono ?_
 rintro r w3 ⟨fv,rfl,cv3,hg3⟩
 have HG9:=zh ((HG2.out.next hg3).before HB1.out hsz)
 have hfin:Mk.strict 12 n d p.1 p.2=p.2.put ⟨14,d,r0,0,[]⟩:=by rw[HPE.out];rfl
 have HFIN:=zh hfin
 clear hfin hg3 HL e0 e1 el hgc hgl
 go_wp2_with fail
 first | go_end0 | (refine bodyPost_ret (results_none rfl _ _ _) rfl ?_)
 exact ⟨rfl,_,by rw[HFIN.out];exact HG9.out⟩
theorem zj7 (n:Int) (v:List Int) (t:List Trm) (ht:AllC t) (hct:1≤t.length) (c0 c1 c2 c3:Value) (B base mb vb:Nat) (cv:Value) (X:Nat→Prop) (s:MSt) (d:Int) (nc nk:Int) (fr:Bool) (sc:Int→Bool) (W:World)
  (hv:TrmR W B (.mk 15 n v t) [c0,c1,c2,c3]) (hm:MkIn W B base mb vb cv X s) (hw:∀x∈t,Trm.wf nc nk fr x sc=true) (hroom:Room s (2+6*Trm.allL t)) (hd:0≤d∧d≤1900000) :
  Calls prog 69 #[.pointer (some ⟨mb,0,none⟩),.agg #[c0,c1,c2,c3],.int .i64 d] W fun r w'=>r=.returned (.tuple #[])∧∃cv',MkGo B base mb vb cv cv' X (Mk.strict 15 n d (Mk.allT Mk.lkL t s).1 (Mk.allT Mk.lkL t s).2) W w':=by
 obtain ⟨W1,hW1⟩:∃W1,W.alloc (.cells #[c0,c1,c2,c3] 27)=W1:=⟨_,rfl⟩
 have hsz:=hm.size
 obtain ⟨ov,lv,cvv,ot,lt,ct,rfl,rfl,rfl,rfl,hn,HBX,HM,HT,HV,HB1,hlt,hlv⟩:=zav W B base mb vb cv X s _ n v t _ _ _ _ hv hm W1 hW1
 have HW:=zh hW1
 have HN:=zh hn
 clear hlt hlv hn
 have HA:=zh (ht (.slice ot lt ct) B base mb vb cv X s nc nk fr sc W1 HT.out HM.out hw (hroom.mono (by omega)))
 have hra:=Mk.Room.allT (k:=2) Mk.lkL_ok t s hroom
 have HPL0:=zh (zae Mk.lkL t s)
 obtain ⟨p,hp⟩:∃p,Mk.allT Mk.lkL t s=p:=⟨_,rfl⟩
 rw[hp] at HA hra HPL0
 rw[hp]
 have HRA:=zh hra
 have e0:=HBX.out.cell 0 rfl
 have e1:=HBX.out.cell 1 rfl
 have e3:=HBX.out.cell 3 rfl
 have el:=HBX.out.lt
 clear hv hm hW1 hw hroom hra hp ht
 go_enter func69,ntmps69
 go_upto_region 1 with fail
 rw[HW.out]
 go_wp2_with fail
 refine HA.out.mono ?_
 rintro r w2 ⟨rv,rfl,cv2,hg2,hi2⟩
 have HG2:=zh hg2
 have HI2:=zh hi2
 have HBX2:=zh (HG2.out.box HM.out HBX.out (by decide) (by decide))
 obtain ⟨ol,ll,cl,rfl⟩:=hi2.1.form
 obtain ⟨hll,hlc,hlm⟩:=hi2.1.lens
 have HLL:=zh hll
 clear hll
 have hcode:p.2.code.length≤1000000:=by have:=HRA.out.1.1;omega
 have hdi:I64 d:=⟨by omega,by omega⟩
 clear hg2 hi2 e0 e1 e3 el HA
 have e0:=HBX2.out.cell 0 rfl
 have e1:=HBX2.out.cell 1 rfl
 have el:=HBX2.out.lt
 have hll:=HLL.out
 have hpl:=HPL0.out
 obtain ⟨r0,rl,hpe⟩:∃r0 rl,p.1=r0::rl:=by
  cases h:p.1 with
  | nil=>rw[h] at hpl;simp at hpl;omega
  | cons a b=>exact ⟨a,b,rfl⟩
 obtain ⟨gb,goff,hgo,hgb,hgc,hri⟩:=SlC.int (j:=0) HI2.out.1 (x:=r0) (by rw[hpe];rfl)
 subst hgo
 have hgl:=zac hgc
 rw[Nat.add_zero] at hgc
 rw[hpe] at HI2 hll
 simp only[List.length_cons] at hll
 subst hll
 have HRI:=zh hri
 have HPE:=zh hpe
 clear hpl hpe
 have HL:=zh (zar 10 d r0 0 [] none 0 0 w2 HG2.out.inn hcode (by constructor<;>omega) hdi hri (by constructor<;>omega) (IntsM.nil _ _))
 clear hri
 go_wp2_with fail
 with_reducible refine HL.out.mono ?_
 rintro r w3 ⟨fv,rfl,cv3,hg3⟩
 have HG9:=zh ((HG2.out.next hg3).before HB1.out hsz)
 have hfin:Mk.strict 15 n d p.1 p.2=p.2.put ⟨10,d,r0,0,[]⟩:=by rw[HPE.out];rfl
 have HFIN:=zh hfin
 clear hfin hg3 HL e0 e1 el hgc hgl
 go_wp2_with fail
 first | go_end0 | (refine bodyPost_ret (results_none rfl _ _ _) rfl ?_)
 exact ⟨rfl,_,by rw[HFIN.out];exact HG9.out⟩
theorem zjq (n:Int) (v:List Int) (t:List Trm) (ht:AllC t) (hct:1≤t.length) (c0 c1 c2 c3:Value) (B base mb vb:Nat) (cv:Value) (X:Nat→Prop) (s:MSt) (d:Int) (nc nk:Int) (fr:Bool) (sc:Int→Bool) (W:World)
  (hv:TrmR W B (.mk 16 n v t) [c0,c1,c2,c3]) (hm:MkIn W B base mb vb cv X s) (hw:∀x∈t,Trm.wf nc nk fr x sc=true) (hroom:Room s (2+6*Trm.allL t)) (hd:0≤d∧d≤1900000) :
  Calls prog 69 #[.pointer (some ⟨mb,0,none⟩),.agg #[c0,c1,c2,c3],.int .i64 d] W fun r w'=>r=.returned (.tuple #[])∧∃cv',MkGo B base mb vb cv cv' X (Mk.strict 16 n d (Mk.allT Mk.lkL t s).1 (Mk.allT Mk.lkL t s).2) W w':=by
 obtain ⟨W1,hW1⟩:∃W1,W.alloc (.cells #[c0,c1,c2,c3] 27)=W1:=⟨_,rfl⟩
 have hsz:=hm.size
 obtain ⟨ov,lv,cvv,ot,lt,ct,rfl,rfl,rfl,rfl,hn,HBX,HM,HT,HV,HB1,hlt,hlv⟩:=zav W B base mb vb cv X s _ n v t _ _ _ _ hv hm W1 hW1
 have HW:=zh hW1
 have HN:=zh hn
 clear hlt hlv hn
 have HA:=zh (ht (.slice ot lt ct) B base mb vb cv X s nc nk fr sc W1 HT.out HM.out hw (hroom.mono (by omega)))
 have hra:=Mk.Room.allT (k:=2) Mk.lkL_ok t s hroom
 have HPL0:=zh (zae Mk.lkL t s)
 obtain ⟨p,hp⟩:∃p,Mk.allT Mk.lkL t s=p:=⟨_,rfl⟩
 rw[hp] at HA hra HPL0
 rw[hp]
 have HRA:=zh hra
 have e0:=HBX.out.cell 0 rfl
 have e1:=HBX.out.cell 1 rfl
 have e3:=HBX.out.cell 3 rfl
 have el:=HBX.out.lt
 clear hv hm hW1 hw hroom hra hp ht
 go_enter func69,ntmps69
 go_upto_region 1 with fail
 rw[HW.out]
 go_wp2_with fail
 refine HA.out.mono ?_
 rintro r w2 ⟨rv,rfl,cv2,hg2,hi2⟩
 have HG2:=zh hg2
 have HI2:=zh hi2
 have HBX2:=zh (HG2.out.box HM.out HBX.out (by decide) (by decide))
 obtain ⟨ol,ll,cl,rfl⟩:=hi2.1.form
 obtain ⟨hll,hlc,hlm⟩:=hi2.1.lens
 have HLL:=zh hll
 clear hll
 have hcode:p.2.code.length≤1000000:=by have:=HRA.out.1.1;omega
 have hdi:I64 d:=⟨by omega,by omega⟩
 clear hg2 hi2 e0 e1 e3 el HA
 have e0:=HBX2.out.cell 0 rfl
 have e1:=HBX2.out.cell 1 rfl
 have el:=HBX2.out.lt
 have hll:=HLL.out
 have hpl:=HPL0.out
 obtain ⟨r0,rl,hpe⟩:∃r0 rl,p.1=r0::rl:=by
  cases h:p.1 with
  | nil=>rw[h] at hpl;simp at hpl;omega
  | cons a b=>exact ⟨a,b,rfl⟩
 obtain ⟨gb,goff,hgo,hgb,hgc,hri⟩:=SlC.int (j:=0) HI2.out.1 (x:=r0) (by rw[hpe];rfl)
 subst hgo
 have hgl:=zac hgc
 rw[Nat.add_zero] at hgc
 rw[hpe] at HI2 hll
 simp only[List.length_cons] at hll
 subst hll
 have HRI:=zh hri
 have HPE:=zh hpe
 clear hpl hpe
 have HL:=zh (zar 11 d r0 0 [] none 0 0 w2 HG2.out.inn hcode (by constructor<;>omega) hdi hri (by constructor<;>omega) (IntsM.nil _ _))
 clear hri
 go_wp2_with fail
 with_reducible refine HL.out.mono ?_
 rintro r w3 ⟨fv,rfl,cv3,hg3⟩
 have HG9:=zh ((HG2.out.next hg3).before HB1.out hsz)
 have hfin:Mk.strict 16 n d p.1 p.2=p.2.put ⟨11,d,r0,0,[]⟩:=by rw[HPE.out];rfl
 have HFIN:=zh hfin
 clear hfin hg3 HL e0 e1 el hgc hgl
 go_wp2_with fail
 first | go_end0 | (refine bodyPost_ret (results_none rfl _ _ _) rfl ?_)
 exact ⟨rfl,_,by rw[HFIN.out];exact HG9.out⟩
theorem zkZ (n:Int) (v:List Int) (t:List Trm) (ht:AllC t) (hct:1≤t.length) (c0 c1 c2 c3:Value) (B base mb vb:Nat) (cv:Value) (X:Nat→Prop) (s:MSt) (d:Int) (nc nk:Int) (fr:Bool) (sc:Int→Bool) (W:World)
  (hv:TrmR W B (.mk 5 n v t) [c0,c1,c2,c3]) (hm:MkIn W B base mb vb cv X s) (hw:∀x∈t,Trm.wf nc nk fr x sc=true) (hroom:Room s (2+6*Trm.allL t)) (hd:0≤d∧d≤1900000) :
  Calls prog 69 #[.pointer (some ⟨mb,0,none⟩),.agg #[c0,c1,c2,c3],.int .i64 d] W fun r w'=>r=.returned (.tuple #[])∧∃cv',MkGo B base mb vb cv cv' X (Mk.strict 5 n d (Mk.allT Mk.lkL t s).1 (Mk.allT Mk.lkL t s).2) W w':=by
 obtain ⟨W1,hW1⟩:∃W1,W.alloc (.cells #[c0,c1,c2,c3] 27)=W1:=⟨_,rfl⟩
 have hsz:=hm.size
 obtain ⟨ov,lv,cvv,ot,lt,ct,rfl,rfl,rfl,rfl,hn,HBX,HM,HT,HV,HB1,hlt,hlv⟩:=zav W B base mb vb cv X s _ n v t _ _ _ _ hv hm W1 hW1
 have HW:=zh hW1
 have HN:=zh hn
 clear hlt hlv hn
 have HA:=zh (ht (.slice ot lt ct) B base mb vb cv X s nc nk fr sc W1 HT.out HM.out hw (hroom.mono (by omega)))
 have hra:=Mk.Room.allT (k:=2) Mk.lkL_ok t s hroom
 have HPL0:=zh (zae Mk.lkL t s)
 obtain ⟨p,hp⟩:∃p,Mk.allT Mk.lkL t s=p:=⟨_,rfl⟩
 rw[hp] at HA hra HPL0
 rw[hp]
 have HRA:=zh hra
 have e0:=HBX.out.cell 0 rfl
 have e1:=HBX.out.cell 1 rfl
 have e3:=HBX.out.cell 3 rfl
 have el:=HBX.out.lt
 clear hv hm hW1 hw hroom hra hp ht
 go_enter func69,ntmps69
 go_upto_region 1 with fail
 rw[HW.out]
 go_wp2_with fail
 refine HA.out.mono ?_
 rintro r w2 ⟨rv,rfl,cv2,hg2,hi2⟩
 have HG2:=zh hg2
 have HI2:=zh hi2
 have HBX2:=zh (HG2.out.box HM.out HBX.out (by decide) (by decide))
 obtain ⟨ol,ll,cl,rfl⟩:=hi2.1.form
 obtain ⟨hll,hlc,hlm⟩:=hi2.1.lens
 have HLL:=zh hll
 clear hll
 have hcode:p.2.code.length≤1000000:=by have:=HRA.out.1.1;omega
 have hdi:I64 d:=⟨by omega,by omega⟩
 clear hg2 hi2 e0 e1 e3 el HA
 have e0:=HBX2.out.cell 0 rfl
 have e1:=HBX2.out.cell 1 rfl
 have el:=HBX2.out.lt
 have hll:=HLL.out
 have hpl:=HPL0.out
 obtain ⟨r0,rl,hpe⟩:∃r0 rl,p.1=r0::rl:=by
  cases h:p.1 with
  | nil=>rw[h] at hpl;simp at hpl;omega
  | cons a b=>exact ⟨a,b,rfl⟩
 obtain ⟨gb,goff,hgo,hgb,hgc,hri⟩:=SlC.int (j:=0) HI2.out.1 (x:=r0) (by rw[hpe];rfl)
 subst hgo
 have hgl:=zac hgc
 rw[Nat.add_zero] at hgc
 rw[hpe] at HI2 hll
 simp only[List.length_cons] at hll
 subst hll
 have HRI:=zh hri
 have HPE:=zh hpe
 clear hpl hpe
 go_upto_region 16 with fail
 by_cases hcl1:cl=1
 ·subst hcl1
  have HDR:=zh (IntsM.rest1 HI2.out)
  have HD:=zh ((Below.refl w2.heap.size w2).drew)
  have HDL:=zh (fun (W3:World) (hb:Below w2.heap.size w2 W3)=>zar 17 d r0 0 rl (some ⟨gb,goff,none⟩) 0 0 W3 (HG2.out.inn.keep hb) hcode (by constructor<;>omega) hdi HRI.out (by constructor<;>omega) (HDR.out.below hb))
  refine zaa (Below w2.heap.size w2) 8 (by kernel_rfl) (by kernel_rfl) HD.out ?_
  intro T0 _ WW HWW HWW2
  have z0:∀t,(WW t).cell? _=_:=fun t=>((HWW t).cell (p:=⟨gb,goff,none⟩) hgl).trans hgc
  have HWH:=zh HWW
  clear HWW HWW2
  simp only[List.take_succ_cons,List.take_zero,List.drop_succ_cons,List.drop_zero]
  repeat (go_big_quiet_step (fail))
  refine wpQuiet_nil ?_
  intro t'
  obtain ⟨W3,hW3⟩:∃W3,WW t'=W3:=⟨_,rfl⟩
  have HB3:=zh (show Below w2.heap.size w2 W3 from hW3 ▸ HWH.out t')
  rw[hW3]
  clear z0 hW3 HWH e0 e1 el
  have HL:=zh (HDL.out W3 HB3.out)
  go_wp2_with fail
  with_reducible refine HL.out.mono ?_
  rintro r w3 ⟨fv,rfl,cv3,hg3⟩
  have HG9:=zh (((HG2.out.after HB3.out).next hg3).before HB1.out hsz)
  have hfin:Mk.strict 5 n d p.1 p.2=p.2.put ⟨17,d,r0,0,rl⟩:=by rw[HPE.out];rfl
  have HFIN:=zh hfin
  clear hfin hg3 HL hgc hgl
  go_wp2_with fail
  first | go_end0 | (refine bodyPost_ret (results_none rfl _ _ _) rfl ?_)
  exact ⟨rfl,_,by rw[HFIN.out];exact HG9.out⟩
 ·have hcl2:1<cl:=by omega
  have HDR:=zh (IntsM.rest2 HI2.out hcl1)
  have HD:=zh ((Below.refl w2.heap.size w2).drew)
  have HDL:=zh (fun (W3:World) (hb:Below w2.heap.size w2 W3)=>zar 17 d r0 0 rl (some ⟨gb,goff+1,none⟩) rl.length (cl-1) W3 (HG2.out.inn.keep hb) hcode (by constructor<;>omega) hdi HRI.out (by constructor<;>omega) (HDR.out.below hb))
  refine zaa (Below w2.heap.size w2) 8 (by kernel_rfl) (by kernel_rfl) HD.out ?_
  intro T0 _ WW HWW HWW2
  have z0:∀t,(WW t).cell? _=_:=fun t=>((HWW t).cell (p:=⟨gb,goff,none⟩) hgl).trans hgc
  have HWH:=zh HWW
  clear HWW HWW2
  simp only[List.take_succ_cons,List.take_zero,List.drop_succ_cons,List.drop_zero]
  repeat (go_big_quiet_step (fail))
  refine wpQuiet_nil ?_
  intro t'
  obtain ⟨W3,hW3⟩:∃W3,WW t'=W3:=⟨_,rfl⟩
  have HB3:=zh (show Below w2.heap.size w2 W3 from hW3 ▸ HWH.out t')
  rw[hW3]
  clear z0 hW3 HWH e0 e1 el
  have HL:=zh (HDL.out W3 HB3.out)
  go_wp2_with fail
  with_reducible refine HL.out.mono ?_
  rintro r w3 ⟨fv,rfl,cv3,hg3⟩
  have HG9:=zh (((HG2.out.after HB3.out).next hg3).before HB1.out hsz)
  have hfin:Mk.strict 5 n d p.1 p.2=p.2.put ⟨17,d,r0,0,rl⟩:=by rw[HPE.out];rfl
  have HFIN:=zh hfin
  clear hfin hg3 HL hgc hgl
  go_wp2_with fail
  first | go_end0 | (refine bodyPost_ret (results_none rfl _ _ _) rfl ?_)
  exact ⟨rfl,_,by rw[HFIN.out];exact HG9.out⟩
theorem zjZ (n:Int) (v:List Int) (t:List Trm) (ht:AllC t) (hct:1≤t.length) (c0 c1 c2 c3:Value) (B base mb vb:Nat) (cv:Value) (X:Nat→Prop) (s:MSt) (d:Int) (nc nk:Int) (fr:Bool) (sc:Int→Bool) (W:World)
  (hv:TrmR W B (.mk 22 n v t) [c0,c1,c2,c3]) (hm:MkIn W B base mb vb cv X s) (hw:∀x∈t,Trm.wf nc nk fr x sc=true) (hroom:Room s (2+6*Trm.allL t)) (hd:0≤d∧d≤1900000) :
  Calls prog 69 #[.pointer (some ⟨mb,0,none⟩),.agg #[c0,c1,c2,c3],.int .i64 d] W fun r w'=>r=.returned (.tuple #[])∧∃cv',MkGo B base mb vb cv cv' X (Mk.strict 22 n d (Mk.allT Mk.lkL t s).1 (Mk.allT Mk.lkL t s).2) W w':=by
 obtain ⟨W1,hW1⟩:∃W1,W.alloc (.cells #[c0,c1,c2,c3] 27)=W1:=⟨_,rfl⟩
 have hsz:=hm.size
 obtain ⟨ov,lv,cvv,ot,lt,ct,rfl,rfl,rfl,rfl,hn,HBX,HM,HT,HV,HB1,hlt,hlv⟩:=zav W B base mb vb cv X s _ n v t _ _ _ _ hv hm W1 hW1
 have HW:=zh hW1
 have HN:=zh hn
 clear hlt hlv hn
 have HA:=zh (ht (.slice ot lt ct) B base mb vb cv X s nc nk fr sc W1 HT.out HM.out hw (hroom.mono (by omega)))
 have hra:=Mk.Room.allT (k:=2) Mk.lkL_ok t s hroom
 have HPL0:=zh (zae Mk.lkL t s)
 obtain ⟨p,hp⟩:∃p,Mk.allT Mk.lkL t s=p:=⟨_,rfl⟩
 rw[hp] at HA hra HPL0
 rw[hp]
 have HRA:=zh hra
 have e0:=HBX.out.cell 0 rfl
 have e1:=HBX.out.cell 1 rfl
 have e3:=HBX.out.cell 3 rfl
 have el:=HBX.out.lt
 clear hv hm hW1 hw hroom hra hp ht
 go_enter func69,ntmps69
 go_upto_region 1 with fail
 rw[HW.out]
 go_wp2_with fail
 refine HA.out.mono ?_
 rintro r w2 ⟨rv,rfl,cv2,hg2,hi2⟩
 have HG2:=zh hg2
 have HI2:=zh hi2
 have HBX2:=zh (HG2.out.box HM.out HBX.out (by decide) (by decide))
 obtain ⟨ol,ll,cl,rfl⟩:=hi2.1.form
 obtain ⟨hll,hlc,hlm⟩:=hi2.1.lens
 have HLL:=zh hll
 clear hll
 have hcode:p.2.code.length≤1000000:=by have:=HRA.out.1.1;omega
 have hdi:I64 d:=⟨by omega,by omega⟩
 clear hg2 hi2 e0 e1 e3 el HA
 have e0:=HBX2.out.cell 0 rfl
 have e1:=HBX2.out.cell 1 rfl
 have el:=HBX2.out.lt
 have hll:=HLL.out
 have hpl:=HPL0.out
 obtain ⟨r0,rl,hpe⟩:∃r0 rl,p.1=r0::rl:=by
  cases h:p.1 with
  | nil=>rw[h] at hpl;simp at hpl;omega
  | cons a b=>exact ⟨a,b,rfl⟩
 obtain ⟨gb,goff,hgo,hgb,hgc,hri⟩:=SlC.int (j:=0) HI2.out.1 (x:=r0) (by rw[hpe];rfl)
 subst hgo
 have hgl:=zac hgc
 rw[Nat.add_zero] at hgc
 rw[hpe] at HI2 hll
 simp only[List.length_cons] at hll
 subst hll
 have HRI:=zh hri
 have HPE:=zh hpe
 clear hpl hpe
 go_upto_region 18 with fail
 by_cases hcl1:cl=1
 ·subst hcl1
  have HDR:=zh (IntsM.rest1 HI2.out)
  have HD:=zh ((Below.refl w2.heap.size w2).drew)
  have HDL:=zh (fun (W3:World) (hb:Below w2.heap.size w2 W3)=>zar 18 d n r0 rl (some ⟨gb,goff,none⟩) 0 0 W3 (HG2.out.inn.keep hb) hcode (by constructor<;>omega) hdi HN.out HRI.out (HDR.out.below hb))
  refine zaa (Below w2.heap.size w2) 10 (by kernel_rfl) (by kernel_rfl) HD.out ?_
  intro T0 _ WW HWW HWW2
  have z0:∀t,(WW t).cell? _=_:=fun t=>((HWW t).cell (p:=⟨W.heap.size,1,none⟩) el).trans e1
  have z1:∀t,(WW t).cell? _=_:=fun t=>((HWW t).cell (p:=⟨gb,goff,none⟩) hgl).trans hgc
  have HWH:=zh HWW
  clear HWW HWW2
  simp only[List.take_succ_cons,List.take_zero,List.drop_succ_cons,List.drop_zero]
  repeat (go_big_quiet_step (fail))
  refine wpQuiet_nil ?_
  intro t'
  obtain ⟨W3,hW3⟩:∃W3,WW t'=W3:=⟨_,rfl⟩
  have HB3:=zh (show Below w2.heap.size w2 W3 from hW3 ▸ HWH.out t')
  rw[hW3]
  clear z0 z1 hW3 HWH e0 e1 el
  have HL:=zh (HDL.out W3 HB3.out)
  go_wp2_with fail
  with_reducible refine HL.out.mono ?_
  rintro r w3 ⟨fv,rfl,cv3,hg3⟩
  have HG9:=zh (((HG2.out.after HB3.out).next hg3).before HB1.out hsz)
  have hfin:Mk.strict 22 n d p.1 p.2=p.2.put ⟨18,d,n,r0,rl⟩:=by rw[HPE.out];rfl
  have HFIN:=zh hfin
  clear hfin hg3 HL hgc hgl
  go_wp2_with fail
  first | go_end0 | (refine bodyPost_ret (results_none rfl _ _ _) rfl ?_)
  exact ⟨rfl,_,by rw[HFIN.out];exact HG9.out⟩
 ·have hcl2:1<cl:=by omega
  have HDR:=zh (IntsM.rest2 HI2.out hcl1)
  have HD:=zh ((Below.refl w2.heap.size w2).drew)
  have HDL:=zh (fun (W3:World) (hb:Below w2.heap.size w2 W3)=>zar 18 d n r0 rl (some ⟨gb,goff+1,none⟩) rl.length (cl-1) W3 (HG2.out.inn.keep hb) hcode (by constructor<;>omega) hdi HN.out HRI.out (HDR.out.below hb))
  refine zaa (Below w2.heap.size w2) 10 (by kernel_rfl) (by kernel_rfl) HD.out ?_
  intro T0 _ WW HWW HWW2
  have z0:∀t,(WW t).cell? _=_:=fun t=>((HWW t).cell (p:=⟨W.heap.size,1,none⟩) el).trans e1
  have z1:∀t,(WW t).cell? _=_:=fun t=>((HWW t).cell (p:=⟨gb,goff,none⟩) hgl).trans hgc
  have HWH:=zh HWW
  clear HWW HWW2
  simp only[List.take_succ_cons,List.take_zero,List.drop_succ_cons,List.drop_zero]
  repeat (go_big_quiet_step (fail))
  refine wpQuiet_nil ?_
  intro t'
  obtain ⟨W3,hW3⟩:∃W3,WW t'=W3:=⟨_,rfl⟩
  have HB3:=zh (show Below w2.heap.size w2 W3 from hW3 ▸ HWH.out t')
  rw[hW3]
  clear z0 z1 hW3 HWH e0 e1 el
  have HL:=zh (HDL.out W3 HB3.out)
  go_wp2_with fail
  with_reducible refine HL.out.mono ?_
  rintro r w3 ⟨fv,rfl,cv3,hg3⟩
  have HG9:=zh (((HG2.out.after HB3.out).next hg3).before HB1.out hsz)
  have hfin:Mk.strict 22 n d p.1 p.2=p.2.put ⟨18,d,n,r0,rl⟩:=by rw[HPE.out];rfl
  have HFIN:=zh hfin
  clear hfin hg3 HL hgc hgl
  go_wp2_with fail
  first | go_end0 | (refine bodyPost_ret (results_none rfl _ _ _) rfl ?_)
  exact ⟨rfl,_,by rw[HFIN.out];exact HG9.out⟩
theorem zjS (n:Int) (v:List Int) (t:List Trm) (ht:AllC t) (hct:2≤t.length) (c0 c1 c2 c3:Value) (B base mb vb:Nat) (cv:Value) (X:Nat→Prop) (s:MSt) (d:Int) (nc nk:Int) (fr:Bool) (sc:Int→Bool) (W:World)
  (hv:TrmR W B (.mk 17 n v t) [c0,c1,c2,c3]) (hm:MkIn W B base mb vb cv X s) (hw:∀x∈t,Trm.wf nc nk fr x sc=true) (hroom:Room s (2+6*Trm.allL t)) (hd:0≤d∧d≤1900000) :
  Calls prog 69 #[.pointer (some ⟨mb,0,none⟩),.agg #[c0,c1,c2,c3],.int .i64 d] W fun r w'=>r=.returned (.tuple #[])∧∃cv',MkGo B base mb vb cv cv' X (Mk.strict 17 n d (Mk.allT Mk.lkL t s).1 (Mk.allT Mk.lkL t s).2) W w':=by
 obtain ⟨W1,hW1⟩:∃W1,W.alloc (.cells #[c0,c1,c2,c3] 27)=W1:=⟨_,rfl⟩
 have hsz:=hm.size
 obtain ⟨ov,lv,cvv,ot,lt,ct,rfl,rfl,rfl,rfl,hn,HBX,HM,HT,HV,HB1,hlt,hlv⟩:=zav W B base mb vb cv X s _ n v t _ _ _ _ hv hm W1 hW1
 have HW:=zh hW1
 have HN:=zh hn
 clear hlt hlv hn
 have HA:=zh (ht (.slice ot lt ct) B base mb vb cv X s nc nk fr sc W1 HT.out HM.out hw (hroom.mono (by omega)))
 have hra:=Mk.Room.allT (k:=2) Mk.lkL_ok t s hroom
 have HPL0:=zh (zae Mk.lkL t s)
 obtain ⟨p,hp⟩:∃p,Mk.allT Mk.lkL t s=p:=⟨_,rfl⟩
 rw[hp] at HA hra HPL0
 rw[hp]
 have HRA:=zh hra
 have e0:=HBX.out.cell 0 rfl
 have e1:=HBX.out.cell 1 rfl
 have e3:=HBX.out.cell 3 rfl
 have el:=HBX.out.lt
 clear hv hm hW1 hw hroom hra hp ht
 go_enter func69,ntmps69
 go_upto_region 1 with fail
 rw[HW.out]
 go_wp2_with fail
 refine HA.out.mono ?_
 rintro r w2 ⟨rv,rfl,cv2,hg2,hi2⟩
 have HG2:=zh hg2
 have HI2:=zh hi2
 have HBX2:=zh (HG2.out.box HM.out HBX.out (by decide) (by decide))
 obtain ⟨ol,ll,cl,rfl⟩:=hi2.1.form
 obtain ⟨hll,hlc,hlm⟩:=hi2.1.lens
 have HLL:=zh hll
 clear hll
 have hcode:p.2.code.length≤1000000:=by have:=HRA.out.1.1;omega
 have hdi:I64 d:=⟨by omega,by omega⟩
 clear hg2 hi2 e0 e1 e3 el HA
 have e0:=HBX2.out.cell 0 rfl
 have e1:=HBX2.out.cell 1 rfl
 have el:=HBX2.out.lt
 have hll:=HLL.out
 have hpl:=HPL0.out
 obtain ⟨r0,r1,rl,hpe⟩:∃r0 r1 rl,p.1=r0::r1::rl:=by
  cases h:p.1 with
  | nil=>rw[h] at hpl;simp at hpl;omega
  | cons a b=>
   cases b with
   | nil=>rw[h] at hpl;simp at hpl;omega
   | cons c d=>exact ⟨a,c,d,rfl⟩
 obtain ⟨gb,goff,hgo,hgb,hgc,hri⟩:=SlC.int (j:=0) HI2.out.1 (x:=r0) (by rw[hpe];rfl)
 obtain ⟨gb',goff',hgo',_,hgd,hri1⟩:=SlC.int (j:=1) HI2.out.1 (x:=r1) (by rw[hpe];rfl)
 subst hgo
 simp only[Option.some.injEq,Addr.mk.injEq,and_true] at hgo'
 obtain ⟨rfl,rfl⟩:=hgo'
 have hgl:=zac hgc
 rw[Nat.add_zero] at hgc
 rw[hpe] at HI2 hll
 simp only[List.length_cons] at hll
 subst hll
 have HRI:=zh hri
 have HRI1:=zh hri1
 have HPE:=zh hpe
 clear hpl hpe hri hri1
 go_upto_region 34 with fail
 have HD:=zh ((Below.refl w2.heap.size w2).drew)
 have HDL:=zh (fun (W3:World) (hb:Below w2.heap.size w2 W3)=>zar 12 0 r0 r1 [] none 0 0 W3 (HG2.out.inn.keep hb) hcode (by constructor<;>omega) (by constructor<;>omega) HRI.out HRI1.out (IntsM.nil _ _))
 refine zaa (Below w2.heap.size w2) 9 (by kernel_rfl) (by kernel_rfl) HD.out ?_
 intro T0 _ WW HWW HWW2
 have z0:∀t,(WW t).cell? _=_:=fun t=>((HWW t).cell (p:=⟨gb,goff,none⟩) hgl).trans hgc
 have z1:∀t,(WW t).cell? _=_:=fun t=>((HWW t).cell (p:=⟨gb,goff+1,none⟩) hgl).trans hgd
 have HWH:=zh HWW
 clear HWW HWW2
 simp only[List.take_succ_cons,List.take_zero,List.drop_succ_cons,List.drop_zero]
 repeat (go_big_quiet_step (fail))
 refine wpQuiet_nil ?_
 intro t'
 obtain ⟨W3,hW3⟩:∃W3,WW t'=W3:=⟨_,rfl⟩
 have HB3:=zh (show Below w2.heap.size w2 W3 from hW3 ▸ HWH.out t')
 rw[hW3]
 clear z0 z1 hW3 HWH e0 e1 el
 have HL:=zh (HDL.out W3 HB3.out)
 go_wp2_with fail
 with_reducible refine HL.out.mono ?_
 rintro r w3 ⟨fv,rfl,cv3,hg3⟩
 have HG4:=zh ((HG2.out.after HB3.out).next hg3)
 have HL2:=zh (zar 4 d 0 0 [] none 0 0 w3 HG4.out.inn (by have:=HRA.out.1.1;simp only[MSt.put,List.length_append,List.length_singleton];omega) (by constructor<;>omega) hdi (by constructor<;>omega) (by constructor<;>omega) (IntsM.nil _ _))
 clear hg3 HL hgc hgl hgd
 go_wp2_with fail
 with_reducible refine HL2.out.mono ?_
 rintro r w4 ⟨fv2,rfl,cv4,hg4⟩
 have HG9:=zh ((HG4.out.next hg4).before HB1.out hsz)
 have hfin:Mk.strict 17 n d p.1 p.2=(p.2.put ⟨12,0,r0,r1,[]⟩).put ⟨4,d,0,0,[]⟩:=by rw[HPE.out];rfl
 have HFIN:=zh hfin
 clear hfin hg4 HL2
 go_wp2_with fail
 first | go_end0 | (refine bodyPost_ret (results_none rfl _ _ _) rfl ?_)
 exact ⟨rfl,_,by rw[HFIN.out];exact HG9.out⟩
theorem zjf (n:Int) (v:List Int) (t:List Trm) (ht:AllC t) (hct:2≤t.length) (c0 c1 c2 c3:Value) (B base mb vb:Nat) (cv:Value) (X:Nat→Prop) (s:MSt) (d:Int) (nc nk:Int) (fr:Bool) (sc:Int→Bool) (W:World)
  (hv:TrmR W B (.mk 18 n v t) [c0,c1,c2,c3]) (hm:MkIn W B base mb vb cv X s) (hw:∀x∈t,Trm.wf nc nk fr x sc=true) (hroom:Room s (2+6*Trm.allL t)) (hd:0≤d∧d≤1900000) :
  Calls prog 69 #[.pointer (some ⟨mb,0,none⟩),.agg #[c0,c1,c2,c3],.int .i64 d] W fun r w'=>r=.returned (.tuple #[])∧∃cv',MkGo B base mb vb cv cv' X (Mk.strict 18 n d (Mk.allT Mk.lkL t s).1 (Mk.allT Mk.lkL t s).2) W w':=by
 obtain ⟨W1,hW1⟩:∃W1,W.alloc (.cells #[c0,c1,c2,c3] 27)=W1:=⟨_,rfl⟩
 have hsz:=hm.size
 obtain ⟨ov,lv,cvv,ot,lt,ct,rfl,rfl,rfl,rfl,hn,HBX,HM,HT,HV,HB1,hlt,hlv⟩:=zav W B base mb vb cv X s _ n v t _ _ _ _ hv hm W1 hW1
 have HW:=zh hW1
 have HN:=zh hn
 clear hlt hlv hn
 have HA:=zh (ht (.slice ot lt ct) B base mb vb cv X s nc nk fr sc W1 HT.out HM.out hw (hroom.mono (by omega)))
 have hra:=Mk.Room.allT (k:=2) Mk.lkL_ok t s hroom
 have HPL0:=zh (zae Mk.lkL t s)
 obtain ⟨p,hp⟩:∃p,Mk.allT Mk.lkL t s=p:=⟨_,rfl⟩
 rw[hp] at HA hra HPL0
 rw[hp]
 have HRA:=zh hra
 have e0:=HBX.out.cell 0 rfl
 have e1:=HBX.out.cell 1 rfl
 have e3:=HBX.out.cell 3 rfl
 have el:=HBX.out.lt
 clear hv hm hW1 hw hroom hra hp ht
 go_enter func69,ntmps69
 go_upto_region 1 with fail
 rw[HW.out]
 go_wp2_with fail
 refine HA.out.mono ?_
 rintro r w2 ⟨rv,rfl,cv2,hg2,hi2⟩
 have HG2:=zh hg2
 have HI2:=zh hi2
 have HBX2:=zh (HG2.out.box HM.out HBX.out (by decide) (by decide))
 obtain ⟨ol,ll,cl,rfl⟩:=hi2.1.form
 obtain ⟨hll,hlc,hlm⟩:=hi2.1.lens
 have HLL:=zh hll
 clear hll
 have hcode:p.2.code.length≤1000000:=by have:=HRA.out.1.1;omega
 have hdi:I64 d:=⟨by omega,by omega⟩
 clear hg2 hi2 e0 e1 e3 el HA
 have e0:=HBX2.out.cell 0 rfl
 have e1:=HBX2.out.cell 1 rfl
 have el:=HBX2.out.lt
 have hll:=HLL.out
 have hpl:=HPL0.out
 obtain ⟨r0,r1,rl,hpe⟩:∃r0 r1 rl,p.1=r0::r1::rl:=by
  cases h:p.1 with
  | nil=>rw[h] at hpl;simp at hpl;omega
  | cons a b=>
   cases b with
   | nil=>rw[h] at hpl;simp at hpl;omega
   | cons c d=>exact ⟨a,c,d,rfl⟩
 obtain ⟨gb,goff,hgo,hgb,hgc,hri⟩:=SlC.int (j:=0) HI2.out.1 (x:=r0) (by rw[hpe];rfl)
 obtain ⟨gb',goff',hgo',_,hgd,hri1⟩:=SlC.int (j:=1) HI2.out.1 (x:=r1) (by rw[hpe];rfl)
 subst hgo
 simp only[Option.some.injEq,Addr.mk.injEq,and_true] at hgo'
 obtain ⟨rfl,rfl⟩:=hgo'
 have hgl:=zac hgc
 rw[Nat.add_zero] at hgc
 rw[hpe] at HI2 hll
 simp only[List.length_cons] at hll
 subst hll
 have HRI:=zh hri
 have HRI1:=zh hri1
 have HPE:=zh hpe
 clear hpl hpe hri hri1
 go_upto_region 34 with fail
 have HD:=zh ((Below.refl w2.heap.size w2).drew)
 have HDL:=zh (fun (W3:World) (hb:Below w2.heap.size w2 W3)=>zar 13 0 r0 r1 [] none 0 0 W3 (HG2.out.inn.keep hb) hcode (by constructor<;>omega) (by constructor<;>omega) HRI.out HRI1.out (IntsM.nil _ _))
 refine zaa (Below w2.heap.size w2) 9 (by kernel_rfl) (by kernel_rfl) HD.out ?_
 intro T0 _ WW HWW HWW2
 have z0:∀t,(WW t).cell? _=_:=fun t=>((HWW t).cell (p:=⟨gb,goff,none⟩) hgl).trans hgc
 have z1:∀t,(WW t).cell? _=_:=fun t=>((HWW t).cell (p:=⟨gb,goff+1,none⟩) hgl).trans hgd
 have HWH:=zh HWW
 clear HWW HWW2
 simp only[List.take_succ_cons,List.take_zero,List.drop_succ_cons,List.drop_zero]
 repeat (go_big_quiet_step (fail))
 refine wpQuiet_nil ?_
 intro t'
 obtain ⟨W3,hW3⟩:∃W3,WW t'=W3:=⟨_,rfl⟩
 have HB3:=zh (show Below w2.heap.size w2 W3 from hW3 ▸ HWH.out t')
 rw[hW3]
 clear z0 z1 hW3 HWH e0 e1 el
 have HL:=zh (HDL.out W3 HB3.out)
 go_wp2_with fail
 with_reducible refine HL.out.mono ?_
 rintro r w3 ⟨fv,rfl,cv3,hg3⟩
 have HG4:=zh ((HG2.out.after HB3.out).next hg3)
 have HL2:=zh (zar 4 d 0 0 [] none 0 0 w3 HG4.out.inn (by have:=HRA.out.1.1;simp only[MSt.put,List.length_append,List.length_singleton];omega) (by constructor<;>omega) hdi (by constructor<;>omega) (by constructor<;>omega) (IntsM.nil _ _))
 clear hg3 HL hgc hgl hgd
 go_wp2_with fail
 with_reducible refine HL2.out.mono ?_
 rintro r w4 ⟨fv2,rfl,cv4,hg4⟩
 have HG9:=zh ((HG4.out.next hg4).before HB1.out hsz)
 have hfin:Mk.strict 18 n d p.1 p.2=(p.2.put ⟨13,0,r0,r1,[]⟩).put ⟨4,d,0,0,[]⟩:=by rw[HPE.out];rfl
 have HFIN:=zh hfin
 clear hfin hg4 HL2
 go_wp2_with fail
 first | go_end0 | (refine bodyPost_ret (results_none rfl _ _ _) rfl ?_)
 exact ⟨rfl,_,by rw[HFIN.out];exact HG9.out⟩
theorem zkU (n:Int) (v:List Int) (t:List Trm) (c0 c1 c2 c3:Value) (B base mb vb:Nat) (cv:Value) (X:Nat→Prop) (s:MSt) (d:Int) (W:World)
  (hv:TrmR W B (.mk 1 n v t) [c0,c1,c2,c3]) (hm:MkIn W B base mb vb cv X s) (hroom:Room s 2) (hd:0≤d∧d≤1900000) :
  Calls prog 69 #[.pointer (some ⟨mb,0,none⟩),.agg #[c0,c1,c2,c3],.int .i64 d] W fun r w'=>r=.returned (.tuple #[])∧∃cv',MkGo B base mb vb cv cv' X (s.put ⟨1,d,Mk.lkL s.vars n,0,[]⟩) W w':=by
 obtain ⟨w2,hW1⟩:∃w2,W.alloc (.cells #[c0,c1,c2,c3] 27)=w2:=⟨_,rfl⟩
 have hsz:=hm.size
 obtain ⟨ov,lv,cvv,ot,lt,ct,rfl,rfl,rfl,rfl,hn,HBX,HM,HT,HV,HB1,hlt,hlv⟩:=zav W B base mb vb cv X s _ n v t _ _ _ _ hv hm w2 hW1
 have HW:=zh hW1
 have HN:=zh hn
 have hrr:=hroom.lk Mk.lkL_ok n
 have hcode:s.code.length≤1000000:=by have:=hroom.1;omega
 have hdi:I64 d:=⟨by omega,by omega⟩
 have e0:=HBX.out.cell 0 rfl
 have e1:=HBX.out.cell 1 rfl
 have el:=HBX.out.lt
 have m2:=HM.out.st.box.cell 2 rfl
 have ml:=HM.out.st.box.lt
 obtain ⟨rg,hrg⟩:∃rg,Mk.lkL s.vars n=rg:=⟨_,rfl⟩
 have HRG:=zh hrg
 rw[hrg] at hrr ⊢
 clear hv hm hW1 hroom hlt hlv hn hrg
 go_enter func69,ntmps69
 go_upto_region 2 with fail
 rw[HW.out]
 have HD:=zh ((Below.refl w2.heap.size w2).drew)
 have HDL:=zh (fun (W3:World) (hb:Below w2.heap.size w2 W3)=>zar 1 d rg 0 [] none 0 0 W3 (HM.out.keep hb) hcode (by constructor<;>omega) hdi (by constructor<;>omega) (by constructor<;>omega) (IntsM.nil _ _))
 refine zaa (Below w2.heap.size w2) 10 (by kernel_rfl) (by kernel_rfl) HD.out ?_
 intro T0 _ WW HWW HWW2
 have z0:∀t,(WW t).cell? _=_:=fun t=>((HWW t).cell (p:=⟨W.heap.size,1,none⟩) el).trans e1
 have z1:∀t,(WW t).cell? _=_:=fun t=>((HWW t).cell (p:=⟨mb,2,none⟩) ml).trans m2
 have zk:∀t,(Instr.lookup 75 (.map (some vb)) (.int .i64 n) false).run prog (WW t)=.ok (.int .i64 rg) (WW t):=fun t=>by rw[←HRG.out];exact zbU (HM.out.st.vars.keep (HWW t)) n HN.out
 have HWH:=zh HWW
 clear HWW HWW2
 simp only[List.take_succ_cons,List.take_zero,List.drop_succ_cons,List.drop_zero]
 repeat (go_big_quiet_step (fail))
 refine wpQuiet_nil ?_
 intro t'
 obtain ⟨W3,hW3⟩:∃W3,WW t'=W3:=⟨_,rfl⟩
 have HB3:=zh (show Below w2.heap.size w2 W3 from hW3 ▸ HWH.out t')
 rw[hW3]
 clear z0 z1 zk hW3 m2 ml HWH e0 e1 el
 have HL:=zh (HDL.out W3 HB3.out)
 go_wp2_with fail
 with_reducible refine HL.out.mono ?_
 rintro r w3 ⟨fv,rfl,cv3,hg3⟩
 have HG9:=zh ((((MkGo.refl HM.out).after HB3.out).next hg3).before HB1.out hsz)
 clear hg3 HL
 go_wp2_with fail
 first | go_end0 | (refine bodyPost_ret (results_none rfl _ _ _) rfl ?_)
 exact ⟨rfl,_,HG9.out⟩
end
end Go.Proofs.YtdcajmeeeoofgaaGreatDoor
