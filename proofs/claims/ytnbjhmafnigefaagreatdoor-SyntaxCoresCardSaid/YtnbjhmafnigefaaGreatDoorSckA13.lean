/- .. -/
import Derived.Test.YtnbjhmafnigefaaGreatDoorSckA12
open Go.Proofs.Tryz
set_option maxRecDepth 100000
set_option maxHeartbeats 16000000
namespace Go.Proofs.YtnbjhmafnigefaaGreatDoor
section
open Go Go.RowKit
def DefPost (S:Nat->Prop) (b _n:Nat) (r:Option (Option ((Dat × Dat) × Nat))) (w:World) (e:Ending) (w':World):Prop:=match r with
 | none=>(∃v1 v2,e=.returned (.tuple #[v1,v2,.bool false])∧v1=(.agg #[.int .i64 0,.int .i64 0,.int .i64 0,.string ⟨#[]⟩,.slice none 0 0])∧v2=(.agg #[.int .i64 0,.int .i64 0,.int .i64 0,.string ⟨#[]⟩,.slice none 0 0]))∧Below w.heap.size w w'
 | some none=>e=.panicked badE∧Turned (fun c=>c=b) w w'
 | some (some (p,m))=>∃v1 v2,e=.returned (.tuple #[v1,v2,.bool true])∧RepD (hide w' S) w'.heap.size p.1 v1∧RepD (hide w' S) w'.heap.size p.2 v2∧Turned (fun c=>c=b) w w'∧XP w' b m
def defR (E:Dat->Sy.M Dat) (L:Dat->List Dat->Sy.M Dat) (x:Dat) (n:Nat) (r:Option (Option ((Dat × Dat) × Nat))):Prop:=match Sy.define E L x with
 | none=>r=none
 | some m=>∃p,m n=some p∧r=some p
theorem zee {S:Nat->Prop} {b n:Nat} {w:World} {x:Dat} {k m d:Int} {s:ByteArray} {o:Option Addr} {len cap:Nat} (hS:∀c,S c->c<w.heap.size) (hb:S b) (hx:XP w b n) (hE:Env w) (hxv:RepD (hide w S) w.heap.size x (.agg #[.int .i64 k,.int .i64 m,.int .i64 d,.string s,.slice o len cap])):∃V,V.heap.size=w.heap.size+2∧(Below w.heap.size w V∧Below w.heap.size w (((w.alloc (.cells #[.int .i64 k,.int .i64 m,.int .i64 d,.string s,.slice o len cap] 26)).alloc (.cells #[.int .i64 0,.int .i64 0,.int .i64 0,.string ⟨#[]⟩,.slice none 0 0] 26)).alloc (.cells #[.int .i64 0,.int .i64 0,.int .i64 0,.string ⟨#[]⟩,.slice none 0 0] 26)))∧XS (S1 S (w.heap.size+1)) b (w.heap.size+2) n V (((w.alloc (.cells #[.int .i64 k,.int .i64 m,.int .i64 d,.string s,.slice o len cap] 26)).alloc (.cells #[.int .i64 0,.int .i64 0,.int .i64 0,.string ⟨#[]⟩,.slice none 0 0] 26)).alloc (.cells #[.int .i64 0,.int .i64 0,.int .i64 0,.string ⟨#[]⟩,.slice none 0 0] 26))∧(Sp.elm (some x)).holds (S1 (S1 S (w.heap.size+1)) (w.heap.size+2)) (.pointer (some ⟨w.heap.size,0,none⟩)) (((w.alloc (.cells #[.int .i64 k,.int .i64 m,.int .i64 d,.string s,.slice o len cap] 26)).alloc (.cells #[.int .i64 0,.int .i64 0,.int .i64 0,.string ⟨#[]⟩,.slice none 0 0] 26)).alloc (.cells #[.int .i64 0,.int .i64 0,.int .i64 0,.string ⟨#[]⟩,.slice none 0 0] 26))∧Box5 (((w.alloc (.cells #[.int .i64 k,.int .i64 m,.int .i64 d,.string s,.slice o len cap] 26)).alloc (.cells #[.int .i64 0,.int .i64 0,.int .i64 0,.string ⟨#[]⟩,.slice none 0 0] 26)).alloc (.cells #[.int .i64 0,.int .i64 0,.int .i64 0,.string ⟨#[]⟩,.slice none 0 0] 26)) (w.heap.size+1) 26 (.int .i64 0) (.int .i64 0) (.int .i64 0) (.string ⟨#[]⟩) (.slice none 0 0):=by
 obtain ⟨h1,h2⟩:=zhI hS hb hx hE hxv
 obtain ⟨V,hV⟩:∃V,(w.alloc (.cells #[.int .i64 k,.int .i64 m,.int .i64 d,.string s,.slice o len cap] 26)).alloc (.cells #[.int .i64 0,.int .i64 0,.int .i64 0,.string ⟨#[]⟩,.slice none 0 0] 26)=V:=⟨_,rfl⟩
 have hz:V.heap.size=w.heap.size+2:=by rw[<-hV];simp
 have hbl:Below w.heap.size w V:=by rw[<-hV];exact (Below.one w _).trans ((Below.one _ _).mono (by simp))
 rw[hV] at h1 h2 ⊢
 have h3:=zfx (S:=S1 S (w.heap.size+1)) (w:=V) h1.lt (.inl hb) h1.hx h1.hE
 rw[hz] at h3
 exact ⟨V,hz,⟨hbl,hbl.trans ((Below.one V _).mono (by omega))⟩,h3,h3.first h2,h1.box.alloc _⟩
theorem zep (S:Nat->Prop) (b n:Nat) (x:Dat) (xv:Value) (w:World) (hq:((Sy.split x).2.kind==4)=false) (hS:∀c,S c->c<w.heap.size) (hb:S b) (hx:XP w b n) (hV:Env w) (hxv:RepD (hide w S) w.heap.size x xv) (hsm:Sy.small x=true) :
  Calls prog 48 #[.pointer (some ⟨b,0,none⟩),xv] w (DefPost S b n none w):=by
 obtain ⟨k1,m1,d1,s1,o1,len1,cap1,rfl⟩:=zae hxv.unhide
 obtain ⟨V,hVz,⟨hVb,hW0b⟩,hst,hel,hb4⟩:=zee hS hb hx hV hxv
 obtain ⟨W0,hW0⟩:∃W0,((w.alloc (.cells #[.int .i64 k1,.int .i64 m1,.int .i64 d1,.string s1,.slice o1 len1 cap1] 26)).alloc (.cells #[.int .i64 0,.int .i64 0,.int .i64 0,.string ⟨#[]⟩,.slice none 0 0] 26)).alloc (.cells #[.int .i64 0,.int .i64 0,.int .i64 0,.string ⟨#[]⟩,.slice none 0 0] 26)=W0:=⟨_,rfl⟩
 rw[hW0] at hst hel hb4 hW0b
 obtain ⟨k,m,d,st,o,len,cap,hxr,q0,q1,q2,q3,q4,ql⟩:=Sp.cells hel
 have HC:=zh (hst.items x _ false hq hxr (Sy.small_iff.1 hsm).1 (Sy.small_iff.1 hsm).2)
 have HST:=zh hst
 have HW0:=zh hW0
 have HB4:=zh hb4
 have HVZ:=zh hVz
 have HVB:=zh hVb
 have HWB:=zh hW0b
 have HSB:=zh hb
 have HLT:=zh (hS b hb)
 have HS0:=zh hS
 clear hst hel hb4 hW0 hVz hVb hW0b hxv hS hb hx hV hsm hxr
 go_enter func48,ntmps48
 go_upto_region 1 with fail
 rw[HW0.out]
 go_upto_region 3 with (first | (go_at_call 73;refine HC.out.mono ?_;rintro e' w1 ⟨ol,lenl,capl,rfl,hg1,hl1,hb1⟩;have HG1:=zh hg1;have HL1:=zh hl1;have HB1:=zh hb1;clear hg1 hl1 hb1) | fail)
 have hz5:Box5 w1 (w.heap.size+2) 26 (.int .i64 0) (.int .i64 0) (.int .i64 0) (.string ⟨#[]⟩) (.slice none 0 0):=(HB1.out.block _ HST.out.box.lt).trans HST.out.box
 have hz4:Box5 w1 (w.heap.size+1) 26 (.int .i64 0) (.int .i64 0) (.int .i64 0) (.string ⟨#[]⟩) (.slice none 0 0):=(HB1.out.block _ HB4.out.lt).trans HB4.out
 obtain ⟨a0,a1,a2,a3,a4⟩:=hz4.cells
 obtain ⟨f0,f1,f2,f3,f4⟩:=hz4.free
 have al:=hz4.lt
 obtain ⟨p0,p1,p2,p3,p4⟩:=hz5.cells
 obtain ⟨z0,z1,z2,z3,z4⟩:=hz5.free
 have pl:=hz5.lt
 have HZ4:=zh hz4
 have HZ5:=zh hz5
 clear hz4 hz5
 go_wp2_with fail
 have hy4:=HZ4.out.set (.int .i64 0) (.int .i64 0) (.int .i64 0) (.string ⟨#[]⟩) (.slice none 0 0)
 have hy5:=(show Box5 (set5 w1 (w.heap.size+1) (.int .i64 0) (.int .i64 0) (.int .i64 0) (.string ⟨#[]⟩) (.slice none 0 0)) (w.heap.size+2) 26 (.int .i64 0) (.int .i64 0) (.int .i64 0) (.string ⟨#[]⟩) (.slice none 0 0) from (zam w1 _ _ _ _ _ _ (by omega)).trans HZ5.out).set (.int .i64 0) (.int .i64 0) (.int .i64 0) (.string ⟨#[]⟩) (.slice none 0 0)
 have hx4:=(zam (set5 w1 (w.heap.size+1) (.int .i64 0) (.int .i64 0) (.int .i64 0) (.string ⟨#[]⟩) (.slice none 0 0)) (w.heap.size+2) (.int .i64 0) (.int .i64 0) (.int .i64 0) (.string ⟨#[]⟩) (.slice none 0 0) (show w.heap.size+1≠(w.heap.size+2) by omega)).trans hy4
 obtain ⟨r0,r1,r2,r3,r4⟩:=hy5.cells
 obtain ⟨t0,t1,t2,t3,t4⟩:=(show Box5 _ _ _ _ _ _ _ _ from hx4).cells
 refine bodyPost_ret (v:=.tuple #[(.agg #[.int .i64 0,.int .i64 0,.int .i64 0,.string ⟨#[]⟩,.slice none 0 0]),(.agg #[.int .i64 0,.int .i64 0,.int .i64 0,.string ⟨#[]⟩,.slice none 0 0]),.bool false]) (by simp[results,results48,go_sem,r0,r1,r2,r3,r4,t0,t1,t2,t3,t4]) rfl ?_
 exact ⟨⟨_,_,rfl,rfl,rfl⟩,(((HWB.out.trans (HB1.out.mono HWB.out.size)).trans (zag _ _ _ _ _ _ _ _ (by omega))).trans (zag _ _ _ _ _ _ _ _ (by omega)))⟩
theorem ze0 (S:Nat->Prop) (b n:Nat) (x:Dat) (xv:Value) (w:World) (hq:((Sy.split x).2.kind==4)=true) (he:(Sy.split x).1=[]) (hS:∀c,S c->c<w.heap.size) (hb:S b) (hx:XP w b n) (hV:Env w) (hxv:RepD (hide w S) w.heap.size x xv) (hsm:Sy.small x=true) :
  Calls prog 48 #[.pointer (some ⟨b,0,none⟩),xv] w (DefPost S b n none w):=by
 obtain ⟨k1,m1,d1,s1,o1,len1,cap1,rfl⟩:=zae hxv.unhide
 obtain ⟨V,hVz,⟨hVb,hW0b⟩,hst,hel,hb4⟩:=zee hS hb hx hV hxv
 obtain ⟨W0,hW0⟩:∃W0,((w.alloc (.cells #[.int .i64 k1,.int .i64 m1,.int .i64 d1,.string s1,.slice o1 len1 cap1] 26)).alloc (.cells #[.int .i64 0,.int .i64 0,.int .i64 0,.string ⟨#[]⟩,.slice none 0 0] 26)).alloc (.cells #[.int .i64 0,.int .i64 0,.int .i64 0,.string ⟨#[]⟩,.slice none 0 0] 26)=W0:=⟨_,rfl⟩
 rw[hW0] at hst hel hb4 hW0b
 obtain ⟨k,m,d,st,o,len,cap,hxr,q0,q1,q2,q3,q4,ql⟩:=Sp.cells hel
 have HC:=zh (hst.items x _ true hq hxr (Sy.small_iff.1 hsm).1 (Sy.small_iff.1 hsm).2)
 have HST:=zh hst
 have HW0:=zh hW0
 have HB4:=zh hb4
 have HVZ:=zh hVz
 have HVB:=zh hVb
 have HWB:=zh hW0b
 have HSB:=zh hb
 have HLT:=zh (hS b hb)
 have HS0:=zh hS
 have HE:=zh he
 clear hst hel hb4 hW0 hVz hVb hW0b hxv hS hb hx hV hsm hxr he
 go_enter func48,ntmps48
 go_upto_region 1 with fail
 rw[HW0.out]
 go_upto_region 2 with (first | (go_at_call 73;refine HC.out.mono ?_;rintro e' w1 ⟨ol,lenl,capl,rfl,hg1,hl1,hb1⟩;have HG1:=zh hg1;have HL1:=zh hl1;have HB1:=zh hb1;clear hg1 hl1 hb1) | fail)
 obtain rfl:lenl=0:=by rw[HL1.out,HE.out];rfl
 go_upto_region 3 with fail
 have hz5:Box5 w1 (w.heap.size+2) 26 (.int .i64 0) (.int .i64 0) (.int .i64 0) (.string ⟨#[]⟩) (.slice none 0 0):=(HB1.out.block _ HST.out.box.lt).trans HST.out.box
 have hz4:Box5 w1 (w.heap.size+1) 26 (.int .i64 0) (.int .i64 0) (.int .i64 0) (.string ⟨#[]⟩) (.slice none 0 0):=(HB1.out.block _ HB4.out.lt).trans HB4.out
 obtain ⟨a0,a1,a2,a3,a4⟩:=hz4.cells
 obtain ⟨f0,f1,f2,f3,f4⟩:=hz4.free
 have al:=hz4.lt
 obtain ⟨p0,p1,p2,p3,p4⟩:=hz5.cells
 obtain ⟨z0,z1,z2,z3,z4⟩:=hz5.free
 have pl:=hz5.lt
 have HZ4:=zh hz4
 have HZ5:=zh hz5
 clear hz4 hz5
 go_wp2_with fail
 have hy4:=HZ4.out.set (.int .i64 0) (.int .i64 0) (.int .i64 0) (.string ⟨#[]⟩) (.slice none 0 0)
 have hy5:=(show Box5 (set5 w1 (w.heap.size+1) (.int .i64 0) (.int .i64 0) (.int .i64 0) (.string ⟨#[]⟩) (.slice none 0 0)) (w.heap.size+2) 26 (.int .i64 0) (.int .i64 0) (.int .i64 0) (.string ⟨#[]⟩) (.slice none 0 0) from (zam w1 _ _ _ _ _ _ (by omega)).trans HZ5.out).set (.int .i64 0) (.int .i64 0) (.int .i64 0) (.string ⟨#[]⟩) (.slice none 0 0)
 have hx4:=(zam (set5 w1 (w.heap.size+1) (.int .i64 0) (.int .i64 0) (.int .i64 0) (.string ⟨#[]⟩) (.slice none 0 0)) (w.heap.size+2) (.int .i64 0) (.int .i64 0) (.int .i64 0) (.string ⟨#[]⟩) (.slice none 0 0) (show w.heap.size+1≠(w.heap.size+2) by omega)).trans hy4
 obtain ⟨r0,r1,r2,r3,r4⟩:=hy5.cells
 obtain ⟨t0,t1,t2,t3,t4⟩:=(show Box5 _ _ _ _ _ _ _ _ from hx4).cells
 refine bodyPost_ret (v:=.tuple #[(.agg #[.int .i64 0,.int .i64 0,.int .i64 0,.string ⟨#[]⟩,.slice none 0 0]),(.agg #[.int .i64 0,.int .i64 0,.int .i64 0,.string ⟨#[]⟩,.slice none 0 0]),.bool false]) (by simp[results,results48,go_sem,r0,r1,r2,r3,r4,t0,t1,t2,t3,t4]) rfl ?_
 exact ⟨⟨_,_,rfl,rfl,rfl⟩,(((HWB.out.trans (HB1.out.mono HWB.out.size)).trans (zag _ _ _ _ _ _ _ _ (by omega))).trans (zag _ _ _ _ _ _ _ _ (by omega)))⟩
theorem zeY (S:Nat->Prop) (b n:Nat) (x:Dat) (xv:Value) (w:World) (hq:((Sy.split x).2.kind==4)=true) (h:Dat) (t:List Dat) (he:(Sy.split x).1=h::t) (hnm:Sy.isNm h Sy.defineB=false) (hS:∀c,S c->c<w.heap.size) (hb:S b) (hx:XP w b n) (hV:Env w) (hxv:RepD (hide w S) w.heap.size x xv) (hsm:Sy.small x=true) :
  Calls prog 48 #[.pointer (some ⟨b,0,none⟩),xv] w (DefPost S b n none w):=by
 obtain ⟨k1,m1,d1,s1,o1,len1,cap1,rfl⟩:=zae hxv.unhide
 obtain ⟨V,hVz,⟨hVb,hW0b⟩,hst,hel,hb4⟩:=zee hS hb hx hV hxv
 obtain ⟨W0,hW0⟩:∃W0,((w.alloc (.cells #[.int .i64 k1,.int .i64 m1,.int .i64 d1,.string s1,.slice o1 len1 cap1] 26)).alloc (.cells #[.int .i64 0,.int .i64 0,.int .i64 0,.string ⟨#[]⟩,.slice none 0 0] 26)).alloc (.cells #[.int .i64 0,.int .i64 0,.int .i64 0,.string ⟨#[]⟩,.slice none 0 0] 26)=W0:=⟨_,rfl⟩
 rw[hW0] at hst hel hb4 hW0b
 obtain ⟨k,m,d,st,o,len,cap,hxr,q0,q1,q2,q3,q4,ql⟩:=Sp.cells hel
 have HC:=zh (hst.items x _ true hq hxr (Sy.small_iff.1 hsm).1 (Sy.small_iff.1 hsm).2)
 have HST:=zh hst
 have HW0:=zh hW0
 have HB4:=zh hb4
 have HVZ:=zh hVz
 have HVB:=zh hVb
 have HWB:=zh hW0b
 have HSB:=zh hb
 have HLT:=zh (hS b hb)
 have HS0:=zh hS
 have HE:=zh he
 clear hst hel hb4 hW0 hVz hVb hW0b hxv hS hb hx hV hsm hxr he
 go_enter func48,ntmps48
 go_upto_region 1 with fail
 rw[HW0.out]
 go_upto_region 2 with (first | (go_at_call 73;refine HC.out.mono ?_;rintro e' w1 ⟨ol,lenl,capl,rfl,hg1,hl1,hb1⟩;have HG1:=zh hg1;have HL1:=zh hl1;have HB1:=zh hb1;clear hg1 hl1 hb1) | fail)
 have HG1:=zh (show (Sp.row (some (h::t))).holds (S1 (S1 S (w.heap.size+1)) (w.heap.size+2)) (.slice ol lenl capl) w1 from by rw[<-HE.out];exact HG1.out)
 have ht0:0<lenl:=by rw[HL1.out,HE.out];simp
 have ht0a:((lenl:Int)==0)=false:=by simp;omega
 have ht0b:¬lenl=0:=by omega
 obtain ⟨c1,off1,rfl,hel⟩:=Sp.nth (j:=0) HG1.out rfl
 obtain ⟨k3,m3,d3,st3,o3,len3,cap3,hxr,e0,e1,e2,e3,e4,el⟩:=Sp.cells hel
 simp only[Nat.zero_mul,Nat.add_zero] at e0 e1 e2 e3 e4
 have HIS:=zh (fun w=>zdr (w:=w) h _ Sy.defineB hxr)
 rw[hnm] at HIS
 clear hel hxr
 go_upto_region 3 with (first | (go_at_call 74;refine (HIS.out _).mono ?_;rintro e' w2 ⟨rfl,hb2⟩;have HB2:=zh hb2;clear hb2) | fail)
 have hb2:=HB1.out.trans (HB2.out.mono HB1.out.size)
 have hz5:Box5 w2 (w.heap.size+2) 26 (.int .i64 0) (.int .i64 0) (.int .i64 0) (.string ⟨#[]⟩) (.slice none 0 0):=(hb2.block _ HST.out.box.lt).trans HST.out.box
 have hz4:Box5 w2 (w.heap.size+1) 26 (.int .i64 0) (.int .i64 0) (.int .i64 0) (.string ⟨#[]⟩) (.slice none 0 0):=(hb2.block _ HB4.out.lt).trans HB4.out
 obtain ⟨a0,a1,a2,a3,a4⟩:=hz4.cells
 obtain ⟨f0,f1,f2,f3,f4⟩:=hz4.free
 have al:=hz4.lt
 obtain ⟨p0,p1,p2,p3,p4⟩:=hz5.cells
 obtain ⟨z0,z1,z2,z3,z4⟩:=hz5.free
 have pl:=hz5.lt
 have HZ4:=zh hz4
 have HZ5:=zh hz5
 clear hz4 hz5
 go_wp2_with fail
 have hy4:=HZ4.out.set (.int .i64 0) (.int .i64 0) (.int .i64 0) (.string ⟨#[]⟩) (.slice none 0 0)
 have hy5:=(show Box5 (set5 w2 (w.heap.size+1) (.int .i64 0) (.int .i64 0) (.int .i64 0) (.string ⟨#[]⟩) (.slice none 0 0)) (w.heap.size+2) 26 (.int .i64 0) (.int .i64 0) (.int .i64 0) (.string ⟨#[]⟩) (.slice none 0 0) from (zam w2 _ _ _ _ _ _ (by omega)).trans HZ5.out).set (.int .i64 0) (.int .i64 0) (.int .i64 0) (.string ⟨#[]⟩) (.slice none 0 0)
 have hx4:=(zam (set5 w2 (w.heap.size+1) (.int .i64 0) (.int .i64 0) (.int .i64 0) (.string ⟨#[]⟩) (.slice none 0 0)) (w.heap.size+2) (.int .i64 0) (.int .i64 0) (.int .i64 0) (.string ⟨#[]⟩) (.slice none 0 0) (show w.heap.size+1≠(w.heap.size+2) by omega)).trans hy4
 obtain ⟨r0,r1,r2,r3,r4⟩:=hy5.cells
 obtain ⟨t0,t1,t2,t3,t4⟩:=(show Box5 _ _ _ _ _ _ _ _ from hx4).cells
 refine bodyPost_ret (v:=.tuple #[(.agg #[.int .i64 0,.int .i64 0,.int .i64 0,.string ⟨#[]⟩,.slice none 0 0]),(.agg #[.int .i64 0,.int .i64 0,.int .i64 0,.string ⟨#[]⟩,.slice none 0 0]),.bool false]) (by simp[results,results48,go_sem,r0,r1,r2,r3,r4,t0,t1,t2,t3,t4]) rfl ?_
 exact ⟨⟨_,_,rfl,rfl,rfl⟩,(((HWB.out.trans (hb2.mono HWB.out.size)).trans (zag _ _ _ _ _ _ _ _ (by omega))).trans (zag _ _ _ _ _ _ _ _ (by omega)))⟩
theorem zcH (S:Nat->Prop) (b n:Nat) (x:Dat) (xv:Value) (w:World) (hq:((Sy.split x).2.kind==4)=true) (h:Dat) (t:List Dat) (he:(Sy.split x).1=h::t) (hnm:Sy.isNm h Sy.defineB=true) (ht:t.length<2) (hS:∀c,S c->c<w.heap.size) (hb:S b) (hx:XP w b n) (hV:Env w) (hxv:RepD (hide w S) w.heap.size x xv) (hsm:Sy.small x=true) :
  Calls prog 48 #[.pointer (some ⟨b,0,none⟩),xv] w (DefPost S b n (some none) w):=by
 obtain ⟨k1,m1,d1,s1,o1,len1,cap1,rfl⟩:=zae hxv.unhide
 obtain ⟨V,hVz,⟨hVb,hW0b⟩,hst,hel,hb4⟩:=zee hS hb hx hV hxv
 obtain ⟨W0,hW0⟩:∃W0,((w.alloc (.cells #[.int .i64 k1,.int .i64 m1,.int .i64 d1,.string s1,.slice o1 len1 cap1] 26)).alloc (.cells #[.int .i64 0,.int .i64 0,.int .i64 0,.string ⟨#[]⟩,.slice none 0 0] 26)).alloc (.cells #[.int .i64 0,.int .i64 0,.int .i64 0,.string ⟨#[]⟩,.slice none 0 0] 26)=W0:=⟨_,rfl⟩
 rw[hW0] at hst hel hb4 hW0b
 obtain ⟨k,m,d,st,o,len,cap,hxr,q0,q1,q2,q3,q4,ql⟩:=Sp.cells hel
 have HC:=zh (hst.items x _ true hq hxr (Sy.small_iff.1 hsm).1 (Sy.small_iff.1 hsm).2)
 have HST:=zh hst
 have HW0:=zh hW0
 have HB4:=zh hb4
 have HVZ:=zh hVz
 have HVB:=zh hVb
 have HWB:=zh hW0b
 have HSB:=zh hb
 have HLT:=zh (hS b hb)
 have HS0:=zh hS
 have HE:=zh he
 have HT:=zh ht
 clear hst hel hb4 hW0 hVz hVb hW0b hxv hS hb hx hV hsm hxr he ht
 go_enter func48,ntmps48
 go_upto_region 1 with fail
 rw[HW0.out]
 go_upto_region 2 with (first | (go_at_call 73;refine HC.out.mono ?_;rintro e' w1 ⟨ol,lenl,capl,rfl,hg1,hl1,hb1⟩;have HG1:=zh hg1;have HL1:=zh hl1;have HB1:=zh hb1;clear hg1 hl1 hb1) | fail)
 have HG1:=zh (show (Sp.row (some (h::t))).holds (S1 (S1 S (w.heap.size+1)) (w.heap.size+2)) (.slice ol lenl capl) w1 from by rw[<-HE.out];exact HG1.out)
 have ht0:0<lenl:=by rw[HL1.out,HE.out];simp
 have ht0a:((lenl:Int)==0)=false:=by simp;omega
 have ht0b:¬lenl=0:=by omega
 obtain ⟨c1,off1,rfl,hel⟩:=Sp.nth (j:=0) HG1.out rfl
 obtain ⟨k3,m3,d3,st3,o3,len3,cap3,hxr,e0,e1,e2,e3,e4,el⟩:=Sp.cells hel
 simp only[Nat.zero_mul,Nat.add_zero] at e0 e1 e2 e3 e4
 have HIS:=zh (fun w=>zdr (w:=w) h _ Sy.defineB hxr)
 rw[hnm] at HIS
 clear hel hxr
 have hc1:decide ((lenl:Int) > 2)=false:=by have h1:=HL1.out;have h2:=HE.out;have h3:=HT.out;rw[h2,qzN] at h1;simp;omega
 have hc2:¬2<lenl:=by have h1:=HL1.out;have h2:=HE.out;have h3:=HT.out;rw[h2,qzN] at h1;omega
 have hc3:¬(2:Int)<lenl:=by omega
 go_wp2_with (first | (go_at_call 74;refine (HIS.out _).mono ?_;rintro e' w2 ⟨rfl,hb2⟩;have HB2:=zh hb2;clear hb2) | (go_at_call 30;refine (zaf _).mono ?_;rintro e' wN ⟨rfl,rfl⟩) | fail)
 exact ⟨rfl,rfl,(Turned.of_below (HWB.out.trans (HB1.out.mono HWB.out.size))).next (Turned.of_below HB2.out)⟩
theorem zke {S:Nat->Prop} {b n:Nat} {w V W:World} {x y:Dat} {k7 m7 d7 k8 m8 d8:Int} {s7 s8:ByteArray} {o7 o8:Option Addr} {len7 cap7 len8 cap8:Nat} (hb:b<w.heap.size) (hz:V.heap.size=w.heap.size+2) (hV:Below w.heap.size w V) (h:XS (S1 S (w.heap.size+1)) b (w.heap.size+2) n V W) (h7:RepD (hide W (S1 (S1 S (w.heap.size+1)) (w.heap.size+2))) W.heap.size x (.agg #[.int .i64 k7,.int .i64 m7,.int .i64 d7,.string s7,.slice o7 len7 cap7])) (h8:RepD (hide W (S1 (S1 S (w.heap.size+1)) (w.heap.size+2))) W.heap.size y (.agg #[.int .i64 k8,.int .i64 m8,.int .i64 d8,.string s8,.slice o8 len8 cap8])) :
  DefPost S b 0 (some (some ((x,y),n))) w (.returned (.tuple #[.agg #[.int .i64 k7,.int .i64 m7,.int .i64 d7,.string s7,.slice o7 len7 cap7],.agg #[.int .i64 k8,.int .i64 m8,.int .i64 d8,.string s8,.slice o8 len8 cap8],.bool true])) (set5 (set5 W (w.heap.size+1) (.int .i64 k7) (.int .i64 m7) (.int .i64 d7) (.string s7) (.slice o7 len7 cap7)) (w.heap.size+2) (.int .i64 k8) (.int .i64 m8) (.int .i64 d8) (.string s8) (.slice o8 len8 cap8)):=by
 have hs:Shown W (S1 (S1 S (w.heap.size+1)) (w.heap.size+2)) (set5 (set5 W (w.heap.size+1) (.int .i64 k7) (.int .i64 m7) (.int .i64 d7) (.string s7) (.slice o7 len7 cap7)) (w.heap.size+2) (.int .i64 k8) (.int .i64 m8) (.int .i64 d8) (.string s8) (.slice o8 len8 cap8)) S:=((Shown.five W (S:=(S1 (S1 S (w.heap.size+1)) (w.heap.size+2))) (.inl (.inr rfl)) _ _ _ _ _).trans (Shown.five _ (S:=(S1 (S1 S (w.heap.size+1)) (w.heap.size+2))) (.inr rfl) _ _ _ _ _)).trans (Shown.less _ fun _ _ h=>.inl (.inl h))
 have hz2:W.heap.size<=(set5 (set5 W (w.heap.size+1) (.int .i64 k7) (.int .i64 m7) (.int .i64 d7) (.string s7) (.slice o7 len7 cap7)) (w.heap.size+2) (.int .i64 k8) (.int .i64 m8) (.int .i64 d8) (.string s8) (.slice o8 len8 cap8)).heap.size:=by rw[zan,zan];exact qzL
 refine ⟨_,_,rfl,h7.shown hs hz2,h8.shown hs hz2,(((Turned.of_below hV).next h.ht).seq (zag _ _ _ _ _ _ _ _ (by omega))).seq (zag _ _ _ _ _ _ _ _ (by omega)),?_⟩
 exact (zam _ _ _ _ _ _ _ (by omega)).trans ((zam _ _ _ _ _ _ _ (by omega)).trans h.hx)
theorem zgK {L:Dat->List Dat->Sy.M Dat} (hL:LOk L) (fa fb:Dat) (S:Nat->Prop) (b n:Nat) (x:Dat) (xv:Value) (w:World) (hq:((Sy.split x).2.kind==4)=true) (h nm v:Dat) (t:List Dat) (he:(Sy.split x).1=h::nm::v::t) (hnm:Sy.isNm h Sy.defineB=true) (hk:(nm.kind==6)=true) (hlp:nm.l=[fa,fb]) (r:Option ((Dat × Dat) × Nat)) (hr:Sy.bnd (L fb (v::t)) (fun y=>Sy.ret (fa,y)) n=some r) (hS:∀c,S c->c<w.heap.size) (hb:S b) (hx:XP w b n) (hV:Env w) (hxv:RepD (hide w S) w.heap.size x xv) (hsm:Sy.small x=true) :
  Calls prog 48 #[.pointer (some ⟨b,0,none⟩),xv] w (DefPost S b n (some r) w):=by
 obtain ⟨k1,m1,d1,s1,o1,len1,cap1,rfl⟩:=zae hxv.unhide
 obtain ⟨V,hVz,⟨hVb,hW0b⟩,hst,hel,hb4⟩:=zee hS hb hx hV hxv
 obtain ⟨W0,hW0⟩:∃W0,((w.alloc (.cells #[.int .i64 k1,.int .i64 m1,.int .i64 d1,.string s1,.slice o1 len1 cap1] 26)).alloc (.cells #[.int .i64 0,.int .i64 0,.int .i64 0,.string ⟨#[]⟩,.slice none 0 0] 26)).alloc (.cells #[.int .i64 0,.int .i64 0,.int .i64 0,.string ⟨#[]⟩,.slice none 0 0] 26)=W0:=⟨_,rfl⟩
 rw[hW0] at hst hel hb4 hW0b
 obtain ⟨k,m,d,st,o,len,cap,hxr,q0,q1,q2,q3,q4,ql⟩:=Sp.cells hel
 have HC:=zh (hst.items x _ true hq hxr (Sy.small_iff.1 hsm).1 (Sy.small_iff.1 hsm).2)
 have HST:=zh hst
 have HW0:=zh hW0
 have HB4:=zh hb4
 have HVZ:=zh hVz
 have HVB:=zh hVb
 have HWB:=zh hW0b
 have HSB:=zh hb
 have HLT:=zh (hS b hb)
 have HS0:=zh hS
 have HE:=zh he
 have HK:=zh hk
 have HR:=zh hr
 have HL:=zh hL
 have HLP:=zh hlp
 clear hst hel hb4 hW0 hVz hVb hW0b hxv hS hb hx hV hsm hxr he hk hr hL hlp
 go_enter func48,ntmps48
 go_upto_region 1 with fail
 rw[HW0.out]
 go_upto_region 2 with (first | (go_at_call 73;refine HC.out.mono ?_;rintro e' w1 ⟨ol,lenl,capl,rfl,hg1,hl1,hb1⟩;have HG1:=zh hg1;have HL1:=zh hl1;have HB1:=zh hb1;clear hg1 hl1 hb1) | fail)
 have HG1:=zh (show (Sp.row (some (h::nm::v::t))).holds (S1 (S1 S (w.heap.size+1)) (w.heap.size+2)) (.slice ol lenl capl) w1 from by rw[<-HE.out];exact HG1.out)
 have ht0:0<lenl:=by rw[HL1.out,HE.out];simp
 have ht0a:((lenl:Int)==0)=false:=by simp;omega
 have ht0b:¬lenl=0:=by omega
 obtain ⟨c1,off1,rfl,hel⟩:=Sp.nth (j:=0) HG1.out rfl
 obtain ⟨k3,m3,d3,st3,o3,len3,cap3,hxr,e0,e1,e2,e3,e4,el⟩:=Sp.cells hel
 simp only[Nat.zero_mul,Nat.add_zero] at e0 e1 e2 e3 e4
 have HIS:=zh (fun w=>zdr (w:=w) h _ Sy.defineB hxr)
 rw[hnm] at HIS
 clear hel hxr
 have hc1:decide ((lenl:Int) > 2)=true:=by have h1:=HL1.out;have h2:=HE.out;rw[h2] at h1;simp only[qzN] at h1;simp;omega
 have hc2:2<lenl:=by have h1:=HL1.out;have h2:=HE.out;rw[h2] at h1;simp only[qzN] at h1;omega
 have hc3:(2:Int)<lenl:=by omega
 have hc4:1<lenl:=by omega
 have hc5:(1:Int)<lenl:=by omega
 go_upto_region 5 with (first | (go_at_call 74;refine (HIS.out _).mono ?_;rintro e' w2 ⟨rfl,hb2⟩;have HB2:=zh hb2;clear hb2) | (go_at_call 30;refine (zah _).mono ?_;rintro e' wN ⟨⟨vN,rfl⟩,rfl⟩) | fail)
 have jj:=zh ((HST.out.below HB1.out).below HB2.out)
 have HG2:=zh (Sp.below HG1.out HB2.out)
 have HB42:=zh (show Box5 wN (w.heap.size+1) 26 (.int .i64 0) (.int .i64 0) (.int .i64 0) (.string ⟨#[]⟩) (.slice none 0 0) from (HB2.out.block _ (qzM HB4.out.lt HB1.out.size)).trans ((HB1.out.block _ HB4.out.lt).trans HB4.out))
 clear e0 e1 e2 e3 e4 el
 refine zad (dr:=false) (S:=(S1 S (w.heap.size+1))) (b:=b) (H:=(w.heap.size+2)) 3 [] (fun j=>[n].getD j 0) [.row (some (h::nm::v::t)),.elm (some (nm)),.dat (some (nm))] jj.out (by show zB _ _ 3 65=true;kernel_rfl) (by decide) (by decide) (by kernel_rfl) ?hops ?hcall ?hend
 case hops=>
  intro i o8 hi hip ho a8 w8 hdf jd ht8 jb ja
  match i,hi,hip with
  | 0,_,_=>cases ho;exact zac rfl (Sp.at ja 7 (by kernel_rfl) (HG2.out) (.inl jj.out.own) ht8)
  | 1,_,_=>cases ho;exact zas (k:=1) rfl (Sp.dep jb 0 35 (by kernel_rfl)) rfl (by decide)
  | 2,_,_=>cases ho;exact zal rfl (Sp.dep jb 1 36 (by kernel_rfl))
  | i+3,hi,_=>exact absurd hi (by omega)
 case hcall=>
  intro j i o8 hj ho a8 w8 hdf jc ht8 jb jg ja
  simp at hj
 case hend=>
  intro a8 w8 hdf hsz jc ht8 hval ja
  obtain ⟨x8,hx8,hr8⟩:∃x8,some (nm)=some x8∧RepD (hide w8 (S1 (S1 S (w.heap.size+1)) (w.heap.size+2))) w8.heap.size x8 (a8.tmps.getD 37 undef):=hval 2 _ 37 (by omega) rfl rfl
  have hx9:some (nm)=some x8:=hx8
  obtain rfl:=Option.some.inj hx9
  obtain ⟨f8,ha,hf8⟩:=zaq [false,false,false,false,false,false,false,false,false,false,false,false,false,false,false,false,false,false,false,false,false,false,false,false,false,false,false,false,false,false,false,false,false,false,false,true,true,true] (by kernel_rfl) hdf hsz ja
  rw[<-hf8] at hr8
  subst ha
  obtain ⟨k8,m8,d8,s8,o8,len8,cap8,h8⟩:=zae hr8.unhide
  rw[h8] at hr8
  obtain ⟨W8,hW8⟩:∃W8,w8.alloc (.cells #[.int .i64 k8,.int .i64 m8,.int .i64 d8,.string s8,.slice o8 len8 cap8] 26)=W8:=⟨_,rfl⟩
  obtain ⟨hst9,hel9,ht9⟩:=(show XS (S1 S (w.heap.size+1)) b (w.heap.size+2) n V w8 from jc).stored (Turned.refl _ _) jc.hx hr8 hW8
  have HST5:=zh hst9
  have HEL5:=zh hel9
  have HW8:=zh hW8
  have HG5:=zh (jj.out.keep (HG2.out) (ht8.next ht9))
  have HB45:=zh (show Box5 W8 (w.heap.size+1) 26 (.int .i64 0) (.int .i64 0) (.int .i64 0) (.string ⟨#[]⟩) (.slice none 0 0) from ((ht8.next ht9).block _ HB42.out.lt (by have:=HLT.out;omega)).trans HB42.out)
  clear hval ja hf8 hdf hsz hr8 jc ht8 hx8 hx9 hst9 hel9 ht9 hW8
  simp only[spellH,List.drop_succ_cons,List.drop_zero,h8]
  go_upto_region 6 with fail
  rw[HW8.out]
  clear HW8
  obtain ⟨kk,mk,dk,sk,ok,lk,ck,hkr,g0,g1,g2,g3,g4,gl⟩:=Sp.cells HEL5.out
  have hk6:(kk==6)=true:=by rw[<-zaE hkr,HK.out]
  clear hkr
  go_upto_region 7 with fail
  clear g0 g1 g2 g3 g4 gl hk6
  obtain ⟨p1,hp1,hn1,hk⟩:=Sy.bnd_split HR.out
  have HP1:=zh hp1
  have jh:=zh hn1
  have HRF:=zh (show ∀y n7,p1=some (y,n7)->r=some ((fa,y),n7) from fun y n7 h=>Sy.ret_split (hk y n7 h))
  clear hp1 hn1 hk
  refine zad (dr:=true) (S:=(S1 S (w.heap.size+1))) (b:=b) (H:=(w.heap.size+2)) 12 [11] (fun j=>[n,cnt p1].getD j 0) [.sla (some ([fa,fb])),.row (some ([fa,fb])),.elm (some (fa)),.dat (some (fa)),.val (.pointer (some ⟨b,0,none⟩)),.sla (some ([fa,fb])),.row (some ([fa,fb])),.elm (some (fb)),.dat (some (fb)),.row (some (h::nm::v::t)),.row (some (v::t)),.dat (p1.map (·.1))] HST5.out (by show zB _ _ 12 65=true;kernel_rfl) (by decide) (by decide) (by kernel_rfl) ?hops ?hcall ?hend
  case hops=>
   intro i o8 hi hip ho a8 w8 hdf jd ht8 jb ja
   match i,hi,hip with
   | 0,_,_=>cases ho;exact zeT (x:=nm) HLP.out rfl (Sp.at ja 9 (by kernel_rfl) (HEL5.out) (.inl HST5.out.own) ht8)
   | 1,_,_=>cases ho;exact zhH rfl (Sp.dep jb 0 41 (by kernel_rfl))
   | 2,_,_=>cases ho;exact zas (k:=0) rfl (Sp.dep jb 1 42 (by kernel_rfl)) rfl (by decide)
   | 3,_,_=>cases ho;exact zal rfl (Sp.dep jb 2 43 (by kernel_rfl))
   | 4,_,_=>cases ho;exact zac rfl (Sp.at ja 0 (by kernel_rfl) (rfl) (.inl HST5.out.own) ht8)
   | 5,_,_=>cases ho;exact zeT (x:=nm) HLP.out rfl (Sp.at ja 9 (by kernel_rfl) (HEL5.out) (.inl HST5.out.own) ht8)
   | 6,_,_=>cases ho;exact zhH rfl (Sp.dep jb 5 46 (by kernel_rfl))
   | 7,_,_=>cases ho;exact zas (k:=1) rfl (Sp.dep jb 6 47 (by kernel_rfl)) rfl (by decide)
   | 8,_,_=>cases ho;exact zal rfl (Sp.dep jb 7 48 (by kernel_rfl))
   | 9,_,_=>cases ho;exact zac rfl (Sp.at ja 7 (by kernel_rfl) (HG5.out) (.inl HST5.out.own) ht8)
   | 10,_,_=>cases ho;exact zaD (k:=2) rfl (Sp.dep jb 9 50 (by kernel_rfl)) (by decide) (by simp) (by decide)
   | 11,_,h=>exact absurd (by decide) h
   | i+12,hi,_=>exact absurd hi (by omega)
  case hcall=>
   intro j i o8 hj ho a8 w8 hdf jc ht8 jb jg ja
   match j,hj with
   | 0,hj=>
    cases hj;cases ho
    have hv0:a8.tmps.getD 45 undef=.pointer (some ⟨b,0,none⟩):=(Sp.dep jb 4 45 (by kernel_rfl))
    refine zaI (p:=p1) (vals:=#[.pointer (some ⟨b,0,none⟩),a8.tmps.getD 49 undef,a8.tmps.getD 51 undef]) rfl (by simp only[List.map_toArray,List.map_cons,List.map_nil];rw[<-hv0];rfl) (fun _ _=>rfl) (HL.out (S1 (S1 S (w.heap.size+1)) (w.heap.size+2)) b _ fb _ (v::t) _ w8 p1 HP1.out jc.lt (.inl jc.own) jc.hx jc.hE (Sp.datum (Sp.dep jb 8 49 (by kernel_rfl))) (Sp.data (Sp.dep jb 10 51 (by kernel_rfl)))) fun hp w9 ht9=>?_
    have hrn:=jh.out hp
    subst hrn
    exact ⟨hdf,rfl,((Turned.of_below HVB.out).next jc.ht).next ht9⟩
   | _+1,hj=>simp at hj
  case hend=>
   intro a8 w8 hdf hsz jc ht8 hval ja
   obtain ⟨y1,n1,hp1,hr8⟩:=Sp.got (hval 11 _ 52 (by omega) rfl rfl)
   have hr7:RepD (hide w8 (S1 (S1 S (w.heap.size+1)) (w.heap.size+2))) w8.heap.size (fa) (a8.tmps.getD 44 undef):=Sp.datum (hval 3 _ 44 (by omega) rfl rfl)
   subst hp1
   obtain ⟨f8,ha,hf8⟩:=zaq [false,false,false,false,false,false,false,false,false,false,false,false,false,false,false,false,false,false,false,false,false,false,false,false,false,false,false,false,false,false,false,false,false,false,false,false,false,false,false,false,false,true,true,true,true,true,true,true,true,true,true,true,true] (by kernel_rfl) hdf hsz ja
   rw[<-hf8] at hr8
   rw[<-hf8] at hr7
   subst ha
   obtain ⟨k8,m8,d8,s8,o8,len8,cap8,h8⟩:=zae hr8.unhide
   rw[h8] at hr8
   obtain ⟨k7,m7,d7,s7,o7,len7,cap7,h7⟩:=zae hr7.unhide
   rw[h7] at hr7
   have hz4:Box5 w8 (w.heap.size+1) 26 (.int .i64 0) (.int .i64 0) (.int .i64 0) (.string ⟨#[]⟩) (.slice none 0 0):=(ht8.block _ HB45.out.lt (by have:=HLT.out;omega)).trans HB45.out
   obtain ⟨a0,a1,a2,a3,a4⟩:=hz4.cells
   obtain ⟨f0,f1,f2,f3,f4⟩:=hz4.free
   have al:=hz4.lt
   obtain ⟨p0,p1,p2,p3,p4⟩:=jc.box.cells
   obtain ⟨z0,z1,z2,z3,z4⟩:=jc.box.free
   have pl:=jc.box.lt
   have HZ4:=zh hz4
   have HX8:=zh (show XS (S1 S (w.heap.size+1)) b (w.heap.size+2) n1 V w8 from jc)
   have H8:=zh hr8
   have H7:=zh hr7
   have HRN:=zh (HRF.out _ _ rfl)
   clear hval ja hf8 hdf hsz hr8 hr7 jc ht8 hz4
   simp only[spellH,List.drop_succ_cons,List.drop_zero,h8,h7]
   go_wp2_with fail
   have hy4:=HZ4.out.set (.int .i64 k7) (.int .i64 m7) (.int .i64 d7) (.string s7) (.slice o7 len7 cap7)
   have hy5:=(show Box5 (set5 w8 (w.heap.size+1) (.int .i64 k7) (.int .i64 m7) (.int .i64 d7) (.string s7) (.slice o7 len7 cap7)) (w.heap.size+2) 26 (.int .i64 0) (.int .i64 0) (.int .i64 0) (.string ⟨#[]⟩) (.slice none 0 0) from (zam w8 _ _ _ _ _ _ (by omega)).trans HX8.out.box).set (.int .i64 k8) (.int .i64 m8) (.int .i64 d8) (.string s8) (.slice o8 len8 cap8)
   have hx4:=(zam (set5 w8 (w.heap.size+1) (.int .i64 k7) (.int .i64 m7) (.int .i64 d7) (.string s7) (.slice o7 len7 cap7)) (w.heap.size+2) (.int .i64 k8) (.int .i64 m8) (.int .i64 d8) (.string s8) (.slice o8 len8 cap8) (show w.heap.size+1≠(w.heap.size+2) by omega)).trans hy4
   obtain ⟨r0,r1,r2,r3,r4⟩:=hy5.cells
   obtain ⟨t0,t1,t2,t3,t4⟩:=(show Box5 _ _ _ _ _ _ _ _ from hx4).cells
   refine bodyPost_ret (v:=.tuple #[.agg #[.int .i64 k7,.int .i64 m7,.int .i64 d7,.string s7,.slice o7 len7 cap7],.agg #[.int .i64 k8,.int .i64 m8,.int .i64 d8,.string s8,.slice o8 len8 cap8],.bool true]) (by simp[results,results48,go_sem,r0,r1,r2,r3,r4,t0,t1,t2,t3,t4]) rfl ?_
   rw[HRN.out]
   exact zke HLT.out HVZ.out HVB.out HX8.out H7.out H8.out
theorem zg5 {E:Dat->Sy.M Dat} (hE:EOk E) (S:Nat->Prop) (b n:Nat) (x:Dat) (xv:Value) (w:World) (hq:((Sy.split x).2.kind==4)=true) (h nm v:Dat) (t:List Dat) (he:(Sy.split x).1=h::nm::v::t) (hnm:Sy.isNm h Sy.defineB=true) (hk:(nm.kind==6)=false) (ht:t=[]) (r:Option ((Dat × Dat) × Nat)) (hr:Sy.bnd (E v) (fun y=>Sy.ret (nm,y)) n=some r) (hS:∀c,S c->c<w.heap.size) (hb:S b) (hx:XP w b n) (hV:Env w) (hxv:RepD (hide w S) w.heap.size x xv) (hsm:Sy.small x=true) :
  Calls prog 48 #[.pointer (some ⟨b,0,none⟩),xv] w (DefPost S b n (some r) w):=by
 obtain ⟨k1,m1,d1,s1,o1,len1,cap1,rfl⟩:=zae hxv.unhide
 obtain ⟨V,hVz,⟨hVb,hW0b⟩,hst,hel,hb4⟩:=zee hS hb hx hV hxv
 obtain ⟨W0,hW0⟩:∃W0,((w.alloc (.cells #[.int .i64 k1,.int .i64 m1,.int .i64 d1,.string s1,.slice o1 len1 cap1] 26)).alloc (.cells #[.int .i64 0,.int .i64 0,.int .i64 0,.string ⟨#[]⟩,.slice none 0 0] 26)).alloc (.cells #[.int .i64 0,.int .i64 0,.int .i64 0,.string ⟨#[]⟩,.slice none 0 0] 26)=W0:=⟨_,rfl⟩
 rw[hW0] at hst hel hb4 hW0b
 obtain ⟨k,m,d,st,o,len,cap,hxr,q0,q1,q2,q3,q4,ql⟩:=Sp.cells hel
 have HC:=zh (hst.items x _ true hq hxr (Sy.small_iff.1 hsm).1 (Sy.small_iff.1 hsm).2)
 have HST:=zh hst
 have HW0:=zh hW0
 have HB4:=zh hb4
 have HVZ:=zh hVz
 have HVB:=zh hVb
 have HWB:=zh hW0b
 have HSB:=zh hb
 have HLT:=zh (hS b hb)
 have HS0:=zh hS
 have HE0:=zh he
 have HK:=zh hk
 have HR:=zh hr
 have HE:=zh hE
 clear hst hel hb4 hW0 hVz hVb hW0b hxv hS hb hx hV hsm hxr he hk hr hE
 go_enter func48,ntmps48
 go_upto_region 1 with fail
 rw[HW0.out]
 go_upto_region 2 with (first | (go_at_call 73;refine HC.out.mono ?_;rintro e' w1 ⟨ol,lenl,capl,rfl,hg1,hl1,hb1⟩;have HG1:=zh hg1;have HL1:=zh hl1;have HB1:=zh hb1;clear hg1 hl1 hb1) | fail)
 have HG1:=zh (show (Sp.row (some (h::nm::v::t))).holds (S1 (S1 S (w.heap.size+1)) (w.heap.size+2)) (.slice ol lenl capl) w1 from by rw[<-HE0.out];exact HG1.out)
 have ht0:0<lenl:=by rw[HL1.out,HE0.out];simp
 have ht0a:((lenl:Int)==0)=false:=by simp;omega
 have ht0b:¬lenl=0:=by omega
 obtain ⟨c1,off1,rfl,hel⟩:=Sp.nth (j:=0) HG1.out rfl
 obtain ⟨k3,m3,d3,st3,o3,len3,cap3,hxr,e0,e1,e2,e3,e4,el⟩:=Sp.cells hel
 simp only[Nat.zero_mul,Nat.add_zero] at e0 e1 e2 e3 e4
 have HIS:=zh (fun w=>zdr (w:=w) h _ Sy.defineB hxr)
 rw[hnm] at HIS
 clear hel hxr
 have hc1:decide ((lenl:Int) > 2)=true:=by have h1:=HL1.out;have h2:=HE0.out;rw[h2] at h1;simp only[qzN] at h1;simp;omega
 have hc2:2<lenl:=by have h1:=HL1.out;have h2:=HE0.out;rw[h2] at h1;simp only[qzN] at h1;omega
 have hc3:(2:Int)<lenl:=by omega
 have hc4:1<lenl:=by omega
 have hc5:(1:Int)<lenl:=by omega
 go_upto_region 5 with (first | (go_at_call 74;refine (HIS.out _).mono ?_;rintro e' w2 ⟨rfl,hb2⟩;have HB2:=zh hb2;clear hb2) | (go_at_call 30;refine (zah _).mono ?_;rintro e' wN ⟨⟨vN,rfl⟩,rfl⟩) | fail)
 have jj:=zh ((HST.out.below HB1.out).below HB2.out)
 have HG2:=zh (Sp.below HG1.out HB2.out)
 have HB42:=zh (show Box5 wN (w.heap.size+1) 26 (.int .i64 0) (.int .i64 0) (.int .i64 0) (.string ⟨#[]⟩) (.slice none 0 0) from (HB2.out.block _ (qzM HB4.out.lt HB1.out.size)).trans ((HB1.out.block _ HB4.out.lt).trans HB4.out))
 clear e0 e1 e2 e3 e4 el
 refine zad (dr:=false) (S:=(S1 S (w.heap.size+1))) (b:=b) (H:=(w.heap.size+2)) 3 [] (fun j=>[n].getD j 0) [.row (some (h::nm::v::t)),.elm (some (nm)),.dat (some (nm))] jj.out (by show zB _ _ 3 65=true;kernel_rfl) (by decide) (by decide) (by kernel_rfl) ?hops ?hcall ?hend
 case hops=>
  intro i o8 hi hip ho a8 w8 hdf jd ht8 jb ja
  match i,hi,hip with
  | 0,_,_=>cases ho;exact zac rfl (Sp.at ja 7 (by kernel_rfl) (HG2.out) (.inl jj.out.own) ht8)
  | 1,_,_=>cases ho;exact zas (k:=1) rfl (Sp.dep jb 0 35 (by kernel_rfl)) rfl (by decide)
  | 2,_,_=>cases ho;exact zal rfl (Sp.dep jb 1 36 (by kernel_rfl))
  | i+3,hi,_=>exact absurd hi (by omega)
 case hcall=>
  intro j i o8 hj ho a8 w8 hdf jc ht8 jb jg ja
  simp at hj
 case hend=>
  intro a8 w8 hdf hsz jc ht8 hval ja
  obtain ⟨x8,hx8,hr8⟩:∃x8,some (nm)=some x8∧RepD (hide w8 (S1 (S1 S (w.heap.size+1)) (w.heap.size+2))) w8.heap.size x8 (a8.tmps.getD 37 undef):=hval 2 _ 37 (by omega) rfl rfl
  have hx9:some (nm)=some x8:=hx8
  obtain rfl:=Option.some.inj hx9
  obtain ⟨f8,ha,hf8⟩:=zaq [false,false,false,false,false,false,false,false,false,false,false,false,false,false,false,false,false,false,false,false,false,false,false,false,false,false,false,false,false,false,false,false,false,false,false,true,true,true] (by kernel_rfl) hdf hsz ja
  rw[<-hf8] at hr8
  subst ha
  obtain ⟨k8,m8,d8,s8,o8,len8,cap8,h8⟩:=zae hr8.unhide
  rw[h8] at hr8
  obtain ⟨W8,hW8⟩:∃W8,w8.alloc (.cells #[.int .i64 k8,.int .i64 m8,.int .i64 d8,.string s8,.slice o8 len8 cap8] 26)=W8:=⟨_,rfl⟩
  obtain ⟨hst9,hel9,ht9⟩:=(show XS (S1 S (w.heap.size+1)) b (w.heap.size+2) n V w8 from jc).stored (Turned.refl _ _) jc.hx hr8 hW8
  have HST5:=zh hst9
  have HEL5:=zh hel9
  have HW8:=zh hW8
  have HG5:=zh (jj.out.keep (HG2.out) (ht8.next ht9))
  have HB45:=zh (show Box5 W8 (w.heap.size+1) 26 (.int .i64 0) (.int .i64 0) (.int .i64 0) (.string ⟨#[]⟩) (.slice none 0 0) from ((ht8.next ht9).block _ HB42.out.lt (by have:=HLT.out;omega)).trans HB42.out)
  clear hval ja hf8 hdf hsz hr8 jc ht8 hx8 hx9 hst9 hel9 ht9 hW8
  simp only[spellH,List.drop_succ_cons,List.drop_zero,h8]
  go_upto_region 6 with fail
  rw[HW8.out]
  clear HW8
  obtain ⟨kk,mk,dk,sk,ok,lk,ck,hkr,g0,g1,g2,g3,g4,gl⟩:=Sp.cells HEL5.out
  have hk6:(kk==6)=false:=by rw[<-zaE hkr,HK.out]
  clear hkr
  subst ht
  have hd1:lenl=3:=by rw[HL1.out,HE0.out];rfl
  subst hd1
  go_upto_region 9 with (first | (go_at_call 30;refine (zah _).mono ?_;rintro e' wN ⟨⟨vN,rfl⟩,rfl⟩) | fail)
  clear g0 g1 g2 g3 g4 gl hk6
  obtain ⟨p1,hp1,hn1,hk⟩:=Sy.bnd_split HR.out
  have HP1:=zh hp1
  have jh:=zh hn1
  have HRF:=zh (show ∀y n7,p1=some (y,n7)->r=some ((nm,y),n7) from fun y n7 h=>Sy.ret_split (hk y n7 h))
  clear hp1 hn1 hk
  refine zad (dr:=true) (S:=(S1 S (w.heap.size+1))) (b:=b) (H:=(w.heap.size+2)) 8 [7] (fun j=>[n,cnt p1].getD j 0) [.row (some (h::nm::v::[])),.elm (some (nm)),.dat (some (nm)),.val (.pointer (some ⟨b,0,none⟩)),.row (some (h::nm::v::[])),.elm (some (v)),.dat (some (v)),.dat (p1.map (·.1))] HST5.out (by show zB _ _ 8 65=true;kernel_rfl) (by decide) (by decide) (by kernel_rfl) ?hops ?hcall ?hend
  case hops=>
   intro i o8 hi hip ho a8 w8 hdf jd ht8 jb ja
   match i,hi,hip with
   | 0,_,_=>cases ho;exact zac rfl (Sp.at ja 7 (by kernel_rfl) (HG5.out) (.inl HST5.out.own) ht8)
   | 1,_,_=>cases ho;exact zas (k:=1) rfl (Sp.dep jb 0 57 (by kernel_rfl)) rfl (by decide)
   | 2,_,_=>cases ho;exact zal rfl (Sp.dep jb 1 58 (by kernel_rfl))
   | 3,_,_=>cases ho;exact zac rfl (Sp.at ja 0 (by kernel_rfl) (rfl) (.inl HST5.out.own) ht8)
   | 4,_,_=>cases ho;exact zac rfl (Sp.at ja 7 (by kernel_rfl) (HG5.out) (.inl HST5.out.own) ht8)
   | 5,_,_=>cases ho;exact zas (k:=2) rfl (Sp.dep jb 4 61 (by kernel_rfl)) rfl (by decide)
   | 6,_,_=>cases ho;exact zal rfl (Sp.dep jb 5 62 (by kernel_rfl))
   | 7,_,h=>exact absurd (by decide) h
   | i+8,hi,_=>exact absurd hi (by omega)
  case hcall=>
   intro j i o8 hj ho a8 w8 hdf jc ht8 jb jg ja
   match j,hj with
   | 0,hj=>
    cases hj;cases ho
    have hv0:a8.tmps.getD 60 undef=.pointer (some ⟨b,0,none⟩):=(Sp.dep jb 3 60 (by kernel_rfl))
    refine zaI (p:=p1) (vals:=#[.pointer (some ⟨b,0,none⟩),a8.tmps.getD 63 undef]) rfl (by simp only[List.map_toArray,List.map_cons,List.map_nil];rw[<-hv0];rfl) (fun _ _=>rfl) (HE.out (S1 (S1 S (w.heap.size+1)) (w.heap.size+2)) b _ v _ w8 p1 HP1.out jc.lt (.inl jc.own) jc.hx jc.hE (Sp.datum (Sp.dep jb 6 63 (by kernel_rfl)))) fun hp w9 ht9=>?_
    have hrn:=jh.out hp
    subst hrn
    exact ⟨hdf,rfl,((Turned.of_below HVB.out).next jc.ht).next ht9⟩
   | _+1,hj=>simp at hj
  case hend=>
   intro a8 w8 hdf hsz jc ht8 hval ja
   obtain ⟨y1,n1,hp1,hr8⟩:=Sp.got (hval 7 _ 64 (by omega) rfl rfl)
   have hr7:RepD (hide w8 (S1 (S1 S (w.heap.size+1)) (w.heap.size+2))) w8.heap.size (nm) (a8.tmps.getD 59 undef):=Sp.datum (hval 2 _ 59 (by omega) rfl rfl)
   subst hp1
   obtain ⟨f8,ha,hf8⟩:=zaq [false,false,false,false,false,false,false,false,false,false,false,false,false,false,false,false,false,false,false,false,false,false,false,false,false,false,false,false,false,false,false,false,false,false,false,false,false,false,false,false,false,false,false,false,false,false,false,false,false,false,false,false,false,false,false,false,false,true,true,true,true,true,true,true,true] (by kernel_rfl) hdf hsz ja
   rw[<-hf8] at hr8
   rw[<-hf8] at hr7
   subst ha
   obtain ⟨k8,m8,d8,s8,o8,len8,cap8,h8⟩:=zae hr8.unhide
   rw[h8] at hr8
   obtain ⟨k7,m7,d7,s7,o7,len7,cap7,h7⟩:=zae hr7.unhide
   rw[h7] at hr7
   have hz4:Box5 w8 (w.heap.size+1) 26 (.int .i64 0) (.int .i64 0) (.int .i64 0) (.string ⟨#[]⟩) (.slice none 0 0):=(ht8.block _ HB45.out.lt (by have:=HLT.out;omega)).trans HB45.out
   obtain ⟨a0,a1,a2,a3,a4⟩:=hz4.cells
   obtain ⟨f0,f1,f2,f3,f4⟩:=hz4.free
   have al:=hz4.lt
   obtain ⟨p0,p1,p2,p3,p4⟩:=jc.box.cells
   obtain ⟨z0,z1,z2,z3,z4⟩:=jc.box.free
   have pl:=jc.box.lt
   have HZ4:=zh hz4
   have HX8:=zh (show XS (S1 S (w.heap.size+1)) b (w.heap.size+2) n1 V w8 from jc)
   have H8:=zh hr8
   have H7:=zh hr7
   have HRN:=zh (HRF.out _ _ rfl)
   clear hval ja hf8 hdf hsz hr8 hr7 jc ht8 hz4
   simp only[spellH,List.drop_succ_cons,List.drop_zero,h8,h7]
   go_wp2_with fail
   have hy4:=HZ4.out.set (.int .i64 k7) (.int .i64 m7) (.int .i64 d7) (.string s7) (.slice o7 len7 cap7)
   have hy5:=(show Box5 (set5 w8 (w.heap.size+1) (.int .i64 k7) (.int .i64 m7) (.int .i64 d7) (.string s7) (.slice o7 len7 cap7)) (w.heap.size+2) 26 (.int .i64 0) (.int .i64 0) (.int .i64 0) (.string ⟨#[]⟩) (.slice none 0 0) from (zam w8 _ _ _ _ _ _ (by omega)).trans HX8.out.box).set (.int .i64 k8) (.int .i64 m8) (.int .i64 d8) (.string s8) (.slice o8 len8 cap8)
   have hx4:=(zam (set5 w8 (w.heap.size+1) (.int .i64 k7) (.int .i64 m7) (.int .i64 d7) (.string s7) (.slice o7 len7 cap7)) (w.heap.size+2) (.int .i64 k8) (.int .i64 m8) (.int .i64 d8) (.string s8) (.slice o8 len8 cap8) (show w.heap.size+1≠(w.heap.size+2) by omega)).trans hy4
   obtain ⟨r0,r1,r2,r3,r4⟩:=hy5.cells
   obtain ⟨t0,t1,t2,t3,t4⟩:=(show Box5 _ _ _ _ _ _ _ _ from hx4).cells
   refine bodyPost_ret (v:=.tuple #[.agg #[.int .i64 k7,.int .i64 m7,.int .i64 d7,.string s7,.slice o7 len7 cap7],.agg #[.int .i64 k8,.int .i64 m8,.int .i64 d8,.string s8,.slice o8 len8 cap8],.bool true]) (by simp[results,results48,go_sem,r0,r1,r2,r3,r4,t0,t1,t2,t3,t4]) rfl ?_
   rw[HRN.out]
   exact zke HLT.out HVZ.out HVB.out HX8.out H7.out H8.out
theorem zfT (S:Nat->Prop) (b n:Nat) (x:Dat) (xv:Value) (w:World) (hq:((Sy.split x).2.kind==4)=true) (h nm v:Dat) (t:List Dat) (he:(Sy.split x).1=h::nm::v::t) (hnm:Sy.isNm h Sy.defineB=true) (hk:(nm.kind==6)=false) (ht:t≠[]) (hS:∀c,S c->c<w.heap.size) (hb:S b) (hx:XP w b n) (hV:Env w) (hxv:RepD (hide w S) w.heap.size x xv) (hsm:Sy.small x=true) :
  Calls prog 48 #[.pointer (some ⟨b,0,none⟩),xv] w (DefPost S b n (some none) w):=by
 obtain ⟨k1,m1,d1,s1,o1,len1,cap1,rfl⟩:=zae hxv.unhide
 obtain ⟨V,hVz,⟨hVb,hW0b⟩,hst,hel,hb4⟩:=zee hS hb hx hV hxv
 obtain ⟨W0,hW0⟩:∃W0,((w.alloc (.cells #[.int .i64 k1,.int .i64 m1,.int .i64 d1,.string s1,.slice o1 len1 cap1] 26)).alloc (.cells #[.int .i64 0,.int .i64 0,.int .i64 0,.string ⟨#[]⟩,.slice none 0 0] 26)).alloc (.cells #[.int .i64 0,.int .i64 0,.int .i64 0,.string ⟨#[]⟩,.slice none 0 0] 26)=W0:=⟨_,rfl⟩
 rw[hW0] at hst hel hb4 hW0b
 obtain ⟨k,m,d,st,o,len,cap,hxr,q0,q1,q2,q3,q4,ql⟩:=Sp.cells hel
 have HC:=zh (hst.items x _ true hq hxr (Sy.small_iff.1 hsm).1 (Sy.small_iff.1 hsm).2)
 have HST:=zh hst
 have HW0:=zh hW0
 have HB4:=zh hb4
 have HVZ:=zh hVz
 have HVB:=zh hVb
 have HWB:=zh hW0b
 have HSB:=zh hb
 have HLT:=zh (hS b hb)
 have HS0:=zh hS
 have HE:=zh he
 have HK:=zh hk
 have HT:=zh ht
 clear hst hel hb4 hW0 hVz hVb hW0b hxv hS hb hx hV hsm hxr he hk ht
 go_enter func48,ntmps48
 go_upto_region 1 with fail
 rw[HW0.out]
 go_upto_region 2 with (first | (go_at_call 73;refine HC.out.mono ?_;rintro e' w1 ⟨ol,lenl,capl,rfl,hg1,hl1,hb1⟩;have HG1:=zh hg1;have HL1:=zh hl1;have HB1:=zh hb1;clear hg1 hl1 hb1) | fail)
 have HG1:=zh (show (Sp.row (some (h::nm::v::t))).holds (S1 (S1 S (w.heap.size+1)) (w.heap.size+2)) (.slice ol lenl capl) w1 from by rw[<-HE.out];exact HG1.out)
 have ht0:0<lenl:=by rw[HL1.out,HE.out];simp
 have ht0a:((lenl:Int)==0)=false:=by simp;omega
 have ht0b:¬lenl=0:=by omega
 obtain ⟨c1,off1,rfl,hel⟩:=Sp.nth (j:=0) HG1.out rfl
 obtain ⟨k3,m3,d3,st3,o3,len3,cap3,hxr,e0,e1,e2,e3,e4,el⟩:=Sp.cells hel
 simp only[Nat.zero_mul,Nat.add_zero] at e0 e1 e2 e3 e4
 have HIS:=zh (fun w=>zdr (w:=w) h _ Sy.defineB hxr)
 rw[hnm] at HIS
 clear hel hxr
 have hc1:decide ((lenl:Int) > 2)=true:=by have h1:=HL1.out;have h2:=HE.out;rw[h2] at h1;simp only[qzN] at h1;simp;omega
 have hc2:2<lenl:=by have h1:=HL1.out;have h2:=HE.out;rw[h2] at h1;simp only[qzN] at h1;omega
 have hc3:(2:Int)<lenl:=by omega
 have hc4:1<lenl:=by omega
 have hc5:(1:Int)<lenl:=by omega
 go_upto_region 5 with (first | (go_at_call 74;refine (HIS.out _).mono ?_;rintro e' w2 ⟨rfl,hb2⟩;have HB2:=zh hb2;clear hb2) | (go_at_call 30;refine (zah _).mono ?_;rintro e' wN ⟨⟨vN,rfl⟩,rfl⟩) | fail)
 have jj:=zh ((HST.out.below HB1.out).below HB2.out)
 have HG2:=zh (Sp.below HG1.out HB2.out)
 have HB42:=zh (show Box5 wN (w.heap.size+1) 26 (.int .i64 0) (.int .i64 0) (.int .i64 0) (.string ⟨#[]⟩) (.slice none 0 0) from (HB2.out.block _ (qzM HB4.out.lt HB1.out.size)).trans ((HB1.out.block _ HB4.out.lt).trans HB4.out))
 clear e0 e1 e2 e3 e4 el
 refine zad (dr:=false) (S:=(S1 S (w.heap.size+1))) (b:=b) (H:=(w.heap.size+2)) 3 [] (fun j=>[n].getD j 0) [.row (some (h::nm::v::t)),.elm (some (nm)),.dat (some (nm))] jj.out (by show zB _ _ 3 65=true;kernel_rfl) (by decide) (by decide) (by kernel_rfl) ?hops ?hcall ?hend
 case hops=>
  intro i o8 hi hip ho a8 w8 hdf jd ht8 jb ja
  match i,hi,hip with
  | 0,_,_=>cases ho;exact zac rfl (Sp.at ja 7 (by kernel_rfl) (HG2.out) (.inl jj.out.own) ht8)
  | 1,_,_=>cases ho;exact zas (k:=1) rfl (Sp.dep jb 0 35 (by kernel_rfl)) rfl (by decide)
  | 2,_,_=>cases ho;exact zal rfl (Sp.dep jb 1 36 (by kernel_rfl))
  | i+3,hi,_=>exact absurd hi (by omega)
 case hcall=>
  intro j i o8 hj ho a8 w8 hdf jc ht8 jb jg ja
  simp at hj
 case hend=>
  intro a8 w8 hdf hsz jc ht8 hval ja
  obtain ⟨x8,hx8,hr8⟩:∃x8,some (nm)=some x8∧RepD (hide w8 (S1 (S1 S (w.heap.size+1)) (w.heap.size+2))) w8.heap.size x8 (a8.tmps.getD 37 undef):=hval 2 _ 37 (by omega) rfl rfl
  have hx9:some (nm)=some x8:=hx8
  obtain rfl:=Option.some.inj hx9
  obtain ⟨f8,ha,hf8⟩:=zaq [false,false,false,false,false,false,false,false,false,false,false,false,false,false,false,false,false,false,false,false,false,false,false,false,false,false,false,false,false,false,false,false,false,false,false,true,true,true] (by kernel_rfl) hdf hsz ja
  rw[<-hf8] at hr8
  subst ha
  obtain ⟨k8,m8,d8,s8,o8,len8,cap8,h8⟩:=zae hr8.unhide
  rw[h8] at hr8
  obtain ⟨W8,hW8⟩:∃W8,w8.alloc (.cells #[.int .i64 k8,.int .i64 m8,.int .i64 d8,.string s8,.slice o8 len8 cap8] 26)=W8:=⟨_,rfl⟩
  obtain ⟨hst9,hel9,ht9⟩:=(show XS (S1 S (w.heap.size+1)) b (w.heap.size+2) n V w8 from jc).stored (Turned.refl _ _) jc.hx hr8 hW8
  have HST5:=zh hst9
  have HEL5:=zh hel9
  have HW8:=zh hW8
  have HG5:=zh (jj.out.keep (HG2.out) (ht8.next ht9))
  have HB45:=zh (show Box5 W8 (w.heap.size+1) 26 (.int .i64 0) (.int .i64 0) (.int .i64 0) (.string ⟨#[]⟩) (.slice none 0 0) from ((ht8.next ht9).block _ HB42.out.lt (by have:=HLT.out;omega)).trans HB42.out)
  clear hval ja hf8 hdf hsz hr8 jc ht8 hx8 hx9 hst9 hel9 ht9 hW8
  simp only[spellH,List.drop_succ_cons,List.drop_zero,h8]
  go_upto_region 6 with fail
  rw[HW8.out]
  clear HW8
  obtain ⟨kk,mk,dk,sk,ok,lk,ck,hkr,g0,g1,g2,g3,g4,gl⟩:=Sp.cells HEL5.out
  have hk6:(kk==6)=false:=by rw[<-zaE hkr,HK.out]
  clear hkr
  have hd0:lenl≠3:=by have h1:=HL1.out;have h2:=HE.out;have h3:=List.length_pos_iff.2 HT.out;rw[h2] at h1;simp only[qzN] at h1;omega
  have hd1:((lenl:Int)==3)=false:=by simp;omega
  have hd2:¬lenl=3:=hd0
  go_wp2_with (first | (go_at_call 30;refine (zaf _).mono ?_;rintro e' wN ⟨rfl,rfl⟩) | fail)
  exact ⟨rfl,rfl,(Turned.of_below HVB.out).next HST5.out.ht⟩
theorem Sy.kind4 {x:Dat}:((x.kind==4)=true↔x.kind=4):=by simp
theorem zdP {E:Dat->Sy.M Dat} {L:Dat->List Dat->Sy.M Dat} (hE:EOk E) (hL:LOk L) (S:Nat->Prop) (b n:Nat) (x:Dat) (xv:Value) (w:World) (r:Option (Option ((Dat × Dat) × Nat))) (hr:defR E L x n r) (hS:∀c,S c->c<w.heap.size) (hb:S b) (hx:XP w b n) (hV:Env w) (hxv:RepD (hide w S) w.heap.size x xv) (hsm:Sy.small x=true) :
  Calls prog 48 #[.pointer (some ⟨b,0,none⟩),xv] w (DefPost S b n r w):=by
 unfold defR Sy.define at hr
 cases hq:((Sy.split x).2.kind==4) with
 | false=>
  have hq':¬(Sy.split x).2.kind=4:=fun h=>by rw[Sy.kind4.2 h] at hq;cases hq
  have hrn:r=none:=by
   revert hr
   cases (Sy.split x).1 with
   | nil=>exact id
   | cons h t=>simp only[hq',false_and,if_false];exact id
  subst hrn
  exact zep S b n x xv w hq hS hb hx hV hxv hsm
 | true=>
  have hq':=Sy.kind4.1 hq
  match he:(Sy.split x).1 with
  | []=>
   rw[he] at hr
   have hrn:r=none:=hr
   subst hrn
   exact ze0 S b n x xv w hq he hS hb hx hV hxv hsm
  | h::t=>
   rw[he] at hr
   cases hnm:Sy.isNm h Sy.defineB with
   | false=>
    simp only[hq',hnm,Bool.false_eq_true,and_false,if_false] at hr
    subst hr
    exact zeY S b n x xv w hq h t he hnm hS hb hx hV hxv hsm
   | true=>
    simp only[hq',hnm,and_self,if_true] at hr
    obtain ⟨p,hp,rfl⟩:=hr
    match t,he,hp with
    | [],he,hp=>
     obtain rfl:=Sy.bad_split hp
     exact zcH S b n x xv w hq h [] he hnm (by simp) hS hb hx hV hxv hsm
    | [z],he,hp=>
     obtain rfl:=Sy.bad_split hp
     exact zcH S b n x xv w hq h [z] he hnm (by simp) hS hb hx hV hxv hsm
    | nm::v::t,he,hp=>
     simp only at hp
     cases hk:(nm.kind==6) with
     | true=>
      have hk':nm.kind=6:=by simpa using hk
      rw[if_pos hk'] at hp
      have hnms:=(Sy.small_iff.1 (Sy.split_small hsm nm (by rw[he];simp))).1
      obtain ⟨k,m,d,s,l⟩:=nm
      obtain ⟨fa,fb,rfl,_,_⟩:=Sy.shaped_pair hnms hk'
      exact zgK hL fa fb S b n x xv w hq h _ v t he hnm hk rfl p hp hS hb hx hV hxv hsm
     | false=>
      have hk':¬nm.kind=6:=fun h=>by rw[h] at hk;exact absurd hk (by decide)
      rw[if_neg hk'] at hp
      obtain ⟨h1,h2⟩:=Sy.need_split hp
      cases t with
      | nil=>exact zg5 hE S b n x xv w hq h nm v [] he hnm hk rfl p (h2 rfl) hS hb hx hV hxv hsm
      | cons z t=>
       obtain rfl:=h1 rfl
       exact zfT S b n x xv w hq h nm v (z::t) he hnm hk (by simp) hS hb hx hV hxv hsm
end
section
open Go Go.RowKit
def FmOk (E:Dat->Sy.M Dat) (L:Dat->List Dat->Sy.M Dat):Prop:=∀(key:ByteArray) (l:List Dat) (S:Nat->Prop) (b n:Nat) (sl:Value) (w:World) (r:Option (Dat × Nat)),Sy.formF E L key l n=some r->key.size<=140737488351232->(∀y∈l,Sy.small y=true)->l.length<=99999->(∀c,S c->c<w.heap.size)->S b->XP w b n->Env w->RepS (hide w S) w.heap.size l sl ->
 Calls prog 86 #[.pointer (some ⟨b,0,none⟩),.string key,sl] w (XRes S b r w)
theorem zgu (S:Nat->Prop) (b n:Nat) (x:Dat) (xv:Value) (w:World) (hkd:x.kind=2) (hv:Sy.isVar x=false) (hS:∀c,S c->c<w.heap.size) (hb:S b) (hx:XP w b n) (hV:Env w) (hxv:RepD (hide w S) w.heap.size x xv) :
  Calls prog 50 #[.pointer (some ⟨b,0,none⟩),xv] w (XRes S b none w):=by
 obtain ⟨k1,m1,d1,s1,o1,len1,cap1,rfl⟩:=zae hxv.unhide
 obtain ⟨W0,hW0,hst,he1⟩:=zbu hS hb hx hV hxv
 have HST:=zh hst
 have HW0:=zh hW0
 have HE1:=zh he1
 obtain ⟨k,m,d,st,o,len,cap,hxr,q0,q1,q2,q3,q4,ql⟩:=Sp.cells he1
 have hkk:=zaE hxr
 have hk2:(k==2)=true:=by rw[<-hkk];simp[hkd]
 have hk4:(k==4)=false:=by rw[<-hkk];simp[hkd]
 have hk6:(k==6)=false:=by rw[<-hkk];simp[hkd]
 have HVA:=zh (fun w=>zaP (w:=w) x _ hxr)
 rw[hv] at HVA
 clear hst he1 hW0 hxv hS hb hx hV hxr hkk
 go_enter func50,ntmps50
 go_upto_region 1 with fail
 rw[HW0.out]
 go_wp2_with (first | (go_at_call 72;refine (HVA.out _).mono ?_;rintro e' w2 ⟨rfl,hb2⟩) | (go_at_call 30;refine (zaf _).mono ?_;rintro e' wN ⟨rfl,rfl⟩) | fail)
 exact ⟨rfl,HST.out.bad' (Turned.of_below hb2)⟩
theorem ziV (S:Nat->Prop) (b n:Nat) (x:Dat) (xv:Value) (w:World) (hkd:x.kind=2) (hv:Sy.isVar x=true) (hS:∀c,S c->c<w.heap.size) (hb:S b) (hx:XP w b n) (hV:Env w) (hxv:RepD (hide w S) w.heap.size x xv) :
  Calls prog 50 #[.pointer (some ⟨b,0,none⟩),xv] w (XRes S b (some (x,n)) w):=by
 obtain ⟨k1,m1,d1,s1,o1,len1,cap1,rfl⟩:=zae hxv.unhide
 obtain ⟨W0,hW0,hst,he1⟩:=zbu hS hb hx hV hxv
 have HST:=zh hst
 have HW0:=zh hW0
 have HE1:=zh he1
 obtain ⟨k,m,d,st,o,len,cap,hxr,q0,q1,q2,q3,q4,ql⟩:=Sp.cells he1
 have hkk:=zaE hxr
 have hk2:(k==2)=true:=by rw[<-hkk];simp[hkd]
 have hk4:(k==4)=false:=by rw[<-hkk];simp[hkd]
 have hk6:(k==6)=false:=by rw[<-hkk];simp[hkd]
 have HVA:=zh (fun w=>zaP (w:=w) x _ hxr)
 rw[hv] at HVA
 obtain ⟨r,hrr⟩:∃r,r=some (x,n):=⟨_,rfl⟩
 rw[<-hrr]
 have HRR:=zh hrr
 clear hrr
 clear hst he1 hW0 hxv hS hb hx hV hxr hkk
 go_enter func50,ntmps50
 go_upto_region 1 with fail
 rw[HW0.out]
 go_upto_region 4 with (first | (go_at_call 72;refine (HVA.out _).mono ?_;rintro e' w2 ⟨rfl,hb2⟩) | (go_at_call 30;refine (zah _).mono ?_;rintro e' wN ⟨⟨vN,rfl⟩,rfl⟩) | fail)
 have jj:=zh (HST.out.below hb2)
 have HX2:=zh (Sp.below HE1.out hb2)
 clear hb2 q0 q1 q2 q3 q4 ql
 refine zad (dr:=false) (S:=S) (b:=b) (H:=(w.heap.size+1)) 1 [] (fun j=>[n].getD j 0) [.dat (some (x))] jj.out (by show zB _ _ 1 53=true;kernel_rfl) (by decide) (by decide) (by kernel_rfl) ?hops ?hcall ?hend
 case hops=>
  intro i o8 hi hip ho a8 w8 hdf jd ht8 jb ja
  match i,hi,hip with
  | 0,_,_=>cases ho;exact zal rfl (Sp.at ja 3 (by kernel_rfl) (HX2.out) (.inl jj.out.own) ht8)
  | i+1,hi,_=>exact absurd hi (by omega)
 case hcall=>
  intro j i o8 hj ho a8 w8 hdf jc ht8 jb jg ja
  simp at hj
 case hend=>
  intro a8 w8 hdf hsz jc ht8 hval ja
  refine fin_s (r:=r) jc (hval 0 _ 14 (by omega) rfl rfl) (fun x8 hx8=>?_) ((ja.at 4 (by kernel_rfl)).trans rfl) hdf rfl results50 fun w9 h9=>?_
  ·clear hval ja hdf hsz jc ht8
   cases hx8
   exact HRR.out
  ·go_wp2_with fail
theorem ziO (S:Nat->Prop) (b n:Nat) (x:Dat) (xv:Value) (w:World) (hkd:x.kind=4) (hS:∀c,S c->c<w.heap.size) (hb:S b) (hx:XP w b n) (hV:Env w) (hxv:RepD (hide w S) w.heap.size x xv) :
  Calls prog 50 #[.pointer (some ⟨b,0,none⟩),xv] w (XRes S b none w):=by
 obtain ⟨k1,m1,d1,s1,o1,len1,cap1,rfl⟩:=zae hxv.unhide
 obtain ⟨W0,hW0,hst,he1⟩:=zbu hS hb hx hV hxv
 have HST:=zh hst
 have HW0:=zh hW0
 have HE1:=zh he1
 obtain ⟨k,m,d,st,o,len,cap,hxr,q0,q1,q2,q3,q4,ql⟩:=Sp.cells he1
 have hkk:=zaE hxr
 have hk2:(k==2)=false:=by rw[<-hkk];simp[hkd]
 have hk4:(k==4)=true:=by rw[<-hkk];simp[hkd]
 have hk6:(k==6)=false:=by rw[<-hkk];simp[hkd]
 clear hst he1 hW0 hxv hS hb hx hV hxr hkk
 go_enter func50,ntmps50
 go_upto_region 1 with fail
 rw[HW0.out]
 go_wp2_with (first | (go_at_call 30;refine (zaf _).mono ?_;rintro e' wN ⟨rfl,rfl⟩) | fail)
 exact ⟨rfl,HST.out.bad⟩
theorem zgC (S:Nat->Prop) (b n:Nat) (x:Dat) (xv:Value) (w:World) (hkd:x.kind≠2∧x.kind≠4∧x.kind≠6) (hS:∀c,S c->c<w.heap.size) (hb:S b) (hx:XP w b n) (hV:Env w) (hxv:RepD (hide w S) w.heap.size x xv) :
  Calls prog 50 #[.pointer (some ⟨b,0,none⟩),xv] w (XRes S b (some (Sy.const x,n)) w):=by
 obtain ⟨k1,m1,d1,s1,o1,len1,cap1,rfl⟩:=zae hxv.unhide
 obtain ⟨W0,hW0,hst,he1⟩:=zbu hS hb hx hV hxv
 have HST:=zh hst
 have HW0:=zh hW0
 have HE1:=zh he1
 obtain ⟨k,m,d,st,o,len,cap,hxr,q0,q1,q2,q3,q4,ql⟩:=Sp.cells he1
 have hkk:=zaE hxr
 have hk2:(k==2)=false:=by rw[<-hkk];simpa using hkd.1
 have hk4:(k==4)=false:=by rw[<-hkk];simpa using hkd.2.1
 have hk6:(k==6)=false:=by rw[<-hkk];simpa using hkd.2.2
 obtain ⟨r,hrr⟩:∃r,r=some (Sy.const x,n):=⟨_,rfl⟩
 rw[<-hrr]
 have HRR:=zh hrr
 clear hrr
 clear hst he1 hW0 hxv hS hb hx hV hxr hkk
 go_enter func50,ntmps50
 go_upto_region 1 with fail
 rw[HW0.out]
 go_upto_region 13 with fail
 clear q0 q1 q2 q3 q4 ql
 refine zad (dr:=false) (S:=S) (b:=b) (H:=(w.heap.size+1)) 2 [] (fun j=>[n].getD j 0) [.dat (some (x)),.dat ((some (x)).map Sy.const)] HST.out (by show zB _ _ 2 53=true;kernel_rfl) (by decide) (by decide) (by kernel_rfl) ?hops ?hcall ?hend
 case hops=>
  intro i o8 hi hip ho a8 w8 hdf jd ht8 jb ja
  match i,hi,hip with
  | 0,_,_=>cases ho;exact zal rfl (Sp.at ja 3 (by kernel_rfl) (HE1.out) (.inl HST.out.own) ht8)
  | 1,_,_=>cases ho;exact zfb rfl (Sp.dep jb 0 51 (by kernel_rfl)) jd
  | i+2,hi,_=>exact absurd hi (by omega)
 case hcall=>
  intro j i o8 hj ho a8 w8 hdf jc ht8 jb jg ja
  simp at hj
 case hend=>
  intro a8 w8 hdf hsz jc ht8 hval ja
  refine fin_s (r:=r) jc (hval 1 _ 52 (by omega) rfl rfl) (fun x8 hx8=>?_) ((ja.at 4 (by kernel_rfl)).trans rfl) hdf rfl results50 fun w9 h9=>?_
  ·clear hval ja hdf hsz jc ht8
   cases hx8
   exact HRR.out
  ·go_wp2_with fail
theorem zfM (S:Nat->Prop) (b n:Nat) (x:Dat) (xv:Value) (w:World) (hkd:x.kind=6) (hq:((Sy.split x).2.kind==4)=false) (hsm:Sy.small x=true) (hS:∀c,S c->c<w.heap.size) (hb:S b) (hx:XP w b n) (hV:Env w) (hxv:RepD (hide w S) w.heap.size x xv) :
  Calls prog 50 #[.pointer (some ⟨b,0,none⟩),xv] w (XRes S b none w):=by
 obtain ⟨k1,m1,d1,s1,o1,len1,cap1,rfl⟩:=zae hxv.unhide
 obtain ⟨W0,hW0,hst,he1⟩:=zbu hS hb hx hV hxv
 have HST:=zh hst
 have HW0:=zh hW0
 have HE1:=zh he1
 obtain ⟨k,m,d,st,o,len,cap,hxr,q0,q1,q2,q3,q4,ql⟩:=Sp.cells he1
 have hkk:=zaE hxr
 have hk2:(k==2)=false:=by rw[<-hkk];simp[hkd]
 have hk4:(k==4)=false:=by rw[<-hkk];simp[hkd]
 have hk6:(k==6)=true:=by rw[<-hkk];simp[hkd]
 have HC:=zh (hst.items x _ _ hq hxr (Sy.small_iff.1 hsm).1 (Sy.small_iff.1 hsm).2)
 clear hst he1 hW0 hxv hS hb hx hV hxr hkk
 go_enter func50,ntmps50
 go_upto_region 1 with fail
 rw[HW0.out]
 go_wp2_with (first | (go_at_call 73;refine HC.out.mono ?_;rintro e' w1 ⟨ol,lenl,capl,rfl,hg1,hl1,hb1⟩;have HG1:=zh hg1;have HL1:=zh hl1;have HB1:=zh hb1;clear hg1 hl1 hb1) | (go_at_call 30;refine (zaf _).mono ?_;rintro e' wN ⟨rfl,rfl⟩) | fail)
 exact ⟨rfl,HST.out.bad' (Turned.of_below HB1.out)⟩
theorem zik {E:Dat->Sy.M Dat} {L:Dat->List Dat->Sy.M Dat} (hF:FmOk E L) (S:Nat->Prop) (b n:Nat) (x:Dat) (xv:Value) (w:World) (hkd:x.kind=6) (hq:((Sy.split x).2.kind==4)=true) (hsm:Sy.small x=true) (h:Dat) (t:List Dat) (he:(Sy.split x).1=h::t) (hkh:h.kind=2) (hkw:Sy.keyword h.s=true) (r:Option (Dat × Nat)) (hr:Sy.formF E L h.s t n=some r) (hS:∀c,S c->c<w.heap.size) (hb:S b) (hx:XP w b n) (hV:Env w) (hxv:RepD (hide w S) w.heap.size x xv) :
  Calls prog 50 #[.pointer (some ⟨b,0,none⟩),xv] w (XRes S b r w):=by
 obtain ⟨k1,m1,d1,s1,o1,len1,cap1,rfl⟩:=zae hxv.unhide
 obtain ⟨W0,hW0,hst,he1⟩:=zbu hS hb hx hV hxv
 have HST:=zh hst
 have HW0:=zh hW0
 have HE1:=zh he1
 obtain ⟨k,m,d,st,o,len,cap,hxr,q0,q1,q2,q3,q4,ql⟩:=Sp.cells he1
 have hkk:=zaE hxr
 have hk2:(k==2)=false:=by rw[<-hkk];simp[hkd]
 have hk4:(k==4)=false:=by rw[<-hkk];simp[hkd]
 have hk6:(k==6)=true:=by rw[<-hkk];simp[hkd]
 have HC:=zh (hst.items x _ _ hq hxr (Sy.small_iff.1 hsm).1 (Sy.small_iff.1 hsm).2)
 have HSM:=zh hsm
 have HE:=zh he
 have HF:=zh hF
 have HR:=zh hr
 clear hst he1 hW0 hxv hS hb hx hV hxr hkk he hF hr
 go_enter func50,ntmps50
 go_upto_region 1 with fail
 rw[HW0.out]
 go_upto_region 10 with (first | (go_at_call 73;refine HC.out.mono ?_;rintro e' w1 ⟨ol,lenl,capl,rfl,hg1,hl1,hb1⟩;have HG1:=zh hg1;have HL1:=zh hl1;have HB1:=zh hb1;clear hg1 hl1 hb1) | (go_at_call 30;refine (zah _).mono ?_;rintro e' wN ⟨⟨vN,rfl⟩,rfl⟩) | fail)
 have HG1:=zh (show (Sp.row (some (h::t))).holds (S1 S (w.heap.size+1)) (.slice ol lenl capl) wN from by rw[<-HE.out];exact HG1.out)
 have ht0:0<lenl:=by rw[HL1.out,HE.out];simp
 have ht1:(0:Int)<lenl:=by omega
 have HST1:=zh (HST.out.below HB1.out)
 obtain ⟨c1,off1,rfl,hel⟩:=Sp.nth (j:=0) HG1.out rfl
 obtain ⟨k3,m3,d3,st3,o3,len3,cap3,hxr,e0,e1,e2,e3,e4,el⟩:=Sp.cells hel
 simp only[Nat.zero_mul,Nat.add_zero] at e0 e1 e2 e3 e4
 have hk3:(k3==2)=true:=by rw[<-zaE hxr];simp[hkh]
 have hs3:st3=h.s∧h.s.size<=140737488351232:=by
  obtain ⟨kh,mh,dh,sh,lh⟩:=h
  obtain ⟨slh,hvh,_,_,_,hsz,hrs⟩:=hxr.open
  simp only[Value.agg.injEq,Array.mk.injEq,List.cons.injEq,Value.string.injEq] at hvh
  exact ⟨hvh.2.2.2.1,hsz⟩
 have HS3:=zh hs3.2
 have HKW:=zh (fun w=>zap st3 true (by rw[hs3.1];exact hkw) w)
 clear hs3 hel hxr
 go_upto_region 11 with (first | (go_at_call 20;refine (HKW.out _).mono ?_;rintro e' w2 ⟨rfl,rfl⟩) | fail)
 clear e0 e1 e2 e3 e4 el q0 q1 q2 q3 q4 ql
 obtain ⟨p1,hp1⟩:∃p1,r=p1:=⟨_,rfl⟩
 have HP1:=zh (show Sy.formF E L h.s t n=some p1 from by rw[<-hp1];exact HR.out)
 have jh:=zh (show p1=none->r=none from fun h=>by rw[hp1];exact h)
 have HRF:=zh hp1
 clear hp1
 refine zad (dr:=true) (S:=S) (b:=b) (H:=(w.heap.size+1)) 8 [7] (fun j=>[n,cnt p1].getD j 0) [.val (.pointer (some ⟨b,0,none⟩)),.row (some (h::t)),.elm (some (h)),.stp ((h).s),.val (.string (h).s),.row (some (h::t)),.row (some (t)),.dat (p1.map (·.1))] HST1.out (by show zB _ _ 8 53=true;kernel_rfl) (by decide) (by decide) (by kernel_rfl) ?hops ?hcall ?hend
 case hops=>
  intro i o8 hi hip ho a8 w8 hdf jd ht8 jb ja
  match i,hi,hip with
  | 0,_,_=>cases ho;exact zac rfl (Sp.at ja 0 (by kernel_rfl) (rfl) (.inl HST1.out.own) ht8)
  | 1,_,_=>cases ho;exact zac rfl (Sp.at ja 5 (by kernel_rfl) (HG1.out) (.inl HST1.out.own) ht8)
  | 2,_,_=>cases ho;exact zas (k:=0) rfl (Sp.dep jb 1 40 (by kernel_rfl)) rfl (by decide)
  | 3,_,_=>cases ho;exact ziS (x:=h) rfl (Sp.dep jb 2 41 (by kernel_rfl))
  | 4,_,_=>cases ho;exact zlc rfl (Sp.dep jb 3 42 (by kernel_rfl))
  | 5,_,_=>cases ho;exact zac rfl (Sp.at ja 5 (by kernel_rfl) (HG1.out) (.inl HST1.out.own) ht8)
  | 6,_,_=>cases ho;exact zaD (k:=1) rfl (Sp.dep jb 5 44 (by kernel_rfl)) (by decide) (by simp) (by decide)
  | 7,_,h=>exact absurd (by decide) h
  | i+8,hi,_=>exact absurd hi (by omega)
 case hcall=>
  intro j i o8 hj ho a8 w8 hdf jc ht8 jb jg ja
  match j,hj with
  | 0,hj=>
   cases hj;cases ho
   have hv0:a8.tmps.getD 39 undef=.pointer (some ⟨b,0,none⟩):=(Sp.dep jb 0 39 (by kernel_rfl))
   have hv1:a8.tmps.getD 43 undef=.string h.s:=(Sp.dep jb 4 43 (by kernel_rfl))
   refine zaI (p:=p1) (vals:=#[.pointer (some ⟨b,0,none⟩),.string h.s,a8.tmps.getD 45 undef]) rfl (by simp only[List.map_toArray,List.map_cons,List.map_nil];rw[<-hv0];rw[<-hv1];rfl) (fun _ _=>rfl) (HF.out h.s t (S1 S (w.heap.size+1)) b _ _ w8 p1 HP1.out HS3.out (fun y hy=>Sy.split_small HSM.out y (by rw[HE.out];exact List.mem_cons_of_mem _ hy)) (by have h1:=zaY x;have h2:=(Sy.small_iff.1 HSM.out).2;rw[HE.out,qzN] at h1;omega) jc.lt (.inl jc.own) jc.hx jc.hE (Sp.data (Sp.dep jb 6 45 (by kernel_rfl)))) fun hp w9 ht9=>?_
   have hrn:=jh.out hp
   subst hrn
   exact ⟨hdf,jc.bad' ht9⟩
  | _+1,hj=>simp at hj
 case hend=>
  intro a8 w8 hdf hsz jc ht8 hval ja
  refine fin_s (r:=r) jc (hval 7 _ 46 (by omega) rfl rfl) (fun x8 hx8=>?_) ((ja.at 4 (by kernel_rfl)).trans rfl) hdf rfl results50 fun w9 h9=>?_
  ·clear hval ja hdf hsz jc ht8
   rcases p1 with _ | ⟨y1,n1⟩
   ·simp at hx8
   cases hx8
   exact HRF.out
  ·go_wp2_with fail
theorem zim {E:Dat->Sy.M Dat} (hE:EOk E) (S:Nat->Prop) (b n:Nat) (x:Dat) (xv:Value) (w:World) (hkd:x.kind=6) (hq:((Sy.split x).2.kind==4)=true) (hsm:Sy.small x=true) (h:Dat) (t:List Dat) (he:(Sy.split x).1=h::t) (hkh:h.kind≠2) (r:Option (Dat × Nat)) (hr:Sy.bnd (Sy.all E (h::t)) (fun l=>Sy.ret (Dat.list l)) n=some r) (hS:∀c,S c->c<w.heap.size) (hb:S b) (hx:XP w b n) (hV:Env w) (hxv:RepD (hide w S) w.heap.size x xv) :
  Calls prog 50 #[.pointer (some ⟨b,0,none⟩),xv] w (XRes S b r w):=by
 obtain ⟨k1,m1,d1,s1,o1,len1,cap1,rfl⟩:=zae hxv.unhide
 obtain ⟨W0,hW0,hst,he1⟩:=zbu hS hb hx hV hxv
 have HST:=zh hst
 have HW0:=zh hW0
 have HE1:=zh he1
 obtain ⟨k,m,d,st,o,len,cap,hxr,q0,q1,q2,q3,q4,ql⟩:=Sp.cells he1
 have hkk:=zaE hxr
 have hk2:(k==2)=false:=by rw[<-hkk];simp[hkd]
 have hk4:(k==4)=false:=by rw[<-hkk];simp[hkd]
 have hk6:(k==6)=true:=by rw[<-hkk];simp[hkd]
 have HC:=zh (hst.items x _ _ hq hxr (Sy.small_iff.1 hsm).1 (Sy.small_iff.1 hsm).2)
 have HSM:=zh hsm
 have HEQ:=zh he
 have HE:=zh hE
 have HR:=zh hr
 clear hst he1 hW0 hxv hS hb hx hV hxr hkk he hE hr
 go_enter func50,ntmps50
 go_upto_region 1 with fail
 rw[HW0.out]
 go_upto_region 10 with (first | (go_at_call 73;refine HC.out.mono ?_;rintro e' w1 ⟨ol,lenl,capl,rfl,hg1,hl1,hb1⟩;have HG1:=zh hg1;have HL1:=zh hl1;have HB1:=zh hb1;clear hg1 hl1 hb1) | (go_at_call 30;refine (zah _).mono ?_;rintro e' wN ⟨⟨vN,rfl⟩,rfl⟩) | fail)
 have HG1:=zh (show (Sp.row (some (h::t))).holds (S1 S (w.heap.size+1)) (.slice ol lenl capl) wN from by rw[<-HEQ.out];exact HG1.out)
 have ht0:0<lenl:=by rw[HL1.out,HEQ.out];simp
 have ht1:(0:Int)<lenl:=by omega
 have HST1:=zh (HST.out.below HB1.out)
 obtain ⟨c1,off1,rfl,hel⟩:=Sp.nth (j:=0) HG1.out rfl
 obtain ⟨k3,m3,d3,st3,o3,len3,cap3,hxr,e0,e1,e2,e3,e4,el⟩:=Sp.cells hel
 simp only[Nat.zero_mul,Nat.add_zero] at e0 e1 e2 e3 e4
 have hk3:(k3==2)=false:=by rw[<-zaE hxr];simpa using hkh
 clear hel hxr
 go_upto_region 12 with fail
 clear e0 e1 e2 e3 e4 el q0 q1 q2 q3 q4 ql
 obtain ⟨p1,hp1,hn1,hk⟩:=Sy.bnd_split HR.out
 have HP1:=zh hp1
 have jh:=zh hn1
 have HRF:=zh hk
 clear hp1 hn1 hk
 refine zad (dr:=false) (S:=S) (b:=b) (H:=(w.heap.size+1)) 4 [2] (fun j=>[n,cnt p1].getD j 0) [.val (.pointer (some ⟨b,0,none⟩)),.row (some (h::t)),.row (p1.map (·.1)),.dat ((p1.map (·.1)).map Dat.list)] HST1.out (by show zB _ _ 4 53=true;kernel_rfl) (by decide) (by decide) (by kernel_rfl) ?hops ?hcall ?hend
 case hops=>
  intro i o8 hi hip ho a8 w8 hdf jd ht8 jb ja
  match i,hi,hip with
  | 0,_,_=>cases ho;exact zac rfl (Sp.at ja 0 (by kernel_rfl) (rfl) (.inl HST1.out.own) ht8)
  | 1,_,_=>cases ho;exact zac rfl (Sp.at ja 5 (by kernel_rfl) (HG1.out) (.inl HST1.out.own) ht8)
  | 2,_,h=>exact absurd (by decide) h
  | 3,_,_=>cases ho;exact zcc rfl (Sp.dep jb 2 49 (by kernel_rfl)) jd
  | i+4,hi,_=>exact absurd hi (by omega)
 case hcall=>
  intro j i o8 hj ho a8 w8 hdf jc ht8 jb jg ja
  match j,hj with
  | 0,hj=>
   cases hj;cases ho
   refine zfJ (p:=p1) rfl (Sp.dep jb 0 47 (by kernel_rfl)) (fun _ _=>rfl) (zbr HE.out (S1 S (w.heap.size+1)) b _ (h::t) _ w8 p1 HP1.out jc.lt (.inl jc.own) jc.hx jc.hE (Sp.data (Sp.dep jb 1 48 (by kernel_rfl))) (by have h1:=zaY x;have h2:=(Sy.small_iff.1 HSM.out).2;rw[HEQ.out] at h1;omega)) fun hp w9 ht9=>?_
   cases jh.out hp;exact ⟨hdf,jc.bad' ht9⟩
  | _+1,hj=>simp at hj
 case hend=>
  intro a8 w8 hdf hsz jc ht8 hval ja
  refine fin_s (r:=r) jc (hval 3 _ 50 (by omega) rfl rfl) (fun x8 hx8=>?_) ((ja.at 4 (by kernel_rfl)).trans rfl) hdf rfl results50 fun w9 h9=>?_
  ·clear hval ja hdf hsz jc ht8
   rcases p1 with _ | ⟨y1,n1⟩
   ·simp at hx8
   cases hx8
   exact Sy.ret_split (HRF.out _ _ rfl)
  ·go_wp2_with fail
theorem zgX {E:Dat->Sy.M Dat} (hE:EOk E) (S:Nat->Prop) (b n:Nat) (x:Dat) (xv:Value) (w:World) (hkd:x.kind=6) (hq:((Sy.split x).2.kind==4)=true) (hsm:Sy.small x=true) (h:Dat) (t:List Dat) (he:(Sy.split x).1=h::t) (hkh:h.kind=2) (hkw:Sy.keyword h.s=false) (r:Option (Dat × Nat)) (hr:Sy.bnd (Sy.all E (h::t)) (fun l=>Sy.ret (Dat.list l)) n=some r) (hS:∀c,S c->c<w.heap.size) (hb:S b) (hx:XP w b n) (hV:Env w) (hxv:RepD (hide w S) w.heap.size x xv) :
  Calls prog 50 #[.pointer (some ⟨b,0,none⟩),xv] w (XRes S b r w):=by
 obtain ⟨k1,m1,d1,s1,o1,len1,cap1,rfl⟩:=zae hxv.unhide
 obtain ⟨W0,hW0,hst,he1⟩:=zbu hS hb hx hV hxv
 have HST:=zh hst
 have HW0:=zh hW0
 have HE1:=zh he1
 obtain ⟨k,m,d,st,o,len,cap,hxr,q0,q1,q2,q3,q4,ql⟩:=Sp.cells he1
 have hkk:=zaE hxr
 have hk2:(k==2)=false:=by rw[<-hkk];simp[hkd]
 have hk4:(k==4)=false:=by rw[<-hkk];simp[hkd]
 have hk6:(k==6)=true:=by rw[<-hkk];simp[hkd]
 have HC:=zh (hst.items x _ _ hq hxr (Sy.small_iff.1 hsm).1 (Sy.small_iff.1 hsm).2)
 have HSM:=zh hsm
 have HEQ:=zh he
 have HE:=zh hE
 have HR:=zh hr
 clear hst he1 hW0 hxv hS hb hx hV hxr hkk he hE hr
 go_enter func50,ntmps50
 go_upto_region 1 with fail
 rw[HW0.out]
 go_upto_region 10 with (first | (go_at_call 73;refine HC.out.mono ?_;rintro e' w1 ⟨ol,lenl,capl,rfl,hg1,hl1,hb1⟩;have HG1:=zh hg1;have HL1:=zh hl1;have HB1:=zh hb1;clear hg1 hl1 hb1) | (go_at_call 30;refine (zah _).mono ?_;rintro e' wN ⟨⟨vN,rfl⟩,rfl⟩) | fail)
 have HG1:=zh (show (Sp.row (some (h::t))).holds (S1 S (w.heap.size+1)) (.slice ol lenl capl) wN from by rw[<-HEQ.out];exact HG1.out)
 have ht0:0<lenl:=by rw[HL1.out,HEQ.out];simp
 have ht1:(0:Int)<lenl:=by omega
 have HST1:=zh (HST.out.below HB1.out)
 obtain ⟨c1,off1,rfl,hel⟩:=Sp.nth (j:=0) HG1.out rfl
 obtain ⟨k3,m3,d3,st3,o3,len3,cap3,hxr,e0,e1,e2,e3,e4,el⟩:=Sp.cells hel
 simp only[Nat.zero_mul,Nat.add_zero] at e0 e1 e2 e3 e4
 have hk3:(k3==2)=true:=by rw[<-zaE hxr];simp[hkh]
 have hs3:st3=h.s:=by
  obtain ⟨kh,mh,dh,sh,lh⟩:=h
  obtain ⟨slh,hvh,_,_,_,hsz,hrs⟩:=hxr.open
  simp only[Value.agg.injEq,Array.mk.injEq,List.cons.injEq,Value.string.injEq] at hvh
  exact hvh.2.2.2.1
 have HKW:=zh (fun w=>zap st3 false (by rw[hs3];exact hkw) w)
 clear hs3 hel hxr
 go_upto_region 12 with (first | (go_at_call 20;refine (HKW.out _).mono ?_;rintro e' w2 ⟨rfl,rfl⟩) | fail)
 clear e0 e1 e2 e3 e4 el q0 q1 q2 q3 q4 ql
 obtain ⟨p1,hp1,hn1,hk⟩:=Sy.bnd_split HR.out
 have HP1:=zh hp1
 have jh:=zh hn1
 have HRF:=zh hk
 clear hp1 hn1 hk
 refine zad (dr:=false) (S:=S) (b:=b) (H:=(w.heap.size+1)) 4 [2] (fun j=>[n,cnt p1].getD j 0) [.val (.pointer (some ⟨b,0,none⟩)),.row (some (h::t)),.row (p1.map (·.1)),.dat ((p1.map (·.1)).map Dat.list)] HST1.out (by show zB _ _ 4 53=true;kernel_rfl) (by decide) (by decide) (by kernel_rfl) ?hops ?hcall ?hend
 case hops=>
  intro i o8 hi hip ho a8 w8 hdf jd ht8 jb ja
  match i,hi,hip with
  | 0,_,_=>cases ho;exact zac rfl (Sp.at ja 0 (by kernel_rfl) (rfl) (.inl HST1.out.own) ht8)
  | 1,_,_=>cases ho;exact zac rfl (Sp.at ja 5 (by kernel_rfl) (HG1.out) (.inl HST1.out.own) ht8)
  | 2,_,h=>exact absurd (by decide) h
  | 3,_,_=>cases ho;exact zcc rfl (Sp.dep jb 2 49 (by kernel_rfl)) jd
  | i+4,hi,_=>exact absurd hi (by omega)
 case hcall=>
  intro j i o8 hj ho a8 w8 hdf jc ht8 jb jg ja
  match j,hj with
  | 0,hj=>
   cases hj;cases ho
   refine zfJ (p:=p1) rfl (Sp.dep jb 0 47 (by kernel_rfl)) (fun _ _=>rfl) (zbr HE.out (S1 S (w.heap.size+1)) b _ (h::t) _ w8 p1 HP1.out jc.lt (.inl jc.own) jc.hx jc.hE (Sp.data (Sp.dep jb 1 48 (by kernel_rfl))) (by have h1:=zaY x;have h2:=(Sy.small_iff.1 HSM.out).2;rw[HEQ.out] at h1;omega)) fun hp w9 ht9=>?_
   cases jh.out hp;exact ⟨hdf,jc.bad' ht9⟩
  | _+1,hj=>simp at hj
 case hend=>
  intro a8 w8 hdf hsz jc ht8 hval ja
  refine fin_s (r:=r) jc (hval 3 _ 50 (by omega) rfl rfl) (fun x8 hx8=>?_) ((ja.at 4 (by kernel_rfl)).trans rfl) hdf rfl results50 fun w9 h9=>?_
  ·clear hval ja hdf hsz jc ht8
   rcases p1 with _ | ⟨y1,n1⟩
   ·simp at hx8
   cases hx8
   exact Sy.ret_split (HRF.out _ _ rfl)
  ·go_wp2_with fail
theorem zjU {E:Dat->Sy.M Dat} {L:Dat->List Dat->Sy.M Dat} (hE:EOk E) (hF:FmOk E L) (S:Nat->Prop) (b n:Nat) (x:Dat) (xv:Value) (w:World) (r:Option (Dat × Nat)) (hr:Sy.exprF E L x n=some r) (hsm:Sy.small x=true) (hS:∀c,S c->c<w.heap.size) (hb:S b) (hx:XP w b n) (hV:Env w) (hxv:RepD (hide w S) w.heap.size x xv) :
  Calls prog 50 #[.pointer (some ⟨b,0,none⟩),xv] w (XRes S b r w):=by
 unfold Sy.exprF at hr
 by_cases h2:x.kind=2
 ·rw[if_pos h2] at hr
  obtain ⟨i1,i2⟩:=Sy.need_split hr
  cases hv:Sy.isVar x with
  | false=>obtain rfl:=i1 hv;exact zgu S b n x xv w h2 hv hS hb hx hV hxv
  | true=>obtain rfl:=Sy.ret_split (i2 hv);exact ziV S b n x xv w h2 hv hS hb hx hV hxv
 ·rw[if_neg h2] at hr
  by_cases h4:x.kind=4
  ·rw[if_pos h4] at hr
   obtain rfl:=Sy.bad_split hr
   exact ziO S b n x xv w h4 hS hb hx hV hxv
  ·rw[if_neg h4] at hr
   by_cases h6:x.kind=6
   ·rw[if_pos h6] at hr
    obtain ⟨i1,i2⟩:=Sy.need_split hr
    cases hq:((Sy.split x).2.kind==4) with
    | false=>obtain rfl:=i1 hq;exact zfM S b n x xv w h6 hq hsm hS hb hx hV hxv
    | true=>
     have hr2:=i2 hq
     match he:(Sy.split x).1 with
     | []=>
      exfalso
      have hsh:=(Sy.small_iff.1 hsm).1
      obtain ⟨k,m,d,s,l⟩:=x
      obtain ⟨a,c,rfl,_,_⟩:=Sy.shaped_pair hsh h6
      rw[Sy.split_pair (show k=6 from h6)] at he
      cases he
     | h::t=>
      rw[he] at hr2
      simp only at hr2
      by_cases hk:h.kind=2∧Sy.keyword h.s=true
      ·rw[if_pos hk] at hr2
       exact zik hF S b n x xv w h6 hq hsm h t he hk.1 hk.2 r hr2 hS hb hx hV hxv
      ·rw[if_neg hk] at hr2
       by_cases hk2:h.kind=2
       ·have hkw:Sy.keyword h.s=false:=by
         cases hkk:Sy.keyword h.s with
         | false=>rfl
         | true=>exact absurd ⟨hk2,hkk⟩ hk
        exact zgX hE S b n x xv w h6 hq hsm h t he hk2 hkw r hr2 hS hb hx hV hxv
       ·exact zim hE S b n x xv w h6 hq hsm h t he hk2 r hr2 hS hb hx hV hxv
   ·rw[if_neg h6] at hr
    obtain rfl:=Sy.ret_split hr
    exact zgC S b n x xv w ⟨h2,h4,h6⟩ hS hb hx hV hxv
end
end Go.Proofs.YtnbjhmafnigefaaGreatDoor
