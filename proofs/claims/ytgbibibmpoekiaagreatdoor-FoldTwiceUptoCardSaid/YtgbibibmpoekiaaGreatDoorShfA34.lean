/-
  What the proofs lean on: FwM.
-/
import Derived.Test.YtgbibibmpoekiaaGreatDoorShfA08
import Derived.Test.YtgbibibmpoekiaaGreatDoorShfA25
import Derived.Test.YtgbibibmpoekiaaGreatDoorShfA33
set_option maxRecDepth 100000
set_option maxHeartbeats 16000000
namespace Go.Proofs.YtgbibibmpoekiaaGreatDoor
section
open Go Go.RowKit
def AnyT (P:Program) (l:List Oper) (Q:Exit→Act→World→Prop) (f:Nat) (listed:Array Bool) (a:Act) (w:World):Prop:=wpAny P .any l.toArray Q f listed a w
theorem anyT_step {P:Program} {l:List Oper} {Q:Exit→Act→World→Prop} {f:Nat} {listed:Array Bool} {a:Act} {w:World} (rs:List Nat) (hr:Region.ready .any l.toArray listed=rs) (hne:rs≠[])
  (h:∀i∈rs,∀o,l[i]?=some o→wpList P l.toArray (fun e a' w'=>e=.normal∧AnyT P l Q f (listed.setIfInBounds i true) a' w') [o] a w):AnyT P l Q (f+1) listed a w:=wpAny_step rs hr hne h
theorem anyT_end {P:Program} {l:List Oper} {Q:Exit→Act→World→Prop} {listed:Array Bool} {a:Act} {w:World} (hr:Region.ready .any l.toArray listed=[]) (h:Q .normal a w):AnyT P l Q 0 listed a w:=wpAny_end hr h
theorem fbs_datum (w:World) (k n d:Int) (s:ByteArray) (o:Option Addr) (l c:Nat):(Instr.buildSlice 22 1 #[(0,.agg #[.int .i64 k,.int .i64 n,.int .i64 d,.string s,.slice o l c])]).run Tryz.prog w=.ok (.slice (some ⟨w.heap.size,0,none⟩) 1 1) (w.alloc (.cells #[.int .i64 k,.int .i64 n,.int .i64 d,.string s,.slice o l c] 45)):=by go_simp
theorem fbs_run {o:Oper} {a:Act} {w:World} {s:Nat} {k n d:Int} {st:ByteArray} {p:Option Addr} {l c:Nat} (ho:o.op=.buildSlice 22 1 #[(0,.tmp s)]) (hx:a.tmps.getD s undef=.agg #[.int .i64 k,.int .i64 n,.int .i64 d,.string st,.slice p l c]):(execOp a.eval o).run Tryz.prog w=.ok (.value (.slice (some ⟨w.heap.size,0,none⟩) 1 1)) (w.alloc (.cells #[.int .i64 k,.int .i64 n,.int .i64 d,.string st,.slice p l c] 45)):=by
 have hmap:(#[(0,Operand.tmp s)]:Array (Nat × Operand)).map (fun (i,x)=>(i,a.eval x))=#[(0,.agg #[.int .i64 k,.int .i64 n,.int .i64 d,.string st,.slice p l c])]:=by
  simp only[List.map_toArray,List.map_cons,List.map_nil]
  rw[←hx];rfl
 unfold execOp
 rw[ho]
 show (do let r ←Instr.buildSlice 22 1 ((#[(0,Operand.tmp s)]:Array (Nat × Operand)).map (fun (i,x)=>(i,a.eval x)));pure (Next.value r):Sem Next).run Tryz.prog w=_
 rw[hmap]
 simp only[Sem.run_bind,Sem.run_pure,fbs_datum,Result.andThen_ok]
theorem fprim_any {b0:Nat} {S:Nat→Prop} {fb base:Nat} {sl:Value} {cs:List Dat} (n:Int) (l:List Trm) (ot:Option Addr) (lt ct:Nat) (w:World) (hf:FoE b0 w S fb base sl cs) (hl:TrmS (hide w (FH S fb sl)) w.heap.size l (.slice ot lt ct)) (hn:I64 n) (hlen:l.length≤100000)
  (ha:∀x∈l,x.op=0→0≤x.n∧x.n<cs.length) (hcs:cs.length+1≤100000) (hbulk:∀data d,Fd.dataOf cs l=some data→Fd.foldF n data=some d→Dat.bulk d≤1048576) :
  Calls Tryz.prog 38 #[.pointer (some ⟨fb,0,none⟩),.int .i64 n,.slice ot lt ct] w (FoPostE b0 S fb base sl (Fd.prim Fd.foldF n l cs) w):=by
 have hlt:=hf.fo.lt
 obtain ⟨y,hy⟩:∃y,Fd.prim Fd.foldF n l cs=y:=⟨_,rfl⟩
 rw[hy]
 have HY:=Lib.hid hy
 have HLN:=Lib.hid (SlC.lens (show SlC (hide w (FH S fb sl)) w.heap.size 4 (TrmR (hide w (FH S fb sl)) w.heap.size) l (.slice ot lt ct) from hl)).1
 obtain ⟨W2,hW2⟩:∃W2,(w.alloc (.cells #[.int .i64 0,.int .i64 0,.slice none 0 0,.slice none 0 0] 26)).alloc (.cells #[.int .i64 10,.int .i64 n,.slice none 0 0,.slice ot lt ct] 26)=W2:=⟨_,rfl⟩
 have hb2:Below w.heap.size w W2:=by rw[←hW2];exact (Below.one w _).trans ((Below.one _ _).mono (by simp))
 have HI2:=Lib.hid (show PrI w (FH (S2w S w.heap.size) fb sl) n (.slice ot lt ct) [] (.slice none 0 0) W2 from by
  refine ⟨?_,?_,GrownS.nil W2 (fun b hb=>fh_two_lt hlt (by rw[←hW2];simp) hb) (by rw[←hW2];simp),hb2⟩
  ·rw[←hW2];exact (BoxL.new rfl _ _).alloc _
  ·rw[←hW2];exact BoxL.new (by simp) _ _)
 have HF:=Lib.hid hf
 have HL:=Lib.hid hl
 have HN:=Lib.hid hn
 have HLEN:=Lib.hid hlen
 have HA:=Lib.hid ha
 have HCS:=Lib.hid hcs
 have HBK:=Lib.hid hbulk
 have HLT:=Lib.hid hlt
 have HW2:=Lib.hid hW2
 clear hf hl hn hlen ha hcs hbulk hlt hy hW2 hb2
 go_enter Tryz.func38,Tryz.ntmps38
 go_upto_region 2 with fail
 rw[HW2.out]
 clear HW2
 go_wp2_with fail
 go_loopg [8,19] lt (fun g dsl i wr=>∃(j:Nat) (ds:List Dat),g=lt-j∧j≤lt∧i=.int .i64 j∧Hid (PrI w (FH (S2w S w.heap.size) fb sl) n (.slice ot lt ct) ds dsl wr∧Fd.dataOf cs (l.take j)=some ds))
 case atStart=>exact ⟨0,[],rfl,by omega,rfl,Lib.hid ⟨HI2.out,rfl⟩⟩
 case round=>
  obtain ⟨j,ds,rfl,hj,rfl,HI⟩:=hrel
  clear HI2
  by_cases hjl:j<lt
  ·obtain ⟨x,hx⟩:∃x,l[j]?=some x:=⟨_,List.getElem?_eq_getElem (by rw[←HLN.out];exact hjl)⟩
   have hsh:Shown w (FH S fb sl) wr (SR (FH S fb sl) u8):=shown_more HI.out.1.below fun b hb=>by
    rcases hb with hb | hb
    ·exact .inl hb
    ·have:=(HI.out.1.row.block hb).1;exact .inr (by omega)
   obtain ⟨eb,eo,es,he,_,hcl,hcell,hir⟩:=SlC.at (TrmS.shown HL.out hsh HI.out.1.below.size) (Below.refl _ _) hx
   subst he
   obtain ⟨oy,ny,ky,oz,nz,kz,rfl,_,_,_,_⟩:=trmR_form hir
   have e0:=(hide_some (hcell 0 _ rfl)).2
   have e1:=(hide_some (hcell 1 _ rfl)).2
   have e2:=(hide_some (hcell 2 _ rfl)).2
   have e3:=(hide_some (hcell 3 _ rfl)).2
   simp only[Nat.add_zero] at e0
   have el:=cell_lt e0
   have HMEM:=Lib.hid (List.mem_of_getElem? hx)
   have HX:=Lib.hid hx
   clear hir hcell hx hsh hcl
   go_upto_region 6 with fail
   obtain ⟨W5,hW5⟩:∃W5,wr.alloc (.cells #[.int .i64 x.op,.int .i64 x.n,.slice oy ny ky,.slice oz nz kz] 26)=W5:=⟨_,rfl⟩
   have hb5:Below wr.heap.size wr W5:=by rw[←hW5];exact Below.one _ _
   have HE5:=Lib.hid (show BoxL W5 wr.heap.size 26 [.int .i64 x.op,.int .i64 x.n,.slice oy ny ky,.slice oz nz kz] from by rw[←hW5];exact BoxL.new rfl _ _)
   have HI5:=Lib.hid (HI.out.1.keep hb5)
   have HDS:=Lib.hid HI.out.2
   have HTR:=Lib.hid (fun q (hq:u8.ownBlock=some q)=>(HI.out.1.row.block hq).2)
   rw[hW5]
   clear hb5 hW5 e0 e1 e2 e3 el HI
   have x0:=HE5.out.cell 0 rfl
   have xl:=HE5.out.lt
   by_cases h0:x.op=0
   ·rw[h0] at x0
    obtain ⟨hn0,hn1⟩:=HA.out x HMEM.out h0
    obtain ⟨k,hk⟩:∃k:Nat,x.n=(k:Int):=⟨x.n.toNat,by omega⟩
    obtain ⟨d,hd⟩:∃d,cs[k]?=some d:=⟨_,List.getElem?_eq_getElem (by omega)⟩
    have HSN:=Lib.hid (Fd.dataOf_snoc HDS.out HX.out h0 (by rw[hk];exact hd))
    obtain ⟨osl,lsl,csl,hsl,_,hlsl⟩:=HF.out.fo.row.form
    subst hsl
    obtain ⟨g,dk,dn,dd,dst,dp,dln,dcp,rfl,d0,d1,d2,d3,d4,hrep⟩:=HF.out.fo.row.elem hd
    have hg:=cell_lt d0
    have hfb:=HF.out.fo.box.lt
    have hkl:k<lsl:=by rw[hlsl];exact (List.getElem?_eq_some_iff.1 hd).1
    rw[hk] at HE5
    have HCL:=Lib.hid (fun W (hT:Below w.heap.size w W)=>(show W.cell? ⟨g,k*5,none⟩=some (.int .i64 dk)∧W.cell? ⟨g,k*5+1,none⟩=some (.int .i64 dn)∧W.cell? ⟨g,k*5+2,none⟩=some (.int .i64 dd)∧W.cell? ⟨g,k*5+3,none⟩=some (.string dst)∧W.cell? ⟨g,k*5+4,none⟩=some (.slice dp dln dcp)∧W.cell? ⟨fb,0,none⟩=some (.slice (some ⟨g,0,none⟩) lsl csl)∧g<W.heap.size∧fb<W.heap.size from
     ⟨(hT.cell (p:=⟨g,k*5,none⟩) hg).trans d0,(hT.cell (p:=⟨g,k*5+1,none⟩) hg).trans d1,(hT.cell (p:=⟨g,k*5+2,none⟩) hg).trans d2,(hT.cell (p:=⟨g,k*5+3,none⟩) hg).trans d3,(hT.cell (p:=⟨g,k*5+4,none⟩) hg).trans d4,(hT.cell (p:=⟨fb,0,none⟩) hfb).trans (HF.out.fo.box.cell 0 rfl),Nat.lt_of_lt_of_le hg hT.size,Nat.lt_of_lt_of_le hfb hT.size⟩))
    obtain ⟨od,ld,cd,rfl,_,hld⟩:=HI5.out.row.form
    have HRP:=Lib.hid (fun W (hT:Below w.heap.size w W)=>hrep.shown (shown_more hT (S':=SR (FH (S2w S w.heap.size) fb (.slice (some ⟨g,0,none⟩) lsl csl)) (.slice od ld cd)) fun b hb=>by
     rcases hb with hb | hb
     ·exact fh_two hb
     ·have:=(HI5.out.row.block hb).1;exact .inr (by omega)) hT.size)
    have HTB:=Lib.hid (fun q (hq:(Value.slice od ld cd).ownBlock=some q)=>(HI5.out.row.block hq))
    have HLD:=Lib.hid (show ld≤100000 by rw[hld,Fd.dataOf_len _ _ _ HDS.out,List.length_take];have:=HLEN.out;omega)
    have HLD2:=Lib.hid hld
    have hS0:∀b,SR (FH (S2w S w.heap.size) fb (.slice (some ⟨g,0,none⟩) lsl csl)) (.slice od ld cd) b→b<W5.heap.size:=sr_lt HI5.out.row (Nat.le_refl _)
    have HS0:=Lib.hid hS0
    clear hd hrep d0 d1 d2 d3 d4 hld hlsl hn0 hn1 hS0
    go_upto_region 8 with fail
    clear x0 xl
    have HD5:=Lib.hid ((Below.refl W5.heap.size W5).drew)
    refine wp_region_appF 11 10 (PrR (FH (S2w S w.heap.size) fb (.slice (some ⟨g,0,none⟩) lsl csl)) (SR (FH (S2w S w.heap.size) fb (.slice (some ⟨g,0,none⟩) lsl csl)) (.slice od ld cd)) (w.heap.size+2) (.slice od ld cd) (.pointer (some ⟨fb,0,none⟩)) (.pointer (some ⟨fb,0,none⟩)) (.slice (some ⟨g,0,none⟩) lsl csl) (.pointer (some ⟨wr.heap.size,1,none⟩)) (.pointer (some ⟨g,k*5,none⟩)) (.agg #[.int .i64 dk,.int .i64 dn,.int .i64 dd,.string dst,.slice dp dln dcp]) k ds d) (fun b=>(Value.slice od ld cd).ownBlock=some b) (by kernel_rfl) (by kernel_rfl) (fun i v A B hi h _ ht=>prR_kept (fun b hb=>.inr hb) i v A B hi h ht) (fun v A B h _ hb=>by
      obtain ⟨q,l',c,h1,h2⟩:=h
      exact ⟨q,l',c,h1,h2.below hb⟩) ?hops ?hp ?hend
    case hops=>
     intro i q8 hi hip ho a w1 hex hdep hrest
     have ht:Turned (fun b=>(Value.slice od ld cd).ownBlock=some b) W5 w1:=(Turned.of_below HD5.out).next hex
     have hbw:Below w.heap.size w w1:=HI5.out.below.trans (ht.below (fun b hb=>by have:=(HTB.out _ hb).1;omega) HI5.out.below.size)
     obtain ⟨d0,d1,d2,d3,d4,f0,gl,fl⟩:=HCL.out w1 hbw
     match i,hi with
     | 0,_=>
      cases ho
      exact wp_moveF rfl ⟨_,rfl,hrest.at 8 (by kernel_rfl),Below.refl _ _⟩
     | 1,_=>
      cases ho
      exact wp_moveF rfl ⟨_,rfl,hrest.at 0 (by kernel_rfl),Below.refl _ _⟩
     | 2,_=>
      cases ho
      have h28:a.tmps.getD 28 undef=.pointer (some ⟨fb,0,none⟩):=hdep.at 1 28 (by kernel_rfl)
      exact wp_valF (v:=.pointer (some ⟨fb,0,none⟩)) (w':=w1) (by go_simp) ⟨_,rfl,rfl,Below.refl _ _⟩
     | 3,_=>
      cases ho
      have h29:a.tmps.getD 29 undef=.pointer (some ⟨fb,0,none⟩):=hdep.at 2 29 (by kernel_rfl)
      exact wp_valF (v:=.pointer (some ⟨fb,0,none⟩)) (w':=w1) (by go_simp) ⟨_,rfl,rfl,Below.refl _ _⟩
     | 4,_=>
      cases ho
      have h30:a.tmps.getD 30 undef=.pointer (some ⟨fb,0,none⟩):=hdep.at 3 30 (by kernel_rfl)
      exact wp_valF (v:=.slice (some ⟨g,0,none⟩) lsl csl) (w':=w1) (by go_simp) ⟨_,rfl,rfl,Below.refl _ _⟩
     | 5,_=>
      cases ho
      have h10:a.tmps.getD 10 undef=.pointer (some ⟨wr.heap.size,0,none⟩):=hrest.at 10 (by kernel_rfl)
      exact wp_valF (v:=.pointer (some ⟨wr.heap.size,1,none⟩)) (w':=w1) (by go_simp) ⟨_,rfl,rfl,Below.refl _ _⟩
     | 6,_=>
      cases ho
      have h32:a.tmps.getD 32 undef=.pointer (some ⟨wr.heap.size,1,none⟩):=hdep.at 5 32 (by kernel_rfl)
      have hbx:=ht.box HE5.out (fun e=>by have:=HTR.out _ e;omega)
      have c1:=hbx.cell 1 rfl
      have cl:=hbx.lt
      exact wp_valF (v:=.int .i64 k) (w':=w1) (by go_simp) ⟨_,rfl,rfl,Below.refl _ _⟩
     | 7,_=>
      cases ho
      have h31:a.tmps.getD 31 undef=.slice (some ⟨g,0,none⟩) lsl csl:=hdep.at 4 31 (by kernel_rfl)
      have h33:a.tmps.getD 33 undef=.int .i64 k:=hdep.at 6 33 (by kernel_rfl)
      exact wp_valF (v:=.pointer (some ⟨g,k*5,none⟩)) (w':=w1) (by go_simp) ⟨_,rfl,rfl,Below.refl _ _⟩
     | 8,_=>
      cases ho
      have h34:a.tmps.getD 34 undef=.pointer (some ⟨g,k*5,none⟩):=hdep.at 7 34 (by kernel_rfl)
      exact wp_valF (v:=.agg #[.int .i64 dk,.int .i64 dn,.int .i64 dd,.string dst,.slice dp dln dcp]) (w':=w1) (by go_simp) ⟨_,rfl,rfl,Below.refl _ _⟩
     | 9,_=>
      cases ho
      have h35:a.tmps.getD 35 undef=.agg #[.int .i64 dk,.int .i64 dn,.int .i64 dd,.string dst,.slice dp dln dcp]:=hdep.at 8 35 (by kernel_rfl)
      exact wp_valF (fbs_run rfl h35) ⟨_,rfl,(GrownS.one (fun b hb=>Nat.lt_of_lt_of_le (HS0.out b hb) ht.size) (HRP.out w1 hbw)).rep,Below.one _ _⟩
     | 10,_=>exact absurd rfl hip
     | i+11,hi=>exact absurd hi (by omega)
    case hp=>
     intro q8 _ ho a w1 hex hdep hrest
     cases ho
     refine wp_growS (.tmp 27) (.tmp 36) rfl (w.heap.size+2) _ _ ds [d] (hdep.at 0 27 (by kernel_rfl)) (Lib.hid (HI5.out.row.below (Below.next HD5.out hex))) rfl (Lib.hid (hdep.at 9 36 (by kernel_rfl))) (by have:=HLD.out;have:=HLD2.out;simp;omega) ?_
     intro o' len' cap' w' h1 _ h2 _
     exact ⟨_,rfl,⟨_,_,_,rfl,h1.out⟩,h2.out⟩
    case hend=>
     intro a w1 hdf hsz hex hval hrest
     obtain ⟨o9,l9,c9,h37,hrow⟩:=hval 10 _ 37 (by omega) rfl rfl
     rw[h37] at hrow
     obtain ⟨f9,ha,hf⟩:=act_spellF [false,false,false,false,false,false,false,false,false,false,false,false,false,false,false,false,false,false,false,false,false,false,false,false,false,false,false,true,true,true,true,true,true,true,true,true,true,true,false,false,false,false,false,false,false,false,false,false,false,false,false,false,false,false,false,false,false,false,false,false,false,false,false,false,false,false,false,false,false,false,false,false,false,false,false,false] (by kernel_rfl) hdf hsz hrest
     rw[←hf] at h37
     subst ha
     have ht:Turned (fun b=>(Value.slice od ld cd).ownBlock=some b) W5 w1:=(Turned.of_below HD5.out).next hex
     have htb:=ht.box HI5.out.tb (fun e=>by have:=(HTB.out _ e).1;omega)
     have hrb:=ht.box HI5.out.rb (fun e=>by have:=(HTB.out _ e).1;omega)
     have hbl:Below w.heap.size w w1:=HI5.out.below.trans (ht.below (fun b hb=>by have:=(HTB.out _ hb).1;omega) HI5.out.below.size)
     have HI9:=Lib.hid (show PrI w (FH (S2w S w.heap.size) fb (.slice (some ⟨g,0,none⟩) lsl csl)) n _ (ds++[d]) (.slice o9 l9 c9) w1 from ⟨hrb,htb,hrow,hbl⟩)
     clear hval hrest hf hex hdf hsz htb hrb hbl hrow ht
     have hlt1:lt≤100000:=by have:=HLN.out;have:=HLEN.out;omega
     simp only[spellF,h37,List.drop_succ_cons,List.drop_zero]
     go_wp2_with fail
     go_roundg (lt-(j+1))
     case measure=>omega
     case rel=>exact ⟨j+1,ds++[d],rfl,by omega,by go_num,Lib.hid ⟨HI9.out,HSN.out⟩⟩
   ·have h0b:(x.op==0)=false:=by simp[h0]
    have HNO:=Lib.hid (Fd.prim_none (F:=Fd.foldF) (n:=n) (Fd.dataOf_stop HDS.out HX.out h0))
    have e0:=HI5.out.tb.cell 0 rfl
    have e1:=HI5.out.tb.cell 1 rfl
    have e2:=HI5.out.tb.cell 2 rfl
    have e3:=HI5.out.tb.cell 3 rfl
    have el:=HI5.out.tb.lt
    have r0:=HI5.out.rb.cell 0 rfl
    have r1:=HI5.out.rb.cell 1 rfl
    have r2:=HI5.out.rb.cell 2 rfl
    have r3:=HI5.out.rb.cell 3 rfl
    have k0:=HI5.out.rb.free 0
    have k1:=HI5.out.rb.free 1
    have k2:=HI5.out.rb.free 2
    have k3:=HI5.out.rb.free 3
    have rl:=HI5.out.rb.lt
    have HBF:=Lib.hid (set4_box HI5.out.rb (.int .i64 10) (.int .i64 n) (.slice none 0 0) (.slice (some ⟨eb,eo,none⟩) lt ct))
    have q0:=HBF.out.cell 0 rfl
    have q1:=HBF.out.cell 1 rfl
    have q2:=HBF.out.cell 2 rfl
    have q3:=HBF.out.cell 3 rfl
    have HBB:=Lib.hid (HI5.out.below.trans (set4_below W5 (b:=w.heap.size) (n:=w.heap.size) (by omega) (.int .i64 10) (.int .i64 n) (.slice none 0 0) (.slice (some ⟨eb,eo,none⟩) lt ct)))
    go_wp2_with fail
    refine bodyPost_ret (v:=.agg #[.int .i64 10,.int .i64 n,.slice none 0 0,.slice (some ⟨eb,eo,none⟩) lt ct]) (by simp[results,Tryz.f38,go_sem,q0,q1,q2,q3]) rfl ?_
    rw[←HY.out,HNO.out]
    exact FoPostE.same HF.out ⟨_,_,_,_,_,_,_,_,rfl,trmR_prim HN.out (TrmS.shown HL.out (shown_more HBB.out fun b h=>.inl h) HBB.out.size),HBB.out⟩
  ·obtain rfl:lt=j:=by omega
   have HDS:=Lib.hid (show Fd.dataOf cs l=some ds from by have h:=HI.out.2;rwa[List.take_of_length_le (by rw[←HLN.out];exact Nat.le_refl _)] at h)
   have HI6:=Lib.hid HI.out.1
   clear HI hj hjl
   obtain ⟨⟨fd,fm,fok⟩,hfold⟩:∃r,Prims.fold n ds=r:=⟨_,rfl⟩
   have HFF:=Lib.hid (show Fd.foldF n ds=if fok=true∧fm=0∧Dat.right fd 0=true then some fd else none from by unfold Fd.foldF;rw[hfold])
   have HFO:=Lib.hid (fold_anyS (FH (S2w S w.heap.size) fb sl) n HN.out.1 HN.out.2 ds u8 wr.heap.size wr HI6.out.row.rep (Nat.le_refl _))
   rw[hfold] at HFO
   clear hfold
   go_wp2_with fail
   refine HFO.out.mono ?_
   rintro e w7 ⟨fk,fn,fdd,fs,fo,fl,fc,rfl,hrep,hb7⟩
   have HREP:=Lib.hid hrep
   have HI7:=Lib.hid (HI6.out.keep hb7)
   have hz7:=hb7.size
   clear hrep HFO HI6
   dsimp only
   go_upto_region 11 with fail
   obtain ⟨W8,hW8⟩:∃W8,w7.alloc (.cells #[.int .i64 fk,.int .i64 fn,.int .i64 fdd,.string fs,.slice fo fl fc] 45)=W8:=⟨_,rfl⟩
   have hb8:Below w7.heap.size w7 W8:=by rw[←hW8];exact Below.one _ _
   have HD8:=Lib.hid (show BoxL W8 w7.heap.size 45 [.int .i64 fk,.int .i64 fn,.int .i64 fdd,.string fs,.slice fo fl fc] from by rw[←hW8];exact BoxL.new rfl _ _)
   have HI8:=Lib.hid (HI7.out.keep hb8)
   have HREP8:=Lib.hid (HREP.out.shown (Shown.below hb8) (Nat.le_trans hz7 hb8.size))
   rw[hW8]
   clear hb8 hW8 HI7 HREP hb7 hz7
   obtain ⟨rt,hrt⟩:∃rt,Dat.right fd 0=rt:=⟨_,rfl⟩
   have HRT:=Lib.hid hrt
   have HRC:=Lib.hid (dright_any fd _ W8.heap.size W8 HREP8.out.unhide (Nat.le_refl _))
   rw[hrt] at HFF HRC
   clear hrt
   obtain ⟨q,hq⟩:∃q,(!(fok&&(decide (fm=0)&&rt)))=q:=⟨_,rfl⟩
   have HQ:=Lib.hid hq
   clear hq
   go_cut [56] (fun c wx=>c=.bool q∧Below W8.heap.size W8 wx)
   case first=>as_aux_lemma=>
    have x0:=HD8.out.cell 0 rfl
    have x1:=HD8.out.cell 1 rfl
    have x2:=HD8.out.cell 2 rfl
    have x3:=HD8.out.cell 3 rfl
    have x4:=HD8.out.cell 4 rfl
    have xl:=HD8.out.lt
    cases fok with
    | false=>
     obtain rfl:true=q:=by rw[←HQ.out];rfl
     go_wp2_with fail
     go_meet
     exact ⟨rfl,Below.refl _ _⟩
    | true=>
     by_cases hm:fm=0
     ·subst hm
      obtain rfl:(!rt)=q:=by rw[←HQ.out];cases rt<;>rfl
      go_wp2_with fail
      refine HRC.out.mono ?_
      rintro e w9 ⟨rfl,hb9⟩
      have HB9:=Lib.hid hb9
      clear hb9 x0 x1 x2 x3 x4 xl
      cases rt
      ·go_wp2_with fail
       go_meet
       exact ⟨rfl,HB9.out⟩
      ·go_wp2_with fail
       go_meet
       exact ⟨rfl,HB9.out⟩
     ·have hmb:(fm==0)=false:=by simp[hm]
      obtain rfl:true=q:=by rw[←HQ.out,decide_eq_false hm];rfl
      go_wp2_with fail
      go_meet
      exact ⟨rfl,Below.refl _ _⟩
   case rest=>
    obtain ⟨rfl,hbx⟩:=hcut
    have HI9:=Lib.hid (HI8.out.keep hbx)
    have HD9:=Lib.hid (HD8.out.keep hbx)
    have HREP9:=Lib.hid (HREP8.out.shown (Shown.below hbx) hbx.size)
    clear hbx HI8 HD8 HREP8
    cases q with
    | true=>
     have HNO:=Lib.hid (show Fd.prim Fd.foldF n l cs=(.mk 10 n [] l,cs) from by
      unfold Fd.prim
      rw[HDS.out]
      show (match Fd.foldF n ds with | none=>_ | some d=>_)=_
      rw[HFF.out,if_neg]
      rintro ⟨h1,h2,h3⟩
      have:=HQ.out
      rw[h1,h2,h3] at this
      cases this)
     have e0:=HI9.out.tb.cell 0 rfl
     have e1:=HI9.out.tb.cell 1 rfl
     have e2:=HI9.out.tb.cell 2 rfl
     have e3:=HI9.out.tb.cell 3 rfl
     have el:=HI9.out.tb.lt
     have r0:=HI9.out.rb.cell 0 rfl
     have r1:=HI9.out.rb.cell 1 rfl
     have r2:=HI9.out.rb.cell 2 rfl
     have r3:=HI9.out.rb.cell 3 rfl
     have k0:=HI9.out.rb.free 0
     have k1:=HI9.out.rb.free 1
     have k2:=HI9.out.rb.free 2
     have k3:=HI9.out.rb.free 3
     have rl:=HI9.out.rb.lt
     have HBF:=Lib.hid (set4_box HI9.out.rb (.int .i64 10) (.int .i64 n) (.slice none 0 0) (.slice ot lt ct))
     have q0:=HBF.out.cell 0 rfl
     have q1:=HBF.out.cell 1 rfl
     have q2:=HBF.out.cell 2 rfl
     have q3:=HBF.out.cell 3 rfl
     have HBB:=Lib.hid (HI9.out.below.trans (set4_below wc (b:=w.heap.size) (n:=w.heap.size) (by omega) (.int .i64 10) (.int .i64 n) (.slice none 0 0) (.slice ot lt ct)))
     go_wp2_with fail
     refine bodyPost_ret (v:=.agg #[.int .i64 10,.int .i64 n,.slice none 0 0,.slice ot lt ct]) (by simp[results,Tryz.f38,go_sem,q0,q1,q2,q3]) rfl ?_
     rw[←HY.out,HNO.out]
     exact FoPostE.same HF.out ⟨_,_,_,_,_,_,_,_,rfl,trmR_prim HN.out (TrmS.shown HL.out (shown_more HBB.out fun b h=>.inl h) HBB.out.size),HBB.out⟩
    | false=>
     have HYES:=Lib.hid (show Fd.prim Fd.foldF n l cs=(.mk 0 cs.length [] [],cs++[fd])∧Fd.foldF n ds=some fd∧rt=true from by
      have hq:=HQ.out
      have h3:fok=true∧fm=0∧rt=true:=by
       cases fok<;>cases rt<;>simp at hq ⊢
       exact hq
      have h4:Fd.foldF n ds=some fd:=by rw[HFF.out,if_pos h3]
      refine ⟨?_,h4,h3.2.2⟩
      unfold Fd.prim
      rw[HDS.out]
      show (match Fd.foldF n ds with | none=>_ | some d=>_)=_
      rw[h4])
     obtain ⟨osl,lsl,csl,hsl,_,hlsl⟩:=HF.out.fo.row.form
     subst hsl
     subst hlsl
     have hb9:=HI9.out.below
     have HF9:=Lib.hid (foE_two HF.out hb9 (by have:=HI9.out.tb.lt;omega))
     have HD10:=Lib.hid ((Below.refl wc.heap.size wc).drew)
     go_upto_region 13 with fail
     go_cut [] (fun wx=>∃o' l' c',Hid (FoE b0 wx (S2w S w.heap.size) fb base (.slice o' l' c') (cs++[fd]))∧Hid (Turned (FT fb (.slice osl cs.length csl)) wc wx)∧Hid (∀q,(Value.slice o' l' c').ownBlock=some q→(Value.slice osl cs.length csl).ownBlock=some q∨wc.heap.size≤q))
     case first=>as_aux_lemma=>
      refine wp_region_newG 7 (GvR (FH (S2w S w.heap.size) fb (.slice osl cs.length csl)) (.pointer (some ⟨fb,0,none⟩)) (.slice osl cs.length csl) (.agg #[.int .i64 fk,.int .i64 fn,.int .i64 fdd,.string fs,.slice fo fl fc]) cs.length) (by kernel_rfl) (by kernel_rfl) (fun i v A B h _ hb=>gvR_kept i v A B h hb) ?hops ?hend
      case hops=>
       intro i q8 hi ho a w1 hex hdep hrest
       have hbw:Below w.heap.size w w1:=hb9.trans ((Below.next HD10.out hex).mono hb9.size)
       have hbc:Below wc.heap.size wc w1:=Below.next HD10.out hex
       have f0:=(hbw.cell (p:=⟨fb,0,none⟩) HF.out.fo.box.lt).trans (HF.out.fo.box.cell 0 rfl)
       have ffl:=Nat.lt_of_lt_of_le HF.out.fo.box.lt hbw.size
       have x0:=(HD9.out.keep hbc).cell 0 rfl
       have x1:=(HD9.out.keep hbc).cell 1 rfl
       have x2:=(HD9.out.keep hbc).cell 2 rfl
       have x3:=(HD9.out.keep hbc).cell 3 rfl
       have x4:=(HD9.out.keep hbc).cell 4 rfl
       have xl:=(HD9.out.keep hbc).lt
       match i,hi with
      | 0,_=>
       cases ho
       exact wp_moveF rfl ⟨_,rfl,hrest.at 0 (by kernel_rfl),Below.refl _ _⟩
      | 1,_=>
       cases ho
       have h58:a.tmps.getD 58 undef=.pointer (some ⟨fb,0,none⟩):=hdep.at 0 58 (by kernel_rfl)
       exact wp_valF (v:=.pointer (some ⟨fb,0,none⟩)) (w':=w1) (by go_simp) ⟨_,rfl,rfl,Below.refl _ _⟩
      | 2,_=>
       cases ho
       have h59:a.tmps.getD 59 undef=.pointer (some ⟨fb,0,none⟩):=hdep.at 1 59 (by kernel_rfl)
       exact wp_valF (v:=.pointer (some ⟨fb,0,none⟩)) (w':=w1) (by go_simp) ⟨_,rfl,rfl,Below.refl _ _⟩
      | 3,_=>
       cases ho
       have h60:a.tmps.getD 60 undef=.pointer (some ⟨fb,0,none⟩):=hdep.at 2 60 (by kernel_rfl)
       exact wp_valF (v:=.slice osl cs.length csl) (w':=w1) (by go_simp) ⟨_,rfl,rfl,Below.refl _ _⟩
      | 4,_=>
       cases ho
       have h11:a.tmps.getD 11 undef=.pointer (some ⟨w7.heap.size,0,none⟩):=hrest.at 11 (by kernel_rfl)
       exact wp_valF (v:=.agg #[.int .i64 fk,.int .i64 fn,.int .i64 fdd,.string fs,.slice fo fl fc]) (w':=w1) (by go_simp) ⟨_,rfl,rfl,Below.refl _ _⟩
      | 5,_=>
       cases ho
       have h61:a.tmps.getD 61 undef=.slice osl cs.length csl:=hdep.at 3 61 (by kernel_rfl)
       exact wp_valF (v:=.int .i64 cs.length) (w':=w1) (by go_simp) ⟨_,rfl,rfl,Below.refl _ _⟩
      | 6,_=>
       cases ho
       exact wp_valF (fbs_zrun rfl) ⟨_,rfl,(GrownS.one (fun b hb=>Nat.lt_of_lt_of_le (HF9.out.fo.lt b hb) hbc.size) (zeroD_rep _ _)).rep,Below.one _ _⟩
      | i+7,hi=>exact absurd hi (by omega)
      case hend=>
       intro a w1 hdf hsz hex hval hrest
       have hbw:Below w.heap.size w w1:=hb9.trans ((Below.next HD10.out hex).mono hb9.size)
       have hbc:Below wc.heap.size wc w1:=Below.next HD10.out hex
       have h58:a.tmps.getD 58 undef=.pointer (some ⟨fb,0,none⟩):=hval 0 _ 58 (by omega) rfl rfl
       have h59:a.tmps.getD 59 undef=.pointer (some ⟨fb,0,none⟩):=hval 1 _ 59 (by omega) rfl rfl
       have h60:a.tmps.getD 60 undef=.pointer (some ⟨fb,0,none⟩):=hval 2 _ 60 (by omega) rfl rfl
       have h61:a.tmps.getD 61 undef=.slice osl cs.length csl:=hval 3 _ 61 (by omega) rfl rfl
       have h62:a.tmps.getD 62 undef=.agg #[.int .i64 fk,.int .i64 fn,.int .i64 fdd,.string fs,.slice fo fl fc]:=hval 4 _ 62 (by omega) rfl rfl
       have h63:a.tmps.getD 63 undef=.int .i64 cs.length:=hval 5 _ 63 (by omega) rfl rfl
       have h64:=hval 6 _ 64 (by omega) rfl rfl
       obtain ⟨v64,hv64⟩:∃v,a.tmps.getD 64 undef=v:=⟨_,rfl⟩
       rw[hv64] at h64
       have HZ:=Lib.hid (show RepS (hide w1 (FH (S2w S w.heap.size) fb (.slice osl cs.length csl))) w1.heap.size [Prims.zeroD] v64 from h64)
       obtain ⟨f9,ha,hf⟩:=act_spellF [false,false,false,false,false,false,false,false,false,false,false,false,false,false,false,false,false,false,false,false,false,false,false,false,false,false,false,false,false,false,false,false,false,false,false,false,false,false,false,false,false,false,false,false,false,false,false,false,false,false,false,false,false,false,false,false,false,false,true,true,true,true,true,true,true,false,false,false,false,false,false,false,false,false,false,false] (by kernel_rfl) hdf hsz hrest
       rw[←hf] at h58 h59 h60 h61 h62 h63 hv64
       subst ha
       simp only[spellF,h58,h59,h60,h61,h62,h63,hv64]
       have HFW:=Lib.hid (HF9.out.fo.below hbc)
       have HRP:=Lib.hid (HREP9.out.shown (Shown.below hbc) hbc.size)
       have HBC:=Lib.hid hbc
       have HCL:=Lib.hid (show cs.length+1≤1000000 by have:=HCS.out;omega)
       clear hval hrest hf hex hdf hsz h58 h59 h60 h61 h62 h63 hv64 h64 hbw hbc
       refine wpAny_step (f:=5) [7] (by kernel_rfl) (by simp) ?_
       intro i hi o ho
       obtain rfl:i=7:=by simpa using hi
       cases ho
       refine wpList_plain rfl fun K hK=>?_
       refine wp_growS (.tmp 61) (.tmp 64) rfl base _ _ cs [Prims.zeroD] rfl (Lib.hid HFW.out.row) rfl HZ (by have:=HCL.out;simpa using this) ?_
       intro o' len' cap' W9 h1 _ h3 h4
       refine hK _ _ ⟨rfl,?_⟩
       clear hK
       obtain ⟨g',zk,zn,zd,zs,zp,zln,zcp,rfl,z0,z1,z2,z3,z4,_⟩:=h1.out.elem (j:=cs.length) (x:=Prims.zeroD) (by simp)
       obtain rfl:len'=cs.length+1:=by have:=grownS_len h1.out;simpa using this
       have HH:Half W9 (S2w S w.heap.size) fb base (.slice osl cs.length csl) cs g' (cs.length+1) cap':=⟨h3.out.box HFW.out.box (fun e=>HFW.out.row.apart _ e (.inr rfl)),h1.out⟩
       have hd:=HRP.out.shown h4.out h3.out.size
       have hgd:Dat.right fd 0=true∧Dat.bulk fd≤1048576:=⟨HRT.out.trans HYES.out.2.2,HBK.out ds fd HDS.out HYES.out.2.1⟩
       have HFA:=Lib.hid (give_fin HF9.out HBC.out h1.out h3.out h4.out (half_A HH hd) hgd HCS.out)
       have HFB:=Lib.hid (give_fin HF9.out HBC.out h1.out h3.out h4.out (half_B HH hd) hgd HCS.out)
       have gl:=cell_lt z0
       obtain ⟨_,_,_,xs9,hown9,_⟩:=h1.out
       obtain ⟨L9,hL9,_⟩:=own_box (show W9.ownsRow base 45 5 (.slice (some ⟨g',0,none⟩) (cs.length+1) cap') (cs.length+1) xs9 from by simpa using hown9)
       have y0:=hL9.free (cs.length*5)
       have y1:=hL9.free (cs.length*5+1)
       have y2:=hL9.free (cs.length*5+2)
       have y3:=hL9.free (cs.length*5+3)
       have y4:=hL9.free (cs.length*5+4)
       have bz:=HH.box.free 0
       have ffl:=HH.box.lt
       have b0':=HH.box.cell 0 rfl
       have hne:=HH.ne
       have hne2:=Ne.symm HH.ne
       have hix:cs.length<cs.length+1:=by omega
       have hl1:cs.length+1≤100000:=HCS.out
       clear HH hd hgd h1 h3 h4 hown9 hL9
       refine anyT_step (f:=4) [8,10] (by kernel_rfl) (by simp) ?_
       intro i hi o ho
       simp only[List.mem_cons,List.not_mem_nil,or_false] at hi
       rcases hi with rfl | rfl
       ·cases ho
        go_wp2_with fail
        refine anyT_step (f:=3) [9,10] (by kernel_rfl) (by simp) ?_
        intro i hi o ho
        simp only[List.mem_cons,List.not_mem_nil,or_false] at hi
        rcases hi with rfl | rfl
        ·cases ho
         go_wp2_with fail
         refine anyT_step (f:=2) [10] (by kernel_rfl) (by simp) ?_
         intro i hi o ho
         simp only[List.mem_cons,List.not_mem_nil,or_false] at hi
         obtain rfl:=hi
         cases ho
         go_wp2_with fail
         refine anyT_step (f:=1) [11] (by kernel_rfl) (by simp) ?_
         intro i hi o ho
         simp only[List.mem_cons,List.not_mem_nil,or_false] at hi
         obtain rfl:=hi
         cases ho
         go_wp2_with fail
         refine anyT_step (f:=0) [12] (by kernel_rfl) (by simp) ?_
         intro i hi o ho
         simp only[List.mem_cons,List.not_mem_nil,or_false] at hi
         obtain rfl:=hi
         cases ho
         go_wp2_with fail
         refine anyT_end (by kernel_rfl) ?_
         go_wp2_with fail
         go_meet
         exact HFA.out
        ·cases ho
         go_wp2_with fail
         refine anyT_step (f:=2) [9,11] (by kernel_rfl) (by simp) ?_
         intro i hi o ho
         simp only[List.mem_cons,List.not_mem_nil,or_false] at hi
         rcases hi with rfl | rfl
         ·cases ho
          go_wp2_with fail
          refine anyT_step (f:=1) [11] (by kernel_rfl) (by simp) ?_
          intro i hi o ho
          simp only[List.mem_cons,List.not_mem_nil,or_false] at hi
          obtain rfl:=hi
          cases ho
          go_wp2_with fail
          refine anyT_step (f:=0) [12] (by kernel_rfl) (by simp) ?_
          intro i hi o ho
          simp only[List.mem_cons,List.not_mem_nil,or_false] at hi
          obtain rfl:=hi
          cases ho
          go_wp2_with fail
          refine anyT_end (by kernel_rfl) ?_
          go_wp2_with fail
          go_meet
          exact HFA.out
         ·cases ho
          go_wp2_with fail
          refine anyT_step (f:=1) [9,12] (by kernel_rfl) (by simp) ?_
          intro i hi o ho
          simp only[List.mem_cons,List.not_mem_nil,or_false] at hi
          rcases hi with rfl | rfl
          ·cases ho
           go_wp2_with fail
           refine anyT_step (f:=0) [12] (by kernel_rfl) (by simp) ?_
           intro i hi o ho
           simp only[List.mem_cons,List.not_mem_nil,or_false] at hi
           obtain rfl:=hi
           cases ho
           go_wp2_with fail
           refine anyT_end (by kernel_rfl) ?_
           go_wp2_with fail
           go_meet
           exact HFA.out
          ·cases ho
           go_wp2_with fail
           refine anyT_step (f:=0) [9] (by kernel_rfl) (by simp) ?_
           intro i hi o ho
           simp only[List.mem_cons,List.not_mem_nil,or_false] at hi
           obtain rfl:=hi
           cases ho
           go_wp2_with fail
           refine anyT_end (by kernel_rfl) ?_
           go_wp2_with fail
           go_meet
           exact HFB.out
       ·cases ho
        go_wp2_with fail
        refine anyT_step (f:=3) [8,11] (by kernel_rfl) (by simp) ?_
        intro i hi o ho
        simp only[List.mem_cons,List.not_mem_nil,or_false] at hi
        rcases hi with rfl | rfl
        ·cases ho
         go_wp2_with fail
         refine anyT_step (f:=2) [9,11] (by kernel_rfl) (by simp) ?_
         intro i hi o ho
         simp only[List.mem_cons,List.not_mem_nil,or_false] at hi
         rcases hi with rfl | rfl
         ·cases ho
          go_wp2_with fail
          refine anyT_step (f:=1) [11] (by kernel_rfl) (by simp) ?_
          intro i hi o ho
          simp only[List.mem_cons,List.not_mem_nil,or_false] at hi
          obtain rfl:=hi
          cases ho
          go_wp2_with fail
          refine anyT_step (f:=0) [12] (by kernel_rfl) (by simp) ?_
          intro i hi o ho
          simp only[List.mem_cons,List.not_mem_nil,or_false] at hi
          obtain rfl:=hi
          cases ho
          go_wp2_with fail
          refine anyT_end (by kernel_rfl) ?_
          go_wp2_with fail
          go_meet
          exact HFA.out
         ·cases ho
          go_wp2_with fail
          refine anyT_step (f:=1) [9,12] (by kernel_rfl) (by simp) ?_
          intro i hi o ho
          simp only[List.mem_cons,List.not_mem_nil,or_false] at hi
          rcases hi with rfl | rfl
          ·cases ho
           go_wp2_with fail
           refine anyT_step (f:=0) [12] (by kernel_rfl) (by simp) ?_
           intro i hi o ho
           simp only[List.mem_cons,List.not_mem_nil,or_false] at hi
           obtain rfl:=hi
           cases ho
           go_wp2_with fail
           refine anyT_end (by kernel_rfl) ?_
           go_wp2_with fail
           go_meet
           exact HFA.out
          ·cases ho
           go_wp2_with fail
           refine anyT_step (f:=0) [9] (by kernel_rfl) (by simp) ?_
           intro i hi o ho
           simp only[List.mem_cons,List.not_mem_nil,or_false] at hi
           obtain rfl:=hi
           cases ho
           go_wp2_with fail
           refine anyT_end (by kernel_rfl) ?_
           go_wp2_with fail
           go_meet
           exact HFB.out
        ·cases ho
         go_wp2_with fail
         refine anyT_step (f:=2) [8,12] (by kernel_rfl) (by simp) ?_
         intro i hi o ho
         simp only[List.mem_cons,List.not_mem_nil,or_false] at hi
         rcases hi with rfl | rfl
         ·cases ho
          go_wp2_with fail
          refine anyT_step (f:=1) [9,12] (by kernel_rfl) (by simp) ?_
          intro i hi o ho
          simp only[List.mem_cons,List.not_mem_nil,or_false] at hi
          rcases hi with rfl | rfl
          ·cases ho
           go_wp2_with fail
           refine anyT_step (f:=0) [12] (by kernel_rfl) (by simp) ?_
           intro i hi o ho
           simp only[List.mem_cons,List.not_mem_nil,or_false] at hi
           obtain rfl:=hi
           cases ho
           go_wp2_with fail
           refine anyT_end (by kernel_rfl) ?_
           go_wp2_with fail
           go_meet
           exact HFA.out
          ·cases ho
           go_wp2_with fail
           refine anyT_step (f:=0) [9] (by kernel_rfl) (by simp) ?_
           intro i hi o ho
           simp only[List.mem_cons,List.not_mem_nil,or_false] at hi
           obtain rfl:=hi
           cases ho
           go_wp2_with fail
           refine anyT_end (by kernel_rfl) ?_
           go_wp2_with fail
           go_meet
           exact HFB.out
         ·cases ho
          go_wp2_with fail
          refine anyT_step (f:=1) [8] (by kernel_rfl) (by simp) ?_
          intro i hi o ho
          simp only[List.mem_cons,List.not_mem_nil,or_false] at hi
          obtain rfl:=hi
          cases ho
          go_wp2_with fail
          refine anyT_step (f:=0) [9] (by kernel_rfl) (by simp) ?_
          intro i hi o ho
          simp only[List.mem_cons,List.not_mem_nil,or_false] at hi
          obtain rfl:=hi
          cases ho
          go_wp2_with fail
          refine anyT_end (by kernel_rfl) ?_
          go_wp2_with fail
          go_meet
          exact HFB.out
     case rest=>
      obtain ⟨o',l',c',HG,HT,HB⟩:=hcut
      obtain rfl:l'=cs.length+1:=by have:=grownS_len HG.out.fo.row;simpa using this
      have hfl:=HF.out.fo.box.lt
      have HRB:=Lib.hid (HT.out.box HI9.out.rb (fun e=>by
       rcases e with e | e
       ·omega
       ·have:=(HF.out.fo.row.block e).2;omega))
      have f0:=HG.out.fo.box.cell 0 rfl
      have ffl:=HG.out.fo.box.lt
      have r0:=HRB.out.cell 0 rfl
      have r1:=HRB.out.cell 1 rfl
      have r2:=HRB.out.cell 2 rfl
      have r3:=HRB.out.cell 3 rfl
      have k0:=HRB.out.free 0
      have k1:=HRB.out.free 1
      have k2:=HRB.out.free 2
      have k3:=HRB.out.free 3
      have rl:=HRB.out.lt
      have hl1:cs.length+1≤100000:=HCS.out
      have HBF:=Lib.hid (set4_box HRB.out (.int .i64 0) (.int .i64 cs.length) (.slice none 0 0) (.slice none 0 0))
      have q0:=HBF.out.cell 0 rfl
      have q1:=HBF.out.cell 1 rfl
      have q2:=HBF.out.cell 2 rfl
      have q3:=HBF.out.cell 3 rfl
      clear hb9
      go_wp2_with fail
      refine bodyPost_ret (v:=.agg #[.int .i64 0,.int .i64 cs.length,.slice none 0 0,.slice none 0 0]) (by simp[results,Tryz.f38,go_sem,q0,q1,q2,q3]) rfl ?_
      have ht4:=set4_turned wc (S:=fun b=>b=w.heap.size) (b:=w.heap.size) rfl (.int .i64 0) (.int .i64 cs.length) (.slice none 0 0) (.slice none 0 0)
      have hbw:=HI9.out.below
      have hb0:b0≤w.heap.size:=Nat.le_trans HF.out.lf (Nat.le_of_lt hfl)
      rw[←HY.out,HYES.out.1]
      refine ⟨_,_,_,_,_,_,_,_,.slice o' (cs.length+1) c',rfl,foE_back HG.out ht4 hfl hb0 (Nat.le_trans hb0 (Nat.le_trans hbw.size HT.out.size)),?_,?_,fun q hq=>(HB.out q hq).imp id fun h=>Nat.le_trans hbw.size h⟩
      ·exact trmR_iff.2 ⟨_,_,rfl,⟨by omega,by omega⟩,⟨by omega,by omega⟩,⟨none,0,0,rfl,rfl,by omega,by omega,rfl,rfl⟩,⟨none,0,0,rfl,rfl,by omega,by omega,rfl,rfl⟩⟩
      ·exact ((Turned.of_below (S:=FT fb (.slice osl cs.length csl)) hbw).next HT.out).trans ht4 (fun b hb h=>absurd h (by omega))
end
end Go.Proofs.YtgbibibmpoekiaaGreatDoor
