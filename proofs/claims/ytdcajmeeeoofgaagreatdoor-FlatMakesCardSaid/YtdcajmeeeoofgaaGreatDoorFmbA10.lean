/- .. -/
import Derived.RangeFuncNested
import Derived.RangeFuncLeaves
import Derived.RangeFuncCalls
import Derived.Shelf.Abstract
import Derived.Shelf.RegionOpen
import Derived.OwnWalkIn
import Derived.TacticsInMore
import Derived.LoopNIn
import Derived.LoopIn
import Derived.Sort.LoopGhostIn
import Derived.WalkSpells
import Derived.Deep.AppendLies
import Derived.Deep.DeepCutAuto
import Derived.Deep.RegionLaw
import Derived.Test.YtdcajmeeeoofgaaGreatDoorFmbA09
open Go.Proofs.Tryz
set_option maxRecDepth 100000
set_option maxHeartbeats 16000000
namespace Go.Proofs.YtdcajmeeeoofgaaGreatDoor
section
open Go Go.RowKit
end
section
open Go Go.RowKit Go.Shelf
end
section
open Go Go.RowKit Go.Shelf
attribute [local go_sem] Oper.semAt_some
theorem zaF {W:World} {base n size:Nat} {e:TypeId} {v:Value} {xs:List Value} (h:W.ownsRow base e size v n xs):∀r,v.ownBlock=some r→∃cs f,W.heap[r]?=some (.cells cs e f):=by
 intro r hr
 rcases h.2 with ⟨rfl,_⟩ | ⟨g,cap,cur,rfl,_,hgb,_⟩
 ·cases hr
 ·simp only[Value.ownBlock,Option.some.injEq] at hr
  subst hr
  exact ⟨_,_,hgb⟩
end
section
open Go Go.RowKit
def Sub (S:Nat→Prop) (U W:World):Prop:=∀b o v,U.cell? ⟨b,o,none⟩=some v→b<W.heap.size∧¬S b∧W.cell? ⟨b,o,none⟩=some v
theorem Sub.step {S S':Nat→Prop} {U W W':World} (h:Sub S U W) (hs:W.heap.size≤W'.heap.size) (hb:∀b,b<W.heap.size→¬S b→W'.heap[b]?=W.heap[b]?) (hS:∀b,b<W.heap.size→S' b→S b):Sub S' U W':=fun b o v hc=>by
 obtain ⟨h1,h2,h3⟩:=h b o v hc
 refine ⟨Nat.lt_of_lt_of_le h1 hs,fun hn=>h2 (hS b h1 hn),?_⟩
 unfold World.cell? at h3 ⊢
 rw[show W'.heap[({ block:=b,off:=o,spot:=none }:Addr).block]?=W.heap[b]? from hb b h1 h2]
 exact h3
theorem Sub.below {S:Nat→Prop} {U W W':World} (h:Sub S U W) (hb:Below W.heap.size W W'):Sub S U W':=h.step hb.size (fun b hlt _=>hb.block b hlt) (fun _ _ h=>h)
theorem Sub.set {S:Nat→Prop} {U W:World} (h:Sub S U W) (a:Addr) (v:Value) (ha:S a.block):Sub S U (W.setCell a v):=h.step (by rw[World.size_setCell];exact Nat.le_refl _) (fun b _ hn=>zag W a v (fun e=>hn (e ▸ ha))) (fun _ _ h=>h)
theorem Sub.of_gap {S:Nat→Prop} {W:World} {H:Nat} (hS:∀b,S b→b<H):Sub S (gap W 0 H) W:=fun b o v hc=>by
 obtain ⟨h1,h2⟩:=zfv hc
 exact ⟨zac h2,fun hb=>h1 ⟨Nat.zero_le _,hS b hb⟩,h2⟩
theorem Sub.cells {S:Nat→Prop} {U W:World} (h:Sub S U W):∀b o v,U.cell? ⟨b,o,none⟩=some v→W.cell? ⟨b,o,none⟩=some v:=fun b o v hc=>(h b o v hc).2.2
theorem zeH {U W:World} {B:Nat} {l:List Ins} {v:Value} (h:SlC U B 5 (InsR U B) l v) (hk:∀b o u,U.cell? ⟨b,o,none⟩=some u→W.cell? ⟨b,o,none⟩=some u):SlC W B 5 (InsR W B) l v:=h.cells hk fun _ _ _ h=>h.cells hk
end
section
open Go.RowKit
theorem RepC.news {w:World} {B b:Nat}:∀{l:List Dat} {off:Nat},RepC w B l b off→∃xs,CellsD w B l xs∧∀j u,xs[j]?=some u→w.cell? ⟨b,off+j,none⟩=some u
 | [],_,_=>⟨[],rfl,fun j u h=>by simp at h⟩
 | x::l,off,h=>by
  rw[RepC] at h
  obtain ⟨⟨c0,c1,c2,c3,c4,h0,h1,h2,h3,h4,hx⟩,hl⟩:=h
  obtain ⟨xs,hc,hr⟩:=RepC.news hl
  refine ⟨c0::c1::c2::c3::c4::xs,⟨c0,c1,c2,c3,c4,xs,rfl,hx,hc⟩,fun j u hj=>?_⟩
  match j,hj with
  | 0,hj=>
   obtain rfl:c0=u:=by simpa using hj
   exact h0
  | 1,hj=>
   obtain rfl:c1=u:=by simpa using hj
   exact h1
  | 2,hj=>
   obtain rfl:c2=u:=by simpa using hj
   exact h2
  | 3,hj=>
   obtain rfl:c3=u:=by simpa using hj
   exact h3
  | 4,hj=>
   obtain rfl:c4=u:=by simpa using hj
   exact h4
  | j+5,hj=>
   have:=hr j u (by simpa using hj)
   rwa[show off+5+j=off+(j+5) by omega] at this
theorem ze4 {w:World} {B:Nat}:∀{l:List Dat} {xs:List Value},CellsD w B l xs→∀u∈xs,u.oneCell'=true
 | [],_,h,u,hu=>by rw[CellsD] at h;subst h;cases hu
 | .mk k n d s l'::l,xs,⟨c0,c1,c2,c3,c4,r,he,hx,hr⟩,u,hu=>by
  subst he
  obtain ⟨sl,he,_,_,_,_,o,len,cap,rfl,_⟩:=hx.open
  simp only[Value.agg.injEq,Array.mk.injEq,List.cons.injEq,and_true] at he
  obtain ⟨rfl,rfl,rfl,rfl,rfl⟩:=he
  simp only[List.mem_cons] at hu
  rcases hu with rfl | rfl | rfl | rfl | rfl | hu
  ·rfl
  ·rfl
  ·rfl
  ·rfl
  ·rfl
  ·exact ze4 hr u hu
theorem zfC (l:List Dat) (v:Value) (B:Nat) (w:World) (hv:RepS w B l v) (hB:B≤w.heap.size) (hm:l.length≤1000000) :
  Calls prog 14 #[v] w fun e w'=>∃v',e=.returned v'∧RepS (gap w' B w.heap.size) w'.heap.size l v'∧(∃o len cap,v'=.slice o len cap)∧Below w.heap.size w w':=by
 obtain ⟨o,len,cap,rfl,hlen,hcap,hmax,h4⟩:=hv
 have HL:=zh hlen
 have hm':len≤1000000:=by omega
 cases o with
 | none=>
  obtain ⟨rfl,rfl⟩:=h4
  simp at hlen
  subst hlen
  clear HL
  have he:=fun (w:World)=>Lib.run_eql_slice_nil (P:=prog) w 22 41 none 0 0 0 0 underlying22
  go_enter func14,ntmps14
  go_wp2_with fail
  go_ret
  exact ⟨_,rfl,⟨none,0,0,rfl,rfl,by omega,by omega,rfl,rfl⟩,⟨_,_,_,rfl⟩,Below.refl _ _⟩
 | some a=>
  obtain ⟨xs,hc,hr⟩:=RepC.news h4.2
  have hxl:=hc.length
  have hcell:∀j u,xs[j]?=some u→w.cell? (a.add j)=some u:=fun j u hj=>by
   have hne:l≠[]:=fun h=>by
    have h1:=(List.getElem?_eq_some_iff.1 hj).1
    rw[hxl,h] at h1
    simp at h1
   rw[zaP (h4.1 hne).1]
   exact hr j u hj
  have he:=fun (w:World)=>Lib.run_eql_slice_nil (P:=prog) w 22 41 (some a) len cap 0 0 underlying22
  have HO:=zh (zaN (W:=w) (b:=w.heap.size) (base:=w.heap.size) rfl (Nat.le_refl _) 41 5 0 [] rfl (by unfold maxLen;omega))
  obtain ⟨i0,hi,hz0,hz1,hz2⟩:=info_parts zfZ
  have HXL:=zh (show xs.length=len*5 from by rw[hxl,←hlen])
  have HC:=zh hc
  have HCELL:=zh (show ∀j u,xs[j]?=some u→(w.alloc (.cells [].toArray 41)).cell? (a.add j)=some u from fun j u hj=>by
   have h:=hcell j u hj
   have hsp:=zbr h
   rw[show (a.add j)=⟨(a.add j).block,(a.add j).off,(a.add j).spot⟩ from rfl,hsp.1] at h ⊢
   exact keepC (Below.one w _) h)
  clear hlen hxl hc hr hcell h4
  go_enter func14,ntmps14
  go_wp2_with (at_builtin;refine wpList_append_own _ rfl (.tmp 5) (.tmp 6) 22 rfl w.heap.size 41 i0 (.agg #[.int .i64 0,.int .i64 0,.int .i64 0,.string ⟨#[]⟩,.slice none 0 0]) 5 64 underlying22 hi hz0 hz1 hz2 rfl (by decide) (.slice (some ⟨w.heap.size,0,none⟩) 0 0) 0 [] rfl HO.out a len cap xs rfl HXL.out HCELL.out (ze4 HC.out) (by unfold maxLen;omega) (by omega) (by simp) ?_)
  intro v' w2 hown hgrow _
  have hown:w2.ownsRow w.heap.size 41 5 v' len xs:=by simpa using hown
  have HB:=zh (show Below w.heap.size w w2 from (Below.one w _).grown hgrow (by simp) (fun g hg=>by simp[Value.ownBlock] at hg;omega))
  have HR:=zh (show RepS (gap w2 B w.heap.size) w2.heap.size l v' from by
   have h:=zeG (w:=gap w2 B w.heap.size) (B:=B) (base:=w.heap.size) (by rw[←HL.out];exact zbL hown (Nat.le_refl _)) (HC.out.mono fun x v h=>(h.kept (HB.out.mono hB)).dig (Nat.le_refl _)) (by rw[zcv];have:=HB.out.size;omega)
   rwa[zcv] at h)
  obtain ⟨o',l',c',rfl⟩:∃o' l' c',v'=.slice o' l' c':=by
   rcases hown.2 with ⟨h,_⟩ | ⟨g,cap,cur,h,_⟩
   ·exact ⟨_,_,_,h⟩
   ·exact ⟨_,_,_,h⟩
  clear hown hgrow
  go_wp2_with fail
  go_ret
  exact ⟨_,rfl,HR.out,⟨_,_,_,rfl⟩,HB.out⟩
end
section
open Go
theorem zbX {ops:Array Oper} {n m i j d e:Nat} {oi oj:Oper} (h:slotsB ops n m=true) (hi:i<n) (hj:j<n) (hoi:ops[i]?=some oi) (hoj:ops[j]?=some oj) (hd:oi.dst=some d) (he:oj.dst=some e):d<m∧(i=j∨d≠e):=by
 have:=List.all_eq_true.1 (List.all_eq_true.1 h i (List.mem_range.2 hi)) j (List.mem_range.2 hj)
 simp only[hoi,hoj,hd,he,Bool.and_eq_true,decide_eq_true_eq,Bool.or_eq_true] at this
 exact this
theorem zfd {ops:Array Oper} {n m i:Nat} {o:Oper} (h:guardsB .any ops n m []=true) (hi:i<n) (ho:ops[i]?=some o):o.guard=none:=by
 have:=List.all_eq_true.1 h i (List.mem_range.2 hi)
 simp only[ho] at this
 cases hg:o.guard with
 | none=>rfl
 | some p=>
  obtain ⟨g,b⟩:=p
  rw[hg] at this
  simp at this
section
variable {P : Program} {ops : Array Oper} {o : Oper} {a : Act} {w w' : World}
theorem zcj {Q:Exit→Act→World→Prop} {t s:Nat} {x v:Value} (hg:o.guard=none) (ho:o.op=.buildSlice t 1 #[(0,.tmp s)]) (hx:a.tmps.getD s undef=x) (hm:(Instr.buildSlice t 1 #[(0,x)]).run P w=.ok v w') (hQ:Q .normal (a.put o.dst v) w'):wpList P ops Q [o] a w:=by
 refine zai (v:=v) (w':=w') hg ?_ hQ
 have hmap:(#[(0,Operand.tmp s)]:Array (Nat × Operand)).map (fun (i,x)=>(i,a.eval x))=#[(0,x)]:=by
  simp only[List.map_toArray,List.map_cons,List.map_nil]
  rw[←hx];rfl
 unfold execOp
 rw[ho]
 show (do let r ←Instr.buildSlice t 1 ((#[(0,Operand.tmp s)]:Array (Nat × Operand)).map (fun (i,x)=>(i,a.eval x)));pure (Next.value r):Sem Next).run P w=_
 rw[hmap]
 simp only[Sem.run_bind,Sem.run_pure,hm,Result.andThen_ok]
end
end
section
open Go Go.RowKit
namespace Peep
end Peep
def ProcN (W:World) (S:Nat→Prop) (p:Proc) (cs:List Value):Prop:=
 ∃U B sl,Sub S U W∧B≤W.heap.size∧cs=[.int .i64 p.args,.bool p.rest,.int .i64 p.regs,sl,.slice none 0 0]∧(-9223372036854775808≤p.args∧p.args≤9223372036854775807)∧(-9223372036854775808≤p.regs∧p.regs≤9223372036854775807)∧SlC U B 5 (InsR U B) p.code sl∧p.alive=[]
theorem ProcN.to {W W':World} {S S':Nat→Prop} {p:Proc} {cs:List Value} (h:ProcN W S p cs) (hs:∀U,Sub S U W→Sub S' U W') (hz:W.heap.size≤W'.heap.size):ProcN W' S' p cs:=by
 obtain ⟨U,B,sl,h1,h2,h3⟩:=h
 exact ⟨U,B,sl,hs U h1,Nat.le_trans h2 hz,h3⟩
theorem ProcN.read {W:World} {S:Nat→Prop} {p:Proc} {cs:List Value} (h:ProcN W S p cs):ProcR W W.heap.size p cs:=by
 obtain ⟨U,B,sl,h1,h2,rfl,h4,h5,h6,h7⟩:=h
 exact ⟨sl,_,rfl,h4,h5,zcT (zeH h6 h1.cells) h2,by rw[h7];exact ⟨none,0,0,rfl,rfl,by omega,by omega,rfl,rfl⟩⟩
theorem zb9:(prog.info? 47).map (fun i=>(i.zero,i.size,i.bytes))=some (some (.agg #[.int .i64 0,.bool false,.int .i64 0,.slice none 0 0,.slice none 0 0]),5,72):=by kernel_rfl
theorem RepS.cellsTo {U W:World} {B:Nat} {l:List Dat} {v:Value} (h:RepS U B l v) (hk:∀b o u,U.cell? ⟨b,o,none⟩=some u→W.cell? ⟨b,o,none⟩=some u) (hB:B≤W.heap.size):RepS W W.heap.size l v:=(RepS.mono hk h).wider hB
theorem zcb {A B:World} {row:Option Nat} (h:A.drew.grownBy B row):A.grownBy B row:=⟨h.os,h.tape,h.output,h.size,h.block⟩
end
section
open Go Go.RowKit
namespace Peep
end Peep
end
section
open Go Go.RowKit
structure RBox (W:World) (h cb sb:Nat) (op n:Int) (vs ts:Value) (deep:Int):Prop where
 c:BoxL W h 67 [.pointer (some ⟨cb,0,none⟩)]
 t:BoxL W (h+1) 27 [.int .i64 op,.int .i64 n,vs,ts]
 s:BoxL W (h+1+1) 68 [.map (some sb)]
 d:BoxL W (h+1+1+1) 3 [.int .i64 deep]
theorem RBox.turned {S:Nat→Prop} {A B:World} {h cb sb:Nat} {op n:Int} {vs ts:Value} {deep:Int} (H:RBox A h cb sb op n vs ts deep) (ht:Turned S A B) (hS:∀b,S b→b<h):RBox B h cb sb op n vs ts deep:=
 ⟨ht.box H.c fun hs=>by have:=hS _ hs;omega,ht.box H.t fun hs=>by have:=hS _ hs;omega,ht.box H.s fun hs=>by have:=hS _ hs;omega,ht.box H.d fun hs=>by have:=hS _ hs;omega⟩
theorem RBox.new (W:World) (cb sb:Nat) (op n:Int) (vs ts:Value) (deep:Int):RBox ((((W.alloc (.cells #[.pointer (some ⟨cb,0,none⟩)] 67)).alloc (.cells #[.int .i64 op,.int .i64 n,vs,ts] 27)).alloc (.cells #[.map (some sb)] 68)).alloc (.cells #[.int .i64 deep] 3)) W.heap.size cb sb op n vs ts deep:=
 ⟨(((BoxL.new rfl _ _).alloc _).alloc _).alloc _,((BoxL.new (by simp) _ _).alloc _).alloc _,(BoxL.new (by simp) _ _).alloc _,BoxL.new (by simp) _ _⟩
theorem zbo (W:World) (a b c d:Obj):Below W.heap.size W ((((W.alloc a).alloc b).alloc c).alloc d):=(Below.one W a).trans (((Below.one _ b).trans (((Below.one _ c).trans ((Below.one _ d).mono (by simp))).mono (by simp))).mono (by simp))
theorem ChkS.sized {W:World} {cb bb sb:Nat} {nc nk:Int} {fr:Bool} {size:Int} {l:List Int} {sc:Int→Bool} (h:ChkS W cb bb sb nc nk fr size l sc) (s:Int):ChkS (W.setCell ⟨cb,4,none⟩ (.int .i64 s)) cb bb sb nc nk fr s l sc:=
 ⟨h.box.set 4 _,h.bound.same (zag _ _ _ fun e=>zaD h.bound h.box e.symm),h.scope.same (zag _ _ _ fun e=>zaD h.scope h.box e.symm),h.new,h.ne⟩
theorem zeb (op n:Int) (ov ot:Option Addr) (lv cv lt ct:Nat) (cb bb sb:Nat) (nc nk size:Int) (fr:Bool) (l:List Int) (sc:Int→Bool) (deep:Int) (W:World) (hc:ChkS W cb bb sb nc nk fr size l sc)
  (h0:0≤size) (h1:size+1≤20000) (h2:0≤deep) (h3:deep≤400) (f t le:Int) (any binds is:Bool) (qf qn:Bool) (hft:is=true→f≤3) (hft2:is=true→3≤t)
  (HSH:∀W,Calls prog 57 #[.int .i64 op] W fun e w'=>e=.returned (.tuple #[.agg #[.int .i64 f,.int .i64 t,.int .i64 le,.bool any,.bool binds],.bool is])∧Below W.heap.size W w')
  (HFT:is=true→∀W,Calls prog 58 #[.agg #[.int .i64 f,.int .i64 t,.int .i64 le,.bool any,.bool binds],.agg #[.int .i64 op,.int .i64 n,.slice ov lv cv,.slice ot lt ct]] W fun e w'=>e=.returned (.bool qf)∧Below W.heap.size W w')
  (HNU:is=true→qf=true→∀W,ChkS W cb bb sb nc nk fr (size+1) l sc→Calls prog 59 #[.pointer (some ⟨cb,0,none⟩),.agg #[.int .i64 op,.int .i64 n,.slice ov lv cv,.slice ot lt ct],.map (some sb)] W fun e w'=>e=.returned (.bool qn)∧Below W.heap.size W w')
  (hno:(is&&(qf&&qn))=false) :
  Calls prog 32 #[.pointer (some ⟨cb,0,none⟩),.agg #[.int .i64 op,.int .i64 n,.slice ov lv cv,.slice ot lt ct],.map (some sb),.int .i64 deep] W (ChkPost cb bb sb nc nk fr false (fun _=>False) W):=by
 have hmf:∀(fn:Fn) (first cap:Array Value) (w:World),(Instr.makeFunc fn first cap).run prog w=.ok (.func fn first cap) w:=fun _ _ _ _=>rfl
 obtain ⟨W1,hW1⟩:∃W1,((((W.alloc (.cells #[.pointer (some ⟨cb,0,none⟩)] 67)).alloc (.cells #[.int .i64 op,.int .i64 n,.slice ov lv cv,.slice ot lt ct] 27)).alloc (.cells #[.map (some sb)] 68)).alloc (.cells #[.int .i64 deep] 3)).setCell ⟨cb,4,none⟩ (.int .i64 (size+1))=W1:=⟨_,rfl⟩
 have hbelow:=zbo W (.cells #[.pointer (some ⟨cb,0,none⟩)] 67) (.cells #[.int .i64 op,.int .i64 n,.slice ov lv cv,.slice ot lt ct] 27) (.cells #[.map (some sb)] 68) (.cells #[.int .i64 deep] 3)
 have HW:=zh hW1
 have HT1:=zh (show Turned (S3 cb bb sb) W W1 from by rw[←hW1];exact (Turned.of_below hbelow).next (Turned.set _ _ _ (.inl rfl)))
 have HC1:=zh (show ChkS W1 cb bb sb nc nk fr (size+1) l sc from by rw[←hW1];exact (hc.keep hbelow).sized _)
 have HX1:=zh (show RBox W1 W.heap.size cb sb op n (.slice ov lv cv) (.slice ot lt ct) deep from by
  rw[←hW1]
  exact (RBox.new W cb sb op n (.slice ov lv cv) (.slice ot lt ct) deep).turned (Turned.set (S:=fun b=>b=cb) _ _ _ rfl) (fun b hb=>by rw[hb];exact hc.box.lt))
 have c4:=(hc.box.keep hbelow).cell 4 rfl
 have cz:=(hc.box.keep hbelow).free 4
 have cl:=hc.box.lt
 have HC:=zh hc
 have hft:=zh hft
 have hft2:=zh hft2
 have HSH:=zh HSH
 have HFT:=zh HFT
 have HNU:=zh HNU
 clear hW1 hbelow hc
 go_enter_defers func32,ntmps32
 go_upto_region 2 with fail
 rw[HW.out]
 have t0:=HX1.out.t.cell 0 rfl
 have tl:=HX1.out.t.lt
 clear c4 cz cl
 go_wp2_with fail
 refine (HSH.out _).mono ?_
 rintro e w1 ⟨rfl,hb1⟩
 have HB1:=zh hb1
 clear hb1 HSH t0 tl
 go_upto_region 3 with fail
 obtain ⟨W3,hW3⟩:∃W3,w1.alloc (.cells #[.int .i64 f,.int .i64 t,.int .i64 le,.bool any,.bool binds] 109)=W3:=⟨_,rfl⟩
 have HB3:=zh (show Below W1.heap.size W1 W3 from by rw[←hW3];exact Below.next HB1.out (Below.one w1 _))
 have B9:=zh (show BoxL W3 w1.heap.size 109 [.int .i64 f,.int .i64 t,.int .i64 le,.bool any,.bool binds] from by rw[←hW3];exact BoxL.new rfl _ _)
 rw[hW3]
 clear hW3
 have HX3:=zh (HX1.out.turned (Turned.of_below (S:=fun _=>False) HB3.out) (fun _ h=>h.elim))
 have HC3:=zh (HC1.out.keep HB3.out)
 have HD:=zh ((Below.refl W3.heap.size W3).drew)
 cases is with
 | false=>
  refine zab (Below W3.heap.size W3) (by kernel_rfl) (by kernel_rfl) HD.out ?_
  intro T0 _ WW HWW HWW2
  have x0:∀t,(WW t).cell? _=_:=fun t=>((HWW t).cell (p:=⟨W.heap.size,0,none⟩) HX3.out.c.lt).trans (HX3.out.c.cell 0 rfl)
  have x1:∀t,(WW t).cell? _=_:=fun t=>((HWW t).cell (p:=⟨W.heap.size+1,0,none⟩) HX3.out.t.lt).trans (HX3.out.t.cell 0 rfl)
  have x2:∀t,(WW t).cell? _=_:=fun t=>((HWW t).cell (p:=⟨W.heap.size+1,1,none⟩) HX3.out.t.lt).trans (HX3.out.t.cell 1 rfl)
  have x3:∀t,(WW t).cell? _=_:=fun t=>((HWW t).cell (p:=⟨W.heap.size+1,2,none⟩) HX3.out.t.lt).trans (HX3.out.t.cell 2 rfl)
  have x4:∀t,(WW t).cell? _=_:=fun t=>((HWW t).cell (p:=⟨W.heap.size+1,3,none⟩) HX3.out.t.lt).trans (HX3.out.t.cell 3 rfl)
  have x5:∀t,(WW t).cell? _=_:=fun t=>((HWW t).cell (p:=⟨W.heap.size+1+1,0,none⟩) HX3.out.s.lt).trans (HX3.out.s.cell 0 rfl)
  have x6:∀t,(WW t).cell? _=_:=fun t=>((HWW t).cell (p:=⟨W.heap.size+1+1+1,0,none⟩) HX3.out.d.lt).trans (HX3.out.d.cell 0 rfl)
  have y0:∀t,(WW t).cell? _=_:=fun t=>((HWW t).cell (p:=⟨cb,0,none⟩) HC3.out.box.lt).trans (HC3.out.box.cell 0 rfl)
  have y4:∀t,(WW t).cell? _=_:=fun t=>((HWW t).cell (p:=⟨cb,4,none⟩) HC3.out.box.lt).trans (HC3.out.box.cell 4 rfl)
  have z0:∀t,(WW t).cell? _=_:=fun t=>((HWW t).cell (p:=⟨w1.heap.size,0,none⟩) B9.out.lt).trans (B9.out.cell 0 rfl)
  have z1:∀t,(WW t).cell? _=_:=fun t=>((HWW t).cell (p:=⟨w1.heap.size,1,none⟩) B9.out.lt).trans (B9.out.cell 1 rfl)
  have z2:∀t,(WW t).cell? _=_:=fun t=>((HWW t).cell (p:=⟨w1.heap.size,2,none⟩) B9.out.lt).trans (B9.out.cell 2 rfl)
  have z3:∀t,(WW t).cell? _=_:=fun t=>((HWW t).cell (p:=⟨w1.heap.size,3,none⟩) B9.out.lt).trans (B9.out.cell 3 rfl)
  have z4:∀t,(WW t).cell? _=_:=fun t=>((HWW t).cell (p:=⟨w1.heap.size,4,none⟩) B9.out.lt).trans (B9.out.cell 4 rfl)
  have HWH:=zh HWW
  have HW2:=zh HWW2
  clear HWW HWW2
  repeat (go_big_quiet_step (fail))
  refine wpQuiet_nil ?_
  intro t
  have HBB:=zh (HWH.out t)
  clear x0 x1 x2 x3 x4 x5 x6 y0 y4 z0 z1 z2 z3 z4
  go_wp2_with fail
  refine ⟨_,results_tmp rfl _ _ _,rfl,HT1.out.next (Turned.of_below (Below.next HB3.out HBB.out)),fun h=>by simp at h,fun _=>(HC3.out.keep HBB.out).bad⟩
 | true=>
  have f1:=hft.out rfl
  have f2:=hft2.out rfl
  have g0:decide (400<deep)=false:=decide_eq_false (by omega)
  have g1:decide (20000<size+1)=false:=decide_eq_false (by omega)
  have g2:decide (3<f)=false:=decide_eq_false (by omega)
  have g3:decide (t<3)=false:=decide_eq_false (by omega)
  have HF:=zh (HFT.out rfl)
  cases qf with
  | false=>
   refine zab (Below W3.heap.size W3) (by kernel_rfl) (by kernel_rfl) HD.out ?_
   intro T0 _ WW HWW HWW2
   have x0:∀t,(WW t).cell? _=_:=fun t=>((HWW t).cell (p:=⟨W.heap.size,0,none⟩) HX3.out.c.lt).trans (HX3.out.c.cell 0 rfl)
   have x1:∀t,(WW t).cell? _=_:=fun t=>((HWW t).cell (p:=⟨W.heap.size+1,0,none⟩) HX3.out.t.lt).trans (HX3.out.t.cell 0 rfl)
   have x2:∀t,(WW t).cell? _=_:=fun t=>((HWW t).cell (p:=⟨W.heap.size+1,1,none⟩) HX3.out.t.lt).trans (HX3.out.t.cell 1 rfl)
   have x3:∀t,(WW t).cell? _=_:=fun t=>((HWW t).cell (p:=⟨W.heap.size+1,2,none⟩) HX3.out.t.lt).trans (HX3.out.t.cell 2 rfl)
   have x4:∀t,(WW t).cell? _=_:=fun t=>((HWW t).cell (p:=⟨W.heap.size+1,3,none⟩) HX3.out.t.lt).trans (HX3.out.t.cell 3 rfl)
   have x5:∀t,(WW t).cell? _=_:=fun t=>((HWW t).cell (p:=⟨W.heap.size+1+1,0,none⟩) HX3.out.s.lt).trans (HX3.out.s.cell 0 rfl)
   have x6:∀t,(WW t).cell? _=_:=fun t=>((HWW t).cell (p:=⟨W.heap.size+1+1+1,0,none⟩) HX3.out.d.lt).trans (HX3.out.d.cell 0 rfl)
   have y0:∀t,(WW t).cell? _=_:=fun t=>((HWW t).cell (p:=⟨cb,0,none⟩) HC3.out.box.lt).trans (HC3.out.box.cell 0 rfl)
   have y4:∀t,(WW t).cell? _=_:=fun t=>((HWW t).cell (p:=⟨cb,4,none⟩) HC3.out.box.lt).trans (HC3.out.box.cell 4 rfl)
   have z0:∀t,(WW t).cell? _=_:=fun t=>((HWW t).cell (p:=⟨w1.heap.size,0,none⟩) B9.out.lt).trans (B9.out.cell 0 rfl)
   have z1:∀t,(WW t).cell? _=_:=fun t=>((HWW t).cell (p:=⟨w1.heap.size,1,none⟩) B9.out.lt).trans (B9.out.cell 1 rfl)
   have z2:∀t,(WW t).cell? _=_:=fun t=>((HWW t).cell (p:=⟨w1.heap.size,2,none⟩) B9.out.lt).trans (B9.out.cell 2 rfl)
   have z3:∀t,(WW t).cell? _=_:=fun t=>((HWW t).cell (p:=⟨w1.heap.size,3,none⟩) B9.out.lt).trans (B9.out.cell 3 rfl)
   have z4:∀t,(WW t).cell? _=_:=fun t=>((HWW t).cell (p:=⟨w1.heap.size,4,none⟩) B9.out.lt).trans (B9.out.cell 4 rfl)
   have HWH:=zh HWW
   have HW2:=zh HWW2
   clear HWW HWW2
   have HC0:Hid (∀t',Calls prog 58 #[.agg #[.int .i64 f,.int .i64 t,.int .i64 le,.bool any,.bool binds],.agg #[.int .i64 op,.int .i64 n,.slice ov lv cv,.slice ot lt ct]] (WW t') fun e w'=>e=.returned (.bool false)∧∃t'',w'=WW t''):=zh (fun t'=>zak HW2.out ((HF.out (WW t')).mono fun e w' h=>⟨h.1,Below.next (HWH.out t') h.2⟩))
   repeat (go_big_quiet_step (first | (go_at_call 58;exact HC0.out _)))
   refine wpQuiet_nil ?_
   intro t
   have HBB:=zh (HWH.out t)
   clear x0 x1 x2 x3 x4 x5 x6 y0 y4 z0 z1 z2 z3 z4
   go_wp2_with fail
   refine ⟨_,results_tmp rfl _ _ _,rfl,HT1.out.next (Turned.of_below (Below.next HB3.out HBB.out)),fun h=>by simp at h,fun _=>(HC3.out.keep HBB.out).bad⟩
  | true=>
   obtain rfl:qn=false:=by simpa using hno
   have HN:=zh (HNU.out rfl rfl)
   refine zab (Below W3.heap.size W3) (by kernel_rfl) (by kernel_rfl) HD.out ?_
   intro T0 _ WW HWW HWW2
   have x0:∀t,(WW t).cell? _=_:=fun t=>((HWW t).cell (p:=⟨W.heap.size,0,none⟩) HX3.out.c.lt).trans (HX3.out.c.cell 0 rfl)
   have x1:∀t,(WW t).cell? _=_:=fun t=>((HWW t).cell (p:=⟨W.heap.size+1,0,none⟩) HX3.out.t.lt).trans (HX3.out.t.cell 0 rfl)
   have x2:∀t,(WW t).cell? _=_:=fun t=>((HWW t).cell (p:=⟨W.heap.size+1,1,none⟩) HX3.out.t.lt).trans (HX3.out.t.cell 1 rfl)
   have x3:∀t,(WW t).cell? _=_:=fun t=>((HWW t).cell (p:=⟨W.heap.size+1,2,none⟩) HX3.out.t.lt).trans (HX3.out.t.cell 2 rfl)
   have x4:∀t,(WW t).cell? _=_:=fun t=>((HWW t).cell (p:=⟨W.heap.size+1,3,none⟩) HX3.out.t.lt).trans (HX3.out.t.cell 3 rfl)
   have x5:∀t,(WW t).cell? _=_:=fun t=>((HWW t).cell (p:=⟨W.heap.size+1+1,0,none⟩) HX3.out.s.lt).trans (HX3.out.s.cell 0 rfl)
   have x6:∀t,(WW t).cell? _=_:=fun t=>((HWW t).cell (p:=⟨W.heap.size+1+1+1,0,none⟩) HX3.out.d.lt).trans (HX3.out.d.cell 0 rfl)
   have y0:∀t,(WW t).cell? _=_:=fun t=>((HWW t).cell (p:=⟨cb,0,none⟩) HC3.out.box.lt).trans (HC3.out.box.cell 0 rfl)
   have y4:∀t,(WW t).cell? _=_:=fun t=>((HWW t).cell (p:=⟨cb,4,none⟩) HC3.out.box.lt).trans (HC3.out.box.cell 4 rfl)
   have z0:∀t,(WW t).cell? _=_:=fun t=>((HWW t).cell (p:=⟨w1.heap.size,0,none⟩) B9.out.lt).trans (B9.out.cell 0 rfl)
   have z1:∀t,(WW t).cell? _=_:=fun t=>((HWW t).cell (p:=⟨w1.heap.size,1,none⟩) B9.out.lt).trans (B9.out.cell 1 rfl)
   have z2:∀t,(WW t).cell? _=_:=fun t=>((HWW t).cell (p:=⟨w1.heap.size,2,none⟩) B9.out.lt).trans (B9.out.cell 2 rfl)
   have z3:∀t,(WW t).cell? _=_:=fun t=>((HWW t).cell (p:=⟨w1.heap.size,3,none⟩) B9.out.lt).trans (B9.out.cell 3 rfl)
   have z4:∀t,(WW t).cell? _=_:=fun t=>((HWW t).cell (p:=⟨w1.heap.size,4,none⟩) B9.out.lt).trans (B9.out.cell 4 rfl)
   have HWH:=zh HWW
   have HW2:=zh HWW2
   clear HWW HWW2
   have HC0:Hid (∀t',Calls prog 58 #[.agg #[.int .i64 f,.int .i64 t,.int .i64 le,.bool any,.bool binds],.agg #[.int .i64 op,.int .i64 n,.slice ov lv cv,.slice ot lt ct]] (WW t') fun e w'=>e=.returned (.bool true)∧∃t'',w'=WW t''):=zh (fun t'=>zak HW2.out ((HF.out (WW t')).mono fun e w' h=>⟨h.1,Below.next (HWH.out t') h.2⟩))
   have HC1:Hid (∀t',Calls prog 59 #[.pointer (some ⟨cb,0,none⟩),.agg #[.int .i64 op,.int .i64 n,.slice ov lv cv,.slice ot lt ct],.map (some sb)] (WW t') fun e w'=>e=.returned (.bool false)∧∃t'',w'=WW t''):=zh (fun t'=>zak HW2.out ((HN.out (WW t') (HC3.out.keep (HWH.out t'))).mono fun e w' h=>⟨h.1,Below.next (HWH.out t') h.2⟩))
   repeat (go_big_quiet_step (first | (go_at_call 58;exact HC0.out _) | (go_at_call 59;exact HC1.out _)))
   refine wpQuiet_nil ?_
   intro t
   have HBB:=zh (HWH.out t)
   clear x0 x1 x2 x3 x4 x5 x6 y0 y4 z0 z1 z2 z3 z4
   go_wp2_with fail
   refine ⟨_,results_tmp rfl _ _ _,rfl,HT1.out.next (Turned.of_below (Below.next HB3.out HBB.out)),fun h=>by simp at h,fun _=>(HC3.out.keep HBB.out).bad⟩
end
section
open Go.RowKit
end
section
open Go.RowKit
namespace Live
open Unt Peep
end Live
end
section
open Go.RowKit
end
section
open Go.RowKit
theorem zbw {W V:World} {a:Addr} {v:Value} (h:V=W.drew) (hc:W.cell? a=some v):V.cell? a=some v:=by rw[h];exact hc
theorem zfN (u:Unt) (v:Value) (B:Nat) (w:World) (hv:UntR w B u v) (hB:B≤w.heap.size) (hL:∀p∈u.procs,p.code.length≤50000→∀x∈p.code,x.l.length≤1000000) :
  Calls prog 19 #[v] w fun e w'=>e=.returned (.int .i64 u.err)∧Below w.heap.size w w':=by
 obtain ⟨cv,pv,rfl,hc,hp⟩:=hv
 obtain ⟨E,hE⟩:∃E,u.err=E:=⟨_,rfl⟩
 rw[hE]
 obtain ⟨op,np,cp,rfl,hnp,hcapp,hmaxp⟩:=hp.slice
 obtain ⟨ok,nk,ck,rfl,hnk,hcapk,hmaxk,hck⟩:=hc
 have HCK:=zh hck
 have HP:=zh hp
 have HE:=zh hE
 have HNP:=zh hnp
 have HNK:=zh hnk
 have HLS:=zh hL
 clear hp hE hnp hnk hck hL
 have HNO:=zh (show (∀h:u.okB=false,E=5) from fun h=>by rw[←HE.out,zkE h])
 by_cases c1:np<1
 ·obtain rfl:E=5:=HNO.out (by rw[Unt.okB,←HNP.out];simp;omega)
  obtain rfl:np=0:=by omega
  go_enter func19,ntmps19
  go_wp2_with fail
  go_ret
  exact ⟨rfl,Below.one _ _⟩
 by_cases c2:1000<np
 ·obtain rfl:E=5:=HNO.out (by rw[Unt.okB,←HNP.out];simp;omega)
  go_enter func19,ntmps19
  go_wp2_with fail
  go_ret
  exact ⟨rfl,Below.one _ _⟩
 have c1':¬(np:Int)<1:=by omega
 obtain ⟨W1,hW1⟩:∃W1,w.alloc (.cells #[.slice ok nk ck,.slice op np cp] 34)=W1:=⟨_,rfl⟩
 have HB1:=zh (show Below w.heap.size w W1 from by rw[←hW1];exact Below.one w _)
 have HU:=zh (show BoxL W1 w.heap.size 34 [.slice ok nk ck,.slice op np cp] from by rw[←hW1];exact BoxL.new rfl _ _)
 have HW1:=zh hW1
 have HW0:=zh (Below.refl W1.heap.size W1)
 have HA0:=zh (show (u.consts.take 0).all (fun x=>Dat.right x 0)=true from rfl)
 clear hW1
 go_enter func19,ntmps19
 go_wp2_with fail
 rw[HW1.out]
 go_loopg [3] nk (fun G i wr=>∃j:Nat,G=nk-j∧j≤nk∧i=.int .i64 j∧Hid ((u.consts.take j).all (fun x=>Dat.right x 0)=true)∧Hid (Below W1.heap.size W1 wr))
 case atStart=>exact ⟨0,rfl,by omega,rfl,HA0,HW0⟩
 case round=>
  obtain ⟨j,rfl,hj,rfl,HA,HW⟩:=hrel
  clear HW0 HA0
  have U0:=(HU.out.keep HW.out).cell 0 rfl
  have U1:=(HU.out.keep HW.out).cell 1 rfl
  have hul:=(HU.out.keep HW.out).lt
  have HWW:=zh (Below.next HB1.out HW.out)
  by_cases hjl:j<nk
  ·obtain ⟨x,hx⟩:∃x,u.consts[j]?=some x:=⟨_,List.getElem?_eq_getElem (by rw[←HNK.out];exact hjl)⟩
   obtain ⟨b,off,k',n',d',s',l',o',len',cap',ho,hxe,e0,e1,e2,e3,e4,er⟩:=za8 HCK.out (HWW.out.mono hB) hx
   have hbl:=zac e0
   obtain ⟨r,hr⟩:∃r,Dat.right x 0=r:=⟨_,rfl⟩
   have HR:=zh (zer x (.agg #[.int .i64 k',.int .i64 n',.int .i64 d',.string s',.slice o' len' cap']) B wr r hr (by rw[hxe];exact er) (by have:=HWW.out.size;omega))
   have HX:=zh hx
   have HRR:=zh hr
   subst ho
   clear hx hr er hxe
   go_wp2_with fail
   refine HR.out.mono ?_
   rintro e w2 ⟨rfl,hb2⟩
   have HW2:=zh (Below.next HW.out hb2)
   clear hb2 HR e0 e1 e2 e3 e4
   cases r with
   | false=>
    obtain rfl:E=5:=HNO.out (by
     have h2:u.consts.all (fun x=>Dat.right x 0)=false:=by
      rw[List.all_eq_false]
      exact ⟨x,List.mem_of_getElem? HX.out,by rw[HRR.out];simp⟩
     rw[Unt.okB,h2];simp)
    go_wp2_with fail
    go_ret
    exact ⟨rfl,Below.next HB1.out HW2.out⟩
   | true=>
    have HA2:=zh (show (u.consts.take (j+1)).all (fun x=>Dat.right x 0)=true from by
     rw[List.take_add_one,HX.out,List.all_append,HA.out]
     simp[HRR.out])
    go_wp2_with fail
    go_roundg (nk-(j+1))
    case measure=>omega
    case rel=>exact ⟨j+1,rfl,by omega,by go_num,HA2,HW2⟩
  ·obtain rfl:j=nk:=by omega
   have HOK:=zh (show u.okB=Unt.procsB j np u.procs 0 from by
    have h2:=HA.out
    rw[List.take_of_length_le (by rw[←HNK.out];exact Nat.le_refl _)] at h2
    rw[Unt.okB,h2,←HNP.out,←HNK.out,decide_eq_true (show 1≤(np:Int) by omega),decide_eq_true (show (np:Int)≤1000 by omega)];simp)
   clear hjl
   go_wp2_with fail
   go_loopg [4,5] np (fun G a i wq=>∃(t:Nat) (all:Int),G=np-t∧t≤np∧a=.int .i64 all∧i=.int .i64 t∧0≤all∧all≤50000∧Hid (Unt.procsB j np u.procs 0=Unt.procsB j np (u.procs.drop t) all)∧Hid (Below W1.heap.size W1 wq))
   case atStart=>exact ⟨0,0,rfl,by omega,rfl,rfl,by omega,by omega,rfl,HW⟩
   case round=>
    obtain ⟨t,all,rfl,ht,rfl,rfl,ha0,ha1,HS,HWq⟩:=hrel
    clear HW HWW U0 U1 hul
    have U0:=(HU.out.keep HWq.out).cell 0 rfl
    have U1:=(HU.out.keep HWq.out).cell 1 rfl
    have hul:=(HU.out.keep HWq.out).lt
    have HWW:=zh (Below.next HB1.out HWq.out)
    by_cases htl:t<np
    ·obtain ⟨p,hx⟩:∃p,u.procs[t]?=some p:=⟨_,List.getElem?_eq_getElem (by rw[←HNP.out];exact htl)⟩
     obtain ⟨b1,off1,cs,ho1,hbB,hcl,hcell,hpr⟩:=HP.out.at (HWW.out.mono hB) hx
     subst ho1
     have HSTEP:=zh (HS.out.trans (zcY hx))
     have HLP:=zh (HLS.out p (List.mem_of_getElem? hx))
     obtain ⟨args,rest,regs,code,alive⟩:=p
     obtain ⟨sl,al,rfl,hbargs,hbregs,hcode,halive⟩:=hpr
     obtain ⟨oc,n,cc,rfl,hn,hcapc,hmaxc⟩:=hcode.slice
     obtain ⟨oa,la,ca,rfl⟩:=halive.form
     dsimp only at hn hbargs hbregs HSTEP hcode HLP
     have e0:=hcell 0 _ rfl
     have e1:=hcell 1 _ rfl
     have e2:=hcell 2 _ rfl
     have e3:=hcell 3 _ rfl
     have e4:=hcell 4 _ rfl
     rw[Nat.add_zero] at e0
     have HN:=zh hn
     have HCODE:=zh hcode
     have hbl1:=zac e0
     clear hx hcell hcl hcode halive hn
     have HLN:=zh (show (code.length:Int)=n from by rw[HN.out])
     obtain ⟨q1,hq1⟩:∃q1,(!Unt.headB ⟨args,rest,regs,code,alive⟩)=q1:=⟨_,rfl⟩
     have HQ1:=zh hq1
     clear hq1
     obtain ⟨W2,hW2⟩:∃W2,wr.alloc (.cells #[.int .i64 args,.bool rest,.int .i64 regs,.slice oc n cc,.slice oa la ca] 47)=W2:=⟨_,rfl⟩
     have HPB:=zh (show BoxL W2 wr.heap.size 47 [.int .i64 args,.bool rest,.int .i64 regs,.slice oc n cc,.slice oa la ca] from by rw[←hW2];exact BoxL.new rfl _ _)
     have HWW2:=zh (show Below w.heap.size w W2 from Below.next HWW.out (by rw[←hW2];exact Below.one wr _))
     have HWQ2:=zh (show Below W1.heap.size W1 W2 from Below.next HWq.out (by rw[←hW2];exact Below.one wr _))
     have HW2E:=zh hW2
     clear hW2
     go_upto_region 13 with fail
     rw[HW2E.out]
     have q0:=HPB.out.cell 0 rfl
     have qq1:=HPB.out.cell 1 rfl
     have q2:=HPB.out.cell 2 rfl
     have q3:=HPB.out.cell 3 rfl
     have hpl:=HPB.out.lt
     clear e0 e1 e2 e3 e4 U0 U1 hul
     go_cut [80] (fun c wx=>c=.bool q1∧W2=wx)
     case first=>as_aux_lemma=>
      by_cases h1:args<0
      ·obtain rfl:q1=true:=by rw[←HQ1.out];simp[Unt.headB,h1]
       have d1:decide (args<0)=true:=decide_eq_true h1
       go_wp2_with fail
       go_meet
       exact ⟨rfl,rfl⟩
      have d1:decide (args<0)=false:=decide_eq_false h1
      by_cases h2:regs<args
      ·obtain rfl:q1=true:=by rw[←HQ1.out];simp[Unt.headB,h2]
       have d2:decide (regs<args)=true:=decide_eq_true h2
       go_wp2_with fail
       go_meet
       exact ⟨rfl,rfl⟩
      have d2:decide (regs<args)=false:=decide_eq_false h2
      by_cases h3:20000<regs
      ·obtain rfl:q1=true:=by rw[←HQ1.out];simp[Unt.headB,h3]
       have d3:decide (20000<regs)=true:=decide_eq_true h3
       go_wp2_with fail
       go_meet
       exact ⟨rfl,rfl⟩
      have d3:decide (20000<regs)=false:=decide_eq_false h3
      by_cases h4:rest=true∧args=0
      ·obtain ⟨rfl,rfl⟩:=h4
       obtain rfl:q1=true:=by rw[←HQ1.out];simp[Unt.headB]
       go_wp2_with fail
       go_meet
       exact ⟨rfl,rfl⟩
      by_cases h5:n=0
      ·subst h5
       obtain rfl:q1=true:=by rw[←HQ1.out];have:=HLN.out;simp[Unt.headB,this]
       cases rest with
       | true=>
        have h4':(args==0)=false:=by simpa using fun h=>h4 ⟨rfl,h⟩
        go_wp2_with fail
        go_meet
        exact ⟨rfl,rfl⟩
       | false=>
        go_wp2_with fail
        go_meet
        exact ⟨rfl,rfl⟩
      have d5:((n:Int)==0)=false:=by simpa using h5
      obtain rfl:q1=decide ((50000:Int)<(n:Int)):=by
       have hra:(rest&&decide (args=0))=false:=by cases rest<;>simp;intro h;exact h4 ⟨rfl,h⟩
       rw[←HQ1.out]
       simp only[Unt.headB,decide_eq_false h1,decide_eq_false h2,decide_eq_false h3,hra,HLN.out];simp;omega
      cases rest with
      | true=>
       have h4':(args==0)=false:=by simpa using fun h=>h4 ⟨rfl,h⟩
       go_wp2_with fail
       go_meet
       exact ⟨rfl,rfl⟩
      | false=>
       go_wp2_with fail
       go_meet
       exact ⟨rfl,rfl⟩
     case rest=>
     obtain ⟨rfl,rfl⟩:=hcut
     have hpl:=HPB.out.lt
     cases q1 with
     | true=>
      obtain rfl:E=5:=HNO.out (by
       have h:Unt.headB ⟨args,rest,regs,code,alive⟩=false:=by simpa using HQ1.out
       rw[HOK.out,HSTEP.out,h];rfl)
      go_wp2_with fail
      go_ret
      exact ⟨rfl,HWW2.out⟩
     | false=>
      have HH:=zh (show Unt.headB ⟨args,rest,regs,code,alive⟩=true from by simpa using HQ1.out)
      have hh:=HH.out
      simp only[Unt.headB,Bool.not_eq_true',Bool.or_eq_false_iff,decide_eq_false_iff_not] at hh
      obtain ⟨hh1,hh2,hh3,_,hh5,hh6⟩:=hh
      rw[HLN.out] at hh5 hh6
      have hn1:1≤n:=by omega
      have hn5:n≤50000:=by omega
      have hreg0:0≤regs:=by omega
      obtain ⟨x,hx⟩:∃x,code[n-1]?=some x:=⟨_,List.getElem?_eq_getElem (by rw[←HN.out];omega)⟩
      obtain ⟨bc,offc,ds,hoc,hbc,hdl,hdcell,hins⟩:=HCODE.out.at (HWW2.out.mono hB) hx
      subst hoc
      obtain ⟨kk,dd,aa,bb,ll⟩:=x
      obtain ⟨sl,rfl,hbk,_,_,_,_⟩:=hins
      have k0:=hdcell 0 _ rfl
      rw[Nat.add_zero] at k0
      dsimp only at k0 hbk
      have HLO:=zh (show Unt.lastOp code=kk from zed HN.out hx)
      have hkl:=zac k0
      obtain ⟨q2,hq2⟩:∃q2,(decide ((50000:Int)<all+n) || !Unt.lastB kk)=q2:=⟨_,rfl⟩
      have HQ2:=zh hq2
      clear hx hdcell hdl hq2 hh1 hh2 hh3 hh5 hh6
      go_upto_region 17 with fail
      go_cut [108] (fun c wx=>c=.bool q2∧W2=wx)
      case first=>as_aux_lemma=>
       by_cases h7:50000<all+n
       ·obtain rfl:q2=true:=by rw[←HQ2.out];simp[h7]
        have d7:decide ((50000:Int)<all+n)=true:=decide_eq_true h7
        go_wp2_with fail
        go_meet
        exact ⟨rfl,rfl⟩
       have d7:decide ((50000:Int)<all+n)=false:=decide_eq_false h7
       by_cases h15:kk=15
       ·subst h15
        obtain rfl:q2=false:=by rw[←HQ2.out,d7];rfl
        go_wp2_with fail
        go_meet
        exact ⟨rfl,rfl⟩
       have e15:(kk != 15)=true:=by simpa using h15
       by_cases h19:kk<19
       ·have e19:decide (kk<19)=true:=decide_eq_true h19
        obtain rfl:q2=true:=by rw[←HQ2.out,d7];simp[Unt.lastB,h15];omega
        go_wp2_with fail
        go_meet
        exact ⟨rfl,rfl⟩
       have e19:decide (kk<19)=false:=decide_eq_false h19
       obtain rfl:q2=decide (22<kk):=by
        rw[←HQ2.out,d7,Bool.eq_iff_iff];simp[Unt.lastB,h15];omega
       go_wp2_with fail
       go_meet
       exact ⟨rfl,rfl⟩
      case rest=>
      obtain ⟨rfl,rfl⟩:=hcut
      have HEND3:=zh (show (∀h:q2=true,E=5) from fun h=>HNO.out (by
       have h1:=HQ2.out
       rw[h,Bool.or_eq_true] at h1
       rw[HOK.out,HSTEP.out,HLN.out,HLO.out,HH.out]
       rcases h1 with h1 | h1
       ·rw[show decide (all+(n:Int)≤50000)=false from decide_eq_false (by simpa using h1)];simp
       ·rw[show Unt.lastB kk=false from by simpa using h1];simp))
      cases q2 with
      | true=>
       obtain rfl:E=5:=HEND3.out rfl
       go_wp2_with fail
       go_ret
       exact ⟨rfl,HWW2.out⟩
      | false=>
       have HQ3:=zh (show all+n≤50000∧Unt.lastB kk=true from by
        have h1:=HQ2.out
        rw[Bool.or_eq_false_iff] at h1
        have h2:=of_decide_eq_false h1.1
        exact ⟨by omega,by simpa using h1.2⟩)
       have hq31:=HQ3.out.1
       have HEND4:=zh (show (∀h:code.all (fun x=>Unt.fits x regs n np j)=false,E=5) from fun h=>HNO.out (by
        rw[HOK.out,HSTEP.out,HLN.out,HLO.out,HH.out,HQ3.out.2,h];simp))
       have HZ0:=zh (show (code.take 0).all (fun x=>Unt.fits x regs n np j)=true from rfl)
       have HZW:=zh (Below.refl W2.heap.size W2)
       clear k0 hkl
       go_wp2_with fail
       go_loopg [8] n (fun G i ws=>∃z:Nat,G=n-z∧z≤n∧i=.int .i64 z∧Hid ((code.take z).all (fun x=>Unt.fits x regs n np j)=true)∧Hid (Below W2.heap.size W2 ws))
       case atStart=>exact ⟨0,rfl,by omega,rfl,HZ0,HZW⟩
       case round=>
        obtain ⟨z,rfl,hz,rfl,HZ,HWs⟩:=hrel
        clear HZ0 HZW q0 qq1 q2 q3 hpl
        have q0:=(HPB.out.keep HWs.out).cell 0 rfl
        have qq1:=(HPB.out.keep HWs.out).cell 1 rfl
        have q2:=(HPB.out.keep HWs.out).cell 2 rfl
        have q3:=(HPB.out.keep HWs.out).cell 3 rfl
        have q4:=(HPB.out.keep HWs.out).cell 4 rfl
        have hpl:=(HPB.out.keep HWs.out).lt
        have HWW3:=zh (Below.next HWW2.out HWs.out)
        have HWQ3:=zh (Below.next HWQ2.out HWs.out)
        have U0:=(HU.out.keep HWQ3.out).cell 0 rfl
        have U1:=(HU.out.keep HWQ3.out).cell 1 rfl
        have hul:=(HU.out.keep HWQ3.out).lt
        by_cases hzn:z<n
        ·obtain ⟨y,hy⟩:∃y,code[z]?=some y:=⟨_,List.getElem?_eq_getElem (by rw[←HN.out];exact hzn)⟩
         obtain ⟨b7,off7,cs7,ho7,hb7,hcl7,hcell7,hins7⟩:=HCODE.out.at (HWW3.out.mono hB) hy
         simp only[Option.some.injEq,Addr.mk.injEq,and_true] at ho7
         obtain ⟨rfl,rfl⟩:=ho7
         have hyl:=HLP.out (by rw[←HN.out];exact hn5) y (List.mem_of_getElem? hy)
         obtain ⟨r,hr⟩:∃r,Unt.fits y regs n np j=r:=⟨_,rfl⟩
         have HR:=zh hr
         have HY:=zh hy
         match cs7,hcl7 with
         | [y0,y1,y2,y3,y4],_=>
          have p0:=hcell7 0 _ rfl
          have p1:=hcell7 1 _ rfl
          have p2:=hcell7 2 _ rfl
          have p3:=hcell7 3 _ rfl
          have p4:=hcell7 4 _ rfl
          rw[Nat.add_zero] at p0
          obtain ⟨yo,yd,ya,yb,yl⟩:=y
          obtain ⟨sy,he,g1,g2,g3,g4,hsy⟩:=hins7
          obtain ⟨oy,ly,cy,rfl⟩:=hsy.form
          simp only[List.cons.injEq,and_true] at he
          obtain ⟨rfl,rfl,rfl,rfl,rfl⟩:=he
          dsimp only at g1 g2 g3 g4 hyl
          have hIN:=fun (V:World) (hV:V=wr.drew)=>zl2 yo yd ya yb yl oy ly cy args regs rest (some ⟨bc,offc,none⟩) oa ok (some ⟨b1,off1,none⟩) n cc la ca j ck np cp B V g1 g2 g3 g4 (hsy.kept (by rw[hV];exact (HWW3.out.mono hB).drew) fun _ _ _ h=>h) (by rw[hV];have:=HWW3.out.size;show B≤wr.heap.size;omega) hyl r (by rw[Unt.ins_fits _ _ _ _ _ hreg0];exact hr)
          have HIN:=zh hIN
          have hpl7:=zac p0
          clear hcell7 hcl7 hsy hy hr hIN
          go_upto_region 22 with fail
          refine zaa (fun V=>V=wr.drew) 7 (by kernel_rfl) (by kernel_rfl) rfl ?_
          intro T _ Wd HWd HWd2
          have m0:=fun s=>zbw (HWd s) p0
          have m1:=fun s=>zbw (HWd s) p1
          have m2:=fun s=>zbw (HWd s) p2
          have m3:=fun s=>zbw (HWd s) p3
          have m4:=fun s=>zbw (HWd s) p4
          have r0:=fun s=>zbw (HWd s) q0
          have r1:=fun s=>zbw (HWd s) qq1
          have r2:=fun s=>zbw (HWd s) q2
          have r3:=fun s=>zbw (HWd s) q3
          have r4:=fun s=>zbw (HWd s) q4
          have s0:=fun s=>zbw (HWd s) U0
          have s1:=fun s=>zbw (HWd s) U1
          have HWH:=zh HWd
          clear HWd HWd2
          simp only[List.take_succ_cons,List.take_zero,List.drop_succ_cons,List.drop_zero]
          repeat (go_big_quiet_step (fail))
          refine wpQuiet_nil ?_
          intro s
          go_wp2_with fail
          refine (HIN.out _ (HWH.out s)).mono ?_
          rintro e w5 ⟨rfl,hb5'⟩
          have hb6:Below wr.heap.size wr w5:=by rw[HWH.out s] at hb5';exact (Below.refl wr.heap.size wr).drew.trans hb5'
          have HW5:=zh (Below.next HWs.out hb6)
          clear hb5' hb6 HIN m0 m1 m2 m3 m4 r0 r1 r2 r3 r4 s0 s1 p0 p1 p2 p3 p4
          cases r with
          | false=>
           obtain rfl:E=5:=HEND4.out (by
            rw[List.all_eq_false]
            exact ⟨_,List.mem_of_getElem? HY.out,by rw[HR.out];simp⟩)
           go_wp2_with fail
           go_ret
           exact ⟨rfl,Below.next HWW2.out HW5.out⟩
          | true=>
           have HZ2:=zh (show (code.take (z+1)).all (fun x=>Unt.fits x regs n np j)=true from by
            rw[List.take_add_one,HY.out,List.all_append,HZ.out]
            simp[HR.out])
           go_wp2_with fail
           go_roundg (n-(z+1))
           case measure=>omega
           case rel=>exact ⟨z+1,rfl,by omega,by go_num,HZ2,HW5⟩
        ·obtain rfl:z=n:=by omega
         have HPN:=zh (show Unt.procsB j np u.procs 0=Unt.procsB j np (u.procs.drop (t+1)) (all+z) from by
          have h1:=HZ.out
          rw[List.take_of_length_le (by rw[←HN.out];exact Nat.le_refl _)] at h1
          rw[HSTEP.out,HLN.out,HLO.out,HH.out,HQ3.out.2,h1,decide_eq_true HQ3.out.1];simp)
         go_wp2_with fail
         go_roundg (np-(t+1))
         case measure=>omega
         case rel=>exact ⟨t+1,all+z,rfl,by omega,rfl,by go_num,by omega,by omega,HPN,HWQ3⟩
    ·obtain rfl:t=np:=by omega
     have HT:=zh (show u.okB=true from by rw[HOK.out,HS.out,List.drop_eq_nil_of_le (by rw[←HNP.out];exact Nat.le_refl _)];rfl)
     obtain rfl:E=0:=by rw[←HE.out,zkD HT.out]
     go_wp2_with fail
     go_ret
     exact ⟨rfl,HWW.out⟩
end
section
open Go.RowKit
end
section
open Go.RowKit
end
section
open Go.RowKit
end
section
namespace Mdl
open Unt (named gives)
def argsG (c:Cod) (r:Int):Prop:=0≤r∧r<c.v.length
theorem zdt {c:Cod} {nc nk:Int} {fr:Bool} (hw:Trm.wf nc nk fr c.body (Trm.addV (fun _=>false) c.v)=true) (hn:(c.v++c.body.bnd).Nodup):Mk.FragE (argsG c) 0 (Mk.proc Mk.lkL c).code∧(c.v.length:Int)≤(Mk.proc Mk.lkL c).regs∧(Mk.proc Mk.lkL c).args=c.v.length∧(Mk.proc Mk.lkL c).rest=c.rest∧(Mk.proc Mk.lkL c).alive=[]:=by
 obtain ⟨seg,h1,h2,h3⟩:=Mk.lays_into c.body.all c.body (Nat.le_refl _) nc nk fr (Trm.addV (fun _=>false) c.v) 0 true ⟨[],c.v.length,c.v.zip ((List.range c.v.length).map fun (i:Nat)=>(i:Int))⟩ (argsG c) hw
  (fun v hv=>by
   have hm:v∈c.v:=by simpa[Trm.addV] using hv
   have h:=Mk.lkL_in c.v ((List.range c.v.length).map fun (i:Nat)=>(i:Int)) [] v hm (by simp)
   rw[List.nil_append] at h
   simp only[List.mem_map,List.mem_range] at h
   obtain ⟨i,hi,e⟩:=h
   rw[←e]
   exact ⟨⟨by omega,by omega⟩,by simp,by dsimp only;omega⟩)
  (fun v hv hb=>(List.nodup_append.1 hn).2.2 v (by simpa[Trm.addV] using hv) v hb rfl) (List.nodup_append.1 hn).2.1 (fun h=>by cases h)
 have hc:(Mk.proc Mk.lkL c).code=seg:=by
  show (Mk.into Mk.lkL c.body 0 true _).code=seg
  rw[h1.code];rfl
 rw[hc]
 exact ⟨h3,h1.regs,rfl,rfl,rfl⟩
theorem zfS {m:Mdl} (h:m.okB=true):∀p∈(m.unit Mk.lkL).procs,∃c:Cod,p=Mk.proc Mk.lkL c∧Mk.FragE (argsG c) 0 p.code∧(c.v.length:Int)≤p.regs∧p.args=c.v.length∧p.rest=c.rest∧p.alive=[]:=by
 rw[okB] at h
 simp only[Bool.and_eq_true] at h
 obtain ⟨_,⟨h1,h2⟩,h3⟩:=h
 intro p hp
 rcases List.mem_append.1 hp with hp | hp
 ·obtain ⟨c,hc,rfl⟩:=List.mem_map.1 hp
  have he:=codes_each h3 c hc
  exact ⟨c,rfl,zdt he.1 he.2.1⟩
 ·rw[List.mem_singleton.1 hp]
  exact ⟨_,rfl,zdt (c:=⟨[],false,m.body⟩) (by rw[Trm.addV_nil];exact h1) (by simpa using ((Trm.newB_iff _ _).1 h2).2)⟩
end Mdl
end
section
open Go Go.RowKit
theorem zcB {W:World} {ops:Array Oper} {o:Oper} {a:Act} {K:Act→World→Prop} {Q:Exit→Act→World→Prop} {E:Prop} (hgd:o.guard=none) (s x:Operand)
  (ho:o.op=.call { callee:=.builtin .append,args:=#[s,x],argTypes:=#[44,44] }) (base k mb:Nat) (cv:Value) (xs rs:List Value) (p d q b:Int) (ol:Option Addr) (ll cl:Nat) (hs:a.eval s=cv)
  (hown:Hid (W.ownsRow base 49 5 cv k xs)) (hm:Hid (BoxL W mb 77 (cv::rs))) (pb:Nat) (hp:Hid (BoxL W pb 74 [.pointer (some ⟨mb,0,none⟩)])) (hx:a.eval x=.slice (some ⟨W.heap.size,0,none⟩) 1 1) (hk:k≤1000000) (hb:base≤W.heap.size)
  (h:∀g cap w',Hid (w'.ownsRow base 49 5 (.slice (some ⟨g,0,none⟩) (k+1) cap) (k+1) (xs++[.int .i64 p,.int .i64 d,.int .i64 q,.int .i64 b,.slice ol ll cl]))→Hid ((W.alloc (.cells #[.int .i64 p,.int .i64 d,.int .i64 q,.int .i64 b,.slice ol ll cl] 49)).grownBy w' cv.ownBlock)→Hid (cv.ownBlock=some g∨g=W.heap.size+1) →
   Hid (BoxL w' mb 77 (cv::rs))→w'.cell? ⟨mb,0,none⟩=some cv→w'.frozen? ⟨mb,0,none⟩=false→mb<w'.heap.size→w'.cell? ⟨pb,0,none⟩=some (.pointer (some ⟨mb,0,none⟩))→pb<w'.heap.size→Hid (BoxL w' pb 74 [.pointer (some ⟨mb,0,none⟩)])→K (a.put o.dst (.slice (some ⟨g,0,none⟩) (k+1) cap)) w') :
  if Region.wanted o (yielded ops a.tmps)=true then Oper.wp prog o a (W.alloc (.cells #[.int .i64 p,.int .i64 d,.int .i64 q,.int .i64 b,.slice ol ll cl] 49)).drew K Q else E:=by
 have hw:Region.wanted o (yielded ops a.tmps)=true:=by simp[Region.wanted,hgd]
 rw[if_pos hw]
 obtain ⟨i0,hi0,hz0,hz1,hz2⟩:=info_parts ze2
 refine wp_append_lies _ s x 44 ho base 49 i0 (.agg #[.int .i64 0,.int .i64 0,.int .i64 0,.int .i64 0,.slice none 0 0]) 5 56 underlying44 hi0 hz0 hz1 hz2 rfl (by decide) cv k xs hs (hown.out.alloc _) ⟨W.heap.size,0,none⟩ 1 1 [.int .i64 p,.int .i64 d,.int .i64 q,.int .i64 b,.slice ol ll cl] hx rfl (zaS W _ _) (by intro u hu;simp only[List.mem_cons,List.not_mem_nil,or_false] at hu;rcases hu with rfl | rfl | rfl | rfl | rfl<;>rfl) (by decide) (by unfold maxLen;omega) (by omega) (by show base≤(W.alloc _).heap.size;simp;omega) (W.heap.size+1) (by show (W.alloc _).heap.size=_;simp) ?_
 intro g cap w' h1 h2 h3 _
 have h2':(W.alloc (.cells #[.int .i64 p,.int .i64 d,.int .i64 q,.int .i64 b,.slice ol ll cl] 49)).grownBy w' cv.ownBlock:=zcb h2
 have hbx:BoxL w' mb 77 (cv::rs):=by
  refine (h2'.block mb (by rw[World.size_alloc];have:=hm.out.lt;omega) (fun e=>?_)).trans (hm.out.alloc _)
  obtain ⟨cs',f,hc⟩:=zaF hown.out mb e.symm
  rw[show W.heap[mb]?=_ from hm.out] at hc
  simp at hc
 have hpx:BoxL w' pb 74 [.pointer (some ⟨mb,0,none⟩)]:=by
  refine (h2'.block pb (by rw[World.size_alloc];have:=hp.out.lt;omega) (fun e=>?_)).trans (hp.out.alloc _)
  obtain ⟨cs',f,hc⟩:=zaF hown.out pb e.symm
  rw[show W.heap[pb]?=_ from hp.out] at hc
  simp at hc
 exact h g cap w' (zh h1) (zh h2') (zh h3) (zh hbx) (hbx.cell 0 rfl) (hbx.free 0) hbx.lt (hpx.cell 0 rfl) hpx.lt (zh hpx)
def LayPost (base mb k:Nat) (r:Int) (mv cv:Value) (xs cs:List Value) (w:World) (e:Ending) (w':World):Prop:=
 ∃g cap c,e=.returned (.func (.func 104) #[] #[.pointer (some ⟨w.heap.size,0,none⟩),.pointer (some ⟨c,0,none⟩)])∧BoxL w' mb 77 [.slice (some ⟨g,0,none⟩) (k+1) cap,.int .i64 r,mv]∧w'.ownsRow base 49 5 (.slice (some ⟨g,0,none⟩) (k+1) cap) (k+1) (xs++cs) ∧
  BoxL w' w.heap.size 74 [.pointer (some ⟨mb,0,none⟩)]∧BoxL w' c 3 [.int .i64 k]∧w.heap.size≤c∧(cv.ownBlock=some g∨w.heap.size≤g)∧Turned (fun b=>b=mb∨cv.ownBlock=some b) w w'
theorem zlb {base mb k g cap:Nat} {r:Int} {mv cv:Value} {xs cs:List Value} {w W2 w5:World} {X:Obj} (hb:Below w.heap.size w W2) (hg:(W2.alloc X).grownBy w5 cv.ownBlock) (he:cv.ownBlock=some g∨g=W2.heap.size+1)
  (ho:w5.ownsRow base 49 5 (.slice (some ⟨g,0,none⟩) (k+1) cap) (k+1) (xs++cs)) (hm5:BoxL w5 mb 77 [cv,.int .i64 r,mv]) (hm:BoxL (w5.setCell ⟨mb,0,none⟩ (.slice (some ⟨g,0,none⟩) (k+1) cap)) mb 77 [.slice (some ⟨g,0,none⟩) (k+1) cap,.int .i64 r,mv]) (hp:BoxL (w5.setCell ⟨mb,0,none⟩ (.slice (some ⟨g,0,none⟩) (k+1) cap)) w.heap.size 74 [.pointer (some ⟨mb,0,none⟩)]) :
  LayPost base mb k r mv cv xs cs w (.returned (.func (.func 104) #[] #[.pointer (some ⟨w.heap.size,0,none⟩),.pointer (some ⟨w5.heap.size,0,none⟩)])) ((w5.setCell ⟨mb,0,none⟩ (.slice (some ⟨g,0,none⟩) (k+1) cap)).alloc (.cells #[.int .i64 k] 3)):=by
 have hz:=hb.size
 have hz5:=hg.size
 rw[World.size_alloc] at hz5
 have hrow:(w5.setCell ⟨mb,0,none⟩ (.slice (some ⟨g,0,none⟩) (k+1) cap)).ownsRow base 49 5 (.slice (some ⟨g,0,none⟩) (k+1) cap) (k+1) (xs++cs):=zaV ho _ _ (fun q hq e=>by
  obtain ⟨cs',f,hc⟩:=zaF ho q hq
  have e:q=mb:=e
  rw[e,show w5.heap[mb]?=_ from hm5] at hc
  simp at hc)
 refine ⟨g,cap,w5.heap.size,rfl,hm.alloc _,hrow.alloc _,hp.alloc _,BoxL.new (by simp) _ _,by omega,he.imp id (fun e=>by omega),hg.os.trans hb.os,hg.tape.trans hb.tape,hg.output.trans hb.output,by simp;omega,fun b hlt hS=>?_⟩
 refine (Below.heap_alloc _ _ b (by rw[World.size_setCell];omega)).trans ((zag _ _ _ (fun e=>hS (.inl e))).trans ((hg.block b (by rw[World.size_alloc];omega) (fun e=>hS (.inr e.symm))).trans ((Below.heap_alloc _ _ b (by omega)).trans (hb.block b hlt))))
theorem zlp (base mb k:Nat) (r:Int) (mv cv:Value) (ov:Option Addr) (lv cv2:Nat) (hcv:cv=.slice ov lv cv2) (xs:List Value) (p d q b:Int) (ol:Option Addr) (ll cl:Nat) (w:World)
  (hm:BoxL w mb 77 [cv,.int .i64 r,mv]) (hown:w.ownsRow base 49 5 cv k xs) (hk:k≤1000000) (hb:base≤w.heap.size) :
  Calls prog 92 #[.pointer (some ⟨mb,0,none⟩),.agg #[.int .i64 p,.int .i64 d,.int .i64 q,.int .i64 b,.slice ol ll cl]] w (LayPost base mb k r mv cv xs [.int .i64 p,.int .i64 d,.int .i64 q,.int .i64 b,.slice ol ll cl] w):=by
 subst hcv
 obtain ⟨W2,hW2⟩:∃W2,(w.alloc (.cells #[.pointer (some ⟨mb,0,none⟩)] 74)).alloc (.cells #[.int .i64 p,.int .i64 d,.int .i64 q,.int .i64 b,.slice ol ll cl] 49)=W2:=⟨_,rfl⟩
 have HWE:=zh hW2
 have HB2:=zh (show Below w.heap.size w W2 from by rw[←hW2];exact (Below.one w _).trans ((Below.one _ _).mono (by simp)))
 have BM:=zh (show BoxL W2 w.heap.size 74 [.pointer (some ⟨mb,0,none⟩)] from by rw[←hW2];exact (BoxL.new rfl _ _).alloc _)
 have BI:=zh (show BoxL W2 (w.heap.size+1) 49 [.int .i64 p,.int .i64 d,.int .i64 q,.int .i64 b,.slice ol ll cl] from by rw[←hW2];exact BoxL.new (by simp) _ _)
 have HM:=zh (hm.keep HB2.out)
 have HO:=zh (zam hown HB2.out)
 have hbs:base≤W2.heap.size:=Nat.le_trans hb HB2.out.size
 clear hW2 hm hown hb
 go_enter func92,ntmps92
 go_upto_region 1 with fail
 rw[HWE.out]
 have m0:=BM.out.cell 0 rfl
 have hml:=BM.out.lt
 have i0:=BI.out.cell 0 rfl
 have i1:=BI.out.cell 1 rfl
 have i2:=BI.out.cell 2 rfl
 have i3:=BI.out.cell 3 rfl
 have i4:=BI.out.cell 4 rfl
 have hil:=BI.out.lt
 have x0:=HM.out.cell 0 rfl
 have hxl:=HM.out.lt
 go_region_law (refine zcB rfl (.tmp 10) (.tmp 12) rfl base k mb (.slice ov lv cv2) xs [.int .i64 r,mv] p d q b ol ll cl rfl HO HM w.heap.size BM rfl hk hbs ?_;intro g cap w5 HO5 HG5 HE5 HM5 z0 z1 z2 z3 z4 HP5)
 all_goals
  have hne:w.heap.size≠mb:=HP5.out.ne HM5.out (by decide)
  have HM6:=zh (HM5.out.set 0 (.slice (some ⟨g,0,none⟩) (k+1) cap))
  have HP6:=zh (HP5.out.other ⟨mb,0,none⟩ (.slice (some ⟨g,0,none⟩) (k+1) cap) hne)
  have y0:=HM6.out.cell 0 rfl
  have y1:=HM6.out.lt
  have y2:=HP6.out.cell 0 rfl
  have y3:=HP6.out.lt
  have HE:=zh (zlb HB2.out HG5.out HE5.out HO5.out HM5.out HM6.out HP6.out)
  clear z0 z1 z2 z3 z4 hne
  go_wp2_with fail
  go_ret
  exact HE.out
end
section
open Go Go.RowKit
def GoodR (cb bb sb:Nat) (nc nk:Int) (fr:Bool) (size:Int) (l b:List Int) (sc:Int→Bool) (w':World):Prop:=∃l',l'.Perm (l++b)∧ChkS w' cb bb sb nc nk fr size l' sc
def RightC (x:Trm):Prop:=∀(c0 c1 c2 c3:Value) (B cb bb sb:Nat) (nc nk size:Int) (fr:Bool) (l:List Int) (sc:Int→Bool) (deep:Int) (W:World),TrmR W B x [c0,c1,c2,c3]→(∀b,S3 cb bb sb b→B≤b)→B≤W.heap.size→ChkS W cb bb sb nc nk fr size l sc→(∀v,sc v=true→v∈l) →
 0≤size→size+x.all≤20000→0≤deep→deep+x.all≤401 →
 Calls prog 32 #[.pointer (some ⟨cb,0,none⟩),.agg #[c0,c1,c2,c3],.map (some sb),.int .i64 deep] W (ChkPost cb bb sb nc nk fr (Trm.wf nc nk fr x sc&&Trm.newB (fun _=>false) (l++x.bnd)) (GoodR cb bb sb nc nk fr (size+x.all) l x.bnd sc) W)
def FoundR (cb bb sb:Nat) (nc nk:Int) (fr:Bool) (r:Bool) (Good:World→Prop) (w:World) (e:Ending) (w':World):Prop:=e=.returned (.bool (!r))∧Turned (S3 cb bb sb) w w'∧(r=true→Good w')∧(r=false→ChkX w' cb bb sb nc nk fr)
theorem zbs:∀(a b:List Trm),Trm.bndL (a++b)=Trm.bndL a++Trm.bndL b
 | [],b=>by simp[Trm.bndL]
 | x::a,b=>by rw[List.cons_append,Trm.bndL,zbs a b,Trm.bndL,List.append_assoc]
theorem zaz:∀(a b:List Trm),Trm.allL (a++b)=Trm.allL a+Trm.allL b
 | [],b=>by simp[Trm.allL]
 | x::a,b=>by rw[List.cons_append,Trm.allL,zaz a b,Trm.allL];omega
theorem zc1 {l:List Trm} {j:Nat} {x:Trm} (h:l[j]?=some x):Trm.bndL (l.take (j+1))=Trm.bndL (l.take j)++x.bnd:=by
 rw[List.take_add_one,h,zbs];simp[Trm.bndL]
theorem za2 {l:List Trm} {j:Nat} {x:Trm} (h:l[j]?=some x):Trm.allL (l.take (j+1))=Trm.allL (l.take j)+x.all:=by
 rw[List.take_add_one,h,zaz];simp[Trm.allL]
theorem zaQ (l:List Trm) (j:Nat):Trm.allL (l.take j)≤Trm.allL l:=by
 conv=>rhs;rw[←List.take_append_drop j l,zaz]
 omega
theorem zaO {a b:List Int} (h:Trm.newB (fun _=>false) (a++b)=true):Trm.newB (fun _=>false) a=true:=by
 rw[Trm.newB_append,Bool.and_eq_true] at h;exact h.1
def okL (nc nk:Int) (fr:Bool) (sc:Int→Bool) (l:List Int) (ts:List Trm):Bool:=(ts.all fun x=>Trm.wf nc nk fr x sc)&&Trm.newB (fun _=>false) (l++Trm.bndL ts)
theorem zfz {nc nk:Int} {fr:Bool} {sc:Int→Bool} {l l':List Int} {ts:List Trm} {j:Nat} {x:Trm} (hx:ts[j]?=some x) (hp:l'.Perm (l++Trm.bndL (ts.take j))) (h:okL nc nk fr sc l (ts.take j)=true) :
  okL nc nk fr sc l (ts.take (j+1))=(Trm.wf nc nk fr x sc&&Trm.newB (fun _=>false) (l'++x.bnd)):=by
 rw[okL,zc1 hx,←List.append_assoc,Trm.newB_perm (hp.append_right x.bnd).symm,List.take_add_one,hx,List.all_append]
 rw[okL,Bool.and_eq_true] at h
 rw[h.1]
 simp
theorem ze6 {nc nk:Int} {fr:Bool} {sc:Int→Bool} {l:List Int} {ts:List Trm} {j:Nat} (h:okL nc nk fr sc l (ts.take j)=false):okL nc nk fr sc l ts=false:=by
 rw[Bool.eq_false_iff] at h ⊢
 intro hh
 refine h ?_
 rw[okL,Bool.and_eq_true] at hh ⊢
 refine ⟨?_,?_⟩
 ·rw[List.all_eq_true] at hh ⊢
  exact fun x hx=>hh.1 x (List.mem_of_mem_take hx)
 ·have h2:=hh.2
  rw[←List.take_append_drop j ts,zbs,←List.append_assoc] at h2
  exact zaO h2
theorem zbZ {nc nk:Int} {fr:Bool} {op:Int} (ho:op≠9) {v:List Int}:∀(t:List Trm) (sc:Int→Bool),Trm.wfL nc nk fr op v t sc=(((t.take (t.length-1)).all fun x=>Trm.wf nc nk fr x sc)&&((t.drop (t.length-1)).all fun x=>Trm.wf nc nk fr x (Trm.addV sc v)))
 | [],sc=>by simp[Trm.wfL]
 | [x],sc=>by simp[Trm.wfL]
 | x::y::l,sc=>by
  rw[Trm.wfL,if_neg ho,zbZ ho (y::l) sc]
  simp[Bool.and_assoc]
theorem zdI {nc nk:Int} {fr:Bool} {v:List Int}:∀(t:List Trm) (sc:Int→Bool),Trm.wfL nc nk fr 9 v t sc=((t.all fun x=>Trm.wf nc nk fr x (Trm.addV sc v))&&((t.take (t.length-1)).all fun x=>x.op==19))
 | [],sc=>by simp[Trm.wfL]
 | [x],sc=>by simp[Trm.wfL]
 | x::y::l,sc=>by
  rw[Trm.wfL,if_pos rfl,zdI (y::l) sc,Bool.eq_iff_iff]
  simp[and_assoc,and_left_comm]
theorem zik (x:Trm) (hx:RightC x) (c0 c1 c2 c3:Value) (B cb bb sb:Nat) (nc nk size:Int) (fr:Bool) (l:List Int) (sc:Int→Bool) (deep:Int) (h:Nat) (op n:Int) (vs ts:Value) (W:World) (hv:TrmR W B x [c0,c1,c2,c3]) (hS:∀b,S3 cb bb sb b→B≤b) (hB:B≤W.heap.size) (hc:ChkS W cb bb sb nc nk fr size l sc) (hsc:∀v,sc v=true→v∈l)
  (h0:0≤size) (h1:size+x.all≤20000) (h2:0≤deep) (h3:deep+1+x.all≤401) (hbx:RBox W h cb sb op n vs ts deep) :
  Calls prog 63 #[.agg #[c0,c1,c2,c3],.pointer (some ⟨h,0,none⟩),.pointer (some ⟨h+1+1,0,none⟩),.pointer (some ⟨h+1+1+1,0,none⟩)] W
   (FoundR cb bb sb nc nk fr (Trm.wf nc nk fr x sc&&Trm.newB (fun _=>false) (l++x.bnd)) (GoodR cb bb sb nc nk fr (size+x.all) l x.bnd sc) W):=by
 obtain ⟨r,hr⟩:∃r,(Trm.wf nc nk fr x sc&&Trm.newB (fun _=>false) (l++x.bnd))=r:=⟨_,rfl⟩
 rw[hr]
 obtain ⟨o',n',v',t',hxe⟩:∃o' n' v' t',x=.mk o' n' v' t':=by obtain ⟨o',n',v',t'⟩:=x;exact ⟨_,_,_,_,rfl⟩
 have hsh:∃o n q r s q' r' s',c0=.int .i64 o∧c1=.int .i64 n∧c2=.slice q r s∧c3=.slice q' r' s':=by
  subst hxe
  obtain ⟨vs',ts',he,_,_,hvs,hts⟩:=zas.1 hv
  simp only[List.cons.injEq,and_true] at he
  obtain ⟨rfl,rfl,rfl,rfl⟩:=he
  obtain ⟨q,r,s,rfl⟩:=hvs.form
  obtain ⟨q',r',s',rfl⟩:=hts.form
  exact ⟨_,_,_,_,_,_,_,_,rfl,rfl,rfl,rfl⟩
 obtain ⟨o,nn,q,rr,s,q',r',s',rfl,rfl,rfl,rfl⟩:=hsh
 obtain ⟨W1,hW1⟩:∃W1,W.alloc (.cells #[.int .i64 o,.int .i64 nn,.slice q rr s,.slice q' r' s'] 27)=W1:=⟨_,rfl⟩
 have HB1:=zh (show Below W.heap.size W W1 from by rw[←hW1];exact Below.one W _)
 have HC:=zh (hx _ _ _ _ B cb bb sb nc nk size fr l sc (deep+1) W1 (TrmR.kept (HB1.out.mono hB) _ _ hv) hS (Nat.le_trans hB HB1.out.size) (hc.keep HB1.out) hsc h0 h1 (by omega) (by omega))
 rw[hr] at HC
 have HW:=zh hW1
 have HR:=zh hr
 have x0:=hbx.c.cell 0 rfl
 have x1:=hbx.s.cell 0 rfl
 have x2:=hbx.d.cell 0 rfl
 have l0:=hbx.c.lt
 have l1:=hbx.s.lt
 have l2:=hbx.d.lt
 have hall:=x.all_pos
 clear hr hW1 hv hc hx hxe hbx
 go_enter func63,ntmps63
 go_wp2_with fail
 rw[HW.out]
 refine HC.out.mono ?_
 rintro e w1 ⟨rfl,hT,hg,hb⟩
 have HT:=zh ((Turned.of_below (S:=S3 cb bb sb) HB1.out).next hT)
 have HG:=zh hg
 have HBD:=zh hb
 clear hT hg hb x0 x1 x2
 cases r with
 | true=>
  go_wp2_with fail
  go_ret
  exact ⟨rfl,HT.out,fun _=>HG.out trivial,fun h=>by simp at h⟩
 | false=>
  go_wp2_with fail
  go_ret
  exact ⟨rfl,HT.out,fun h=>by simp at h,fun _=>HBD.out trivial⟩
theorem zdn (ts:List Trm) (hx:∀x∈ts,RightC x) (sl:Value) (B cb bb sb:Nat) (nc nk size:Int) (fr:Bool) (l:List Int) (sc:Int→Bool) (deep:Int) (h:Nat) (op n:Int) (vs tv:Value) (W:World) (hv:TrmS W B ts sl) (hS:∀b,S3 cb bb sb b→B≤b) (hSh:∀b,S3 cb bb sb b→b<h) (hB:B≤W.heap.size) (hc:ChkS W cb bb sb nc nk fr size l sc) (hsc:∀v,sc v=true→v∈l)
  (h0:0≤size) (h1:size+Trm.allL ts≤20000) (h2:0≤deep) (h3:deep+1+Trm.allL ts≤401) (hbx:RBox W h cb sb op n vs tv deep) :
  Calls prog 62 #[sl,.func (.func 63) #[] #[.pointer (some ⟨h,0,none⟩),.pointer (some ⟨h+1+1,0,none⟩),.pointer (some ⟨h+1+1+1,0,none⟩)]] W
   (FoundR cb bb sb nc nk fr (okL nc nk fr sc l ts) (GoodR cb bb sb nc nk fr (size+Trm.allL ts) l (Trm.bndL ts) sc) W):=by
 let St:Nat→World→Prop:=fun j w'=>okL nc nk fr sc l (ts.take j)=true∧GoodR cb bb sb nc nk fr (size+Trm.allL (ts.take j)) l (Trm.bndL (ts.take j)) sc w'∧Turned (S3 cb bb sb) W w'
 let Bad:World→Prop:=fun w'=>okL nc nk fr sc l ts=false∧ChkX w' cb bb sb nc nk fr∧Turned (S3 cb bb sb) W w'
 refine (zcQ 63 #[.pointer (some ⟨h,0,none⟩),.pointer (some ⟨h+1+1,0,none⟩),.pointer (some ⟨h+1+1+1,0,none⟩)] ts sl B W St Bad hv (fun _ _=>rfl) (fun j w' hst=>hst.2.2.below hS hB) ?_ ?_).mono ?_
 ·refine ⟨?_,⟨l,by simp[Trm.bndL],?_⟩,Turned.refl _ _⟩
  ·rw[List.take_zero,okL,Trm.bndL,List.append_nil,hc.new];rfl
  ·rw[List.take_zero,Trm.allL];simpa using hc
 ·intro j x hxj c0 c1 c2 c3 w' hr hst
  obtain ⟨hok,⟨l',hp,hcs⟩,ht⟩:=hst
  have hle:=zaQ ts (j+1)
  have hsn:=za2 hxj
  refine (zik x (hx x (List.mem_of_getElem? hxj)) c0 c1 c2 c3 B cb bb sb nc nk _ fr l' sc deep h op n vs tv w' hr hS (Nat.le_trans hB ht.size) hcs (fun v hv=>hp.mem_iff.2 (List.mem_append_left _ (hsc v hv))) (by omega) (by omega) h2 (by omega) (hbx.turned ht hSh)).mono ?_
  rintro e w2 ⟨rfl,ht2,hg,hb⟩
  have hst:=zfz hxj hp hok
  obtain ⟨r,hr⟩:∃r,(Trm.wf nc nk fr x sc&&Trm.newB (fun _=>false) (l'++x.bnd))=r:=⟨_,rfl⟩
  rw[hr] at hst hg hb ⊢
  refine ⟨_,rfl,fun hc=>?_,fun hc=>?_⟩
  ·have hr0:r=false:=by simpa using hc
   exact ⟨ze6 (hst.trans hr0),hb hr0,ht.next ht2⟩
  ·have hr0:r=true:=by simpa using hc
   refine ⟨hst.trans hr0,?_,ht.next ht2⟩
   obtain ⟨l2,hp2,hcs2⟩:=hg hr0
   refine ⟨l2,?_,?_⟩
   ·rw[zc1 hxj,←List.append_assoc]
    exact hp2.trans (hp.append_right _)
   ·rw[hsn,show size+((Trm.allL (ts.take j)+x.all:Nat):Int)=size+(Trm.allL (ts.take j):Nat)+(x.all:Nat) by omega]
    exact hcs2
 ·rintro e w' ⟨c,rfl,hb,hg⟩
  cases c with
  | true=>
   have h:=hb rfl
   rw[h.1]
   exact ⟨rfl,h.2.2,fun h=>(by cases h),fun _=>h.2.1⟩
  | false=>
   have h:=hg rfl
   simp only[St,List.take_of_length_le (Nat.le_refl _)] at h
   rw[h.1]
   exact ⟨rfl,h.2.2,fun _=>h.2.1,fun h=>(by cases h)⟩
end
section
open Go
section
variable {P : Program} {ops : Array Oper} {md : Region.Mode}
theorem zg1 {I:Array Bool→Act→World→Prop} {Q:Exit→Act→World→Prop} (hb:backB md ops=true)
  (hstep:∀listed a w i,I listed a w→i∈Region.ready md ops listed→wpOp P ops Q i (fun a' w'=>I (listed.setIfInBounds i true) a' w') a w)
  (hend:∀listed a w,I listed a w→(∀i,i<ops.size→listed.getD i true=true)→Q .normal a w) :
  ∀(f:Nat) (listed:Array Bool) (a:Act) (w:World),((List.range ops.size).filter fun i=>!listed.getD i true).length=f→listed.size=ops.size→I listed a w→wpAny P md ops Q f listed a w
 | 0,listed,a,w,hf,hsz,h=>by
  have h0:=List.eq_nil_of_length_eq_zero hf
  rw[List.filter_eq_nil_iff] at h0
  have hall:∀i,i<ops.size→listed.getD i true=true:=fun i hi=>by simpa using h0 i (List.mem_range.2 hi)
  refine ⟨?_,hend listed a w h hall⟩
  apply List.eq_nil_iff_forall_not_mem.2
  intro i hi
  have h1:=(mem_ready.1 hi).1
  obtain ⟨_,o,ho,_⟩:=mem_ready.1 hi
  have h2:=hall i (Array.getElem?_eq_some_iff.1 ho).1
  rw[h2] at h1
  cases h1
 | f+1,listed,a,w,hf,hsz,h=>by
  have hex:∃i,i<ops.size∧i<ops.size∧listed.getD i true=false:=by
   obtain ⟨i,hi⟩:=List.exists_mem_of_length_pos (by rw[hf];omega)
   rw[List.mem_filter,List.mem_range] at hi
   exact ⟨i,hi.1,hi.1,by simpa using hi.2⟩
  refine ⟨fun h0=>absurd h0 (zcO hb hsz hex),fun i hi=>?_⟩
  obtain ⟨hun,o,ho,_⟩:=mem_ready.1 hi
  have hin:=(Array.getElem?_eq_some_iff.1 ho).1
  have hlt:i<listed.size:=by rw[hsz];exact hin
  refine wpOp_mono (fun a' w' h'=>zg1 hb hstep hend f _ a' w' ?_ (by simpa using hsz) h') (hstep listed a w i h hi)
  have key:((List.range ops.size).filter fun k=>!(listed.setIfInBounds i true).getD k true)=(((List.range ops.size).filter fun k=>!listed.getD k true)).erase i:=by
   rw[List.Nodup.erase_eq_filter (List.nodup_range.sublist List.filter_sublist),List.filter_filter]
   apply List.filter_congr
   intro k hk
   by_cases hki:k=i
   ·subst hki
    simp[hlt]
   ·rw[getD_set_ne true (Ne.symm hki)]
    simp[hki]
  rw[key,List.length_erase_of_mem (by rw[List.mem_filter,List.mem_range];exact ⟨hin,by simpa using hun⟩),hf]
  rfl
def freeB (ops:Array Oper) (p:Nat) (U:Nat→Bool):Bool:=(List.range ops.size).all fun i=>decide (i=p) || match ops[i]? with | some o=>o.after.all fun e=>!Region.binds .any e || !U e.on | none=>true
def turnB (ops:Array Oper) (m p:Nat) (U:Nat→Bool):Bool:=backB .any ops&&(slotsB ops ops.size m&&(guardsB .any ops ops.size m []&&(freeB ops p U && !U p)))
theorem zjH {p i:Nat} {U:Nat→Bool} {o:Oper} (h:freeB ops p U=true) (ho:ops[i]?=some o) (hp:i≠p):∀e∈o.after,Region.binds .any e=true→U e.on=false:=fun e he hb=>by
 have h1:=List.all_eq_true.1 h i (List.mem_range.2 (Array.getElem?_eq_some_iff.1 ho).1)
 simp only[ho,Bool.or_eq_true,decide_eq_true_eq,hp,false_or] at h1
 have h2:=Array.all_eq_true_iff_forall_mem.1 h1 e he
 simpa[hb] using h2
theorem zde {id:Nat} {Q:Exit→Act→World→Prop} {a0:Act} {w:World} {l:List Oper} (p:Nat) (U:Nat→Bool) (R:Nat→Value→World→Prop) (Ext Ext':World→World→Prop) (hm:P.follows .mixedOrders=true) (hB:turnB l.toArray a0.tmps.size p U=true)
  (htr:∀{A B C:World},Ext A B→Ext B C→Ext A C) (htr':∀{A B C:World},Ext' A B→Ext' B C→Ext' A C) (hE:∀{A B:World},Ext w.drew A→Ext' A B→Ext A B) (h0:Ext w.drew w.drew) (h0':Ext' w.drew w.drew)
  (hR:∀i v A B,i≠p→U i=false→R i v A→Ext A B→R i v B) (hU:∀i v A B,U i=true→R i v A→Ext' A B→R i v B) (hRp:∀v A B,R p v A→Ext' A B→R p v B)
  (hops:∀i o,l.toArray[i]?=some o→∀(a:Act) (w1:World),a.defers=a0.defers→a.tmps.size=a0.tmps.size→Ext w.drew w1→(i=p→Ext' w.drew w1)→(∀j oj d,j<l.toArray.size→l.toArray[j]?=some oj→(∃e∈o.after,Region.binds .any e=true∧e.on=j)→oj.dst=some d→R j (a.tmps.getD d undef) w1)→Rest l.toArray l.toArray.size a0 a →
   wpList P l.toArray (StepPost R (if i=p then Ext else Ext') i o a w1) [o] a w1)
  (hend:∀a w1,a.defers=a0.defers→a.tmps.size=a0.tmps.size→Ext w.drew w1→(∀i o d,U i=false→l.toArray[i]?=some o→o.dst=some d→R i (a.tmps.getD d undef) w1)→Rest l.toArray l.toArray.size a0 a→Q .normal a w1) :
  (Code.region id l.toArray true).wp P Q a0 w:=by
 simp only[turnB,Bool.and_eq_true] at hB
 obtain ⟨h1,hsl,hgd,hfr,hUp⟩:=hB
 have hUp:U p=false:=by simpa using hUp
 refine wp_region_any hm ?_
 have hcount:((List.range l.toArray.size).filter fun i=>!(Array.replicate l.toArray.size false).getD i true).length=l.toArray.size:=by
  rw[List.filter_eq_self.2]
  ·simp
  ·intro i hi
   have:i<l.toArray.size:=List.mem_range.1 hi
   have h':i<l.length:=by simpa using this
   simp[h']
 refine zg1 (P:=P) (Q:=Q) (I:=fun listed a W=>listed.size=l.toArray.size∧a.defers=a0.defers∧a.tmps.size=a0.tmps.size∧Rest l.toArray l.toArray.size a0 a∧Ext w.drew W∧(listed.getD p false=false→Ext' w.drew W) ∧
  ∀i o d,l.toArray[i]?=some o→listed.getD i false=true→o.dst=some d→(U i=false∨listed.getD p false=false)→R i (a.tmps.getD d undef) W) h1 ?_ ?_ _ _ a0 w.drew hcount (by simp)
  ⟨by simp,rfl,rfl,fun _ _=>rfl,h0,fun _=>h0',fun i o d _ h=>by rw[getD_replicate_false] at h;cases h⟩
 ·rintro listed a w1 i ⟨hls,hdf,hsz,hrest,hex,hex',hval⟩ hr
  obtain ⟨hun,o,ho,hdeps⟩:=mem_ready.1 hr
  have hin:=(Array.getElem?_eq_some_iff.1 ho).1
  have hlt:i<listed.size:=by rw[hls];exact hin
  have hun':listed.getD i false=false:=getD_both hun
  have hg:Region.wanted o (yielded l.toArray a.tmps)=true:=by simp[Region.wanted,zfd hgd hin ho]
  have hstep:=hops i o ho a w1 hdf hsz hex (fun e=>hex' (by rw[←e];exact hun')) (fun j oj d hj hoj ⟨e,he,hb,hon⟩ hd=>hval j oj d hoj (by have:=hdeps e he hb;rwa[hon] at this) hd (by
   by_cases hip:i=p
   ·exact .inr (by rw[←hip];exact hun')
   ·exact .inl (by rw[←hon];exact zjH hfr ho hip e he hb))) hrest
  unfold wpOp
  simp only[ho]
  rw[if_pos hg]
  left
  refine Oper.wp_mono ?_ (zbn (ops:=l.toArray) (K:=fun a' w'=>∃v,a'=a.put o.dst v∧R i v w'∧(if i=p then Ext else Ext') w1 w') hg hstep)
  rintro a' w' ⟨v,rfl,hv,hx⟩
  have hx':Ext w1 w':=by
   by_cases e:i=p
   ·rwa[if_pos e] at hx
   ·rw[if_neg e] at hx;exact hE hex hx
  refine ⟨by simpa using hls,?_,?_,?_,htr hex hx',fun hl=>?_,fun j oj d hoj hl hd hor=>?_⟩
  ·cases o.dst<;>exact hdf
  ·cases hdst:o.dst with
   | none=>exact hsz
   | some d=>simpa[Act.put] using hsz
  ·intro t ht
   cases hdst:o.dst with
   | none=>exact hrest t ht
   | some d'=>
    have hd':=(zbX hsl hin hin ho ho hdst hdst).1
    rw[zbE (by rw[hsz];exact hd'),if_neg ?_]
    ·exact hrest t ht
    ·rintro rfl;exact ht i o hin ho hdst
  ·by_cases e:i=p
   ·subst e
    simp[hlt] at hl
   ·rw[if_neg e] at hx
    rw[getD_set_ne false e] at hl
    exact htr' (hex' hl) hx
  ·by_cases e:i=j
   ·subst e
    obtain rfl:oj=o:=Option.some.inj (hoj.symm.trans ho)
    have hd':=(zbX hsl hin hin ho ho hd hd).1
    rw[hd,zbE (by rw[hsz];exact hd'),if_pos rfl]
    exact hv
   ·rw[getD_set_ne false e] at hl
    have hjn:=(Array.getElem?_eq_some_iff.1 hoj).1
    have hor':U j=false∨listed.getD p false=false:=by
     rcases hor with h | h
     ·exact .inl h
     ·refine .inr ?_
      by_cases e':i=p
      ·subst e'
       simp[hlt] at h
      ·rwa[getD_set_ne false e'] at h
    have hold:=hval j oj d hoj hl hd hor'
    have hsame:(a.put o.dst v).tmps.getD d undef=a.tmps.getD d undef:=by
     cases hdo:o.dst with
     | none=>rfl
     | some d'=>
      obtain ⟨hd',hne⟩:=zbX hsl hin hjn ho hoj hdo hd
      rw[zbE (by rw[hsz];exact hd'),if_neg (hne.resolve_left e)]
    rw[hsame]
    by_cases ep:j=p
    ·subst ep
     rw[if_neg e] at hx
     exact hRp _ _ _ hold hx
    ·cases hu:U j with
     | false=>exact hR j _ _ _ ep hu hold hx'
     | true=>
      rcases hor with h | h
      ·rw[hu] at h;cases h
      ·have hip:i≠p:=fun e'=>by subst e';simp[hlt] at h
       rw[if_neg hip] at hx
       exact hU j _ _ _ hu hold hx
 ·rintro listed a w1 ⟨hls,hdf,hsz,hrest,hex,_,hval⟩ hall
  exact hend a w1 hdf hsz hex (fun i o d hu ho hd=>hval i o d ho (by
   have hin:=(Array.getElem?_eq_some_iff.1 ho).1
   have:=hall i hin
   have hlt:i<listed.size:=by rw[hls];exact hin
   simpa[hlt] using this) hd (.inl hu)) hrest
end
end
end Go.Proofs.YtdcajmeeeoofgaaGreatDoor
