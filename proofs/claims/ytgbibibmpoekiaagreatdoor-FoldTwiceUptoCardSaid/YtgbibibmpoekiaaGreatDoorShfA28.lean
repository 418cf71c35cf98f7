/-
  What the proofs lean on: FwA, CkH.
-/
import Derived.Test.YtgbibibmpoekiaaGreatDoorShfA11
import Derived.Test.YtgbibibmpoekiaaGreatDoorShfA12
import Derived.Test.YtgbibibmpoekiaaGreatDoorShfA13
import Derived.Test.YtgbibibmpoekiaaGreatDoorShfA17
import Derived.Test.YtgbibibmpoekiaaGreatDoorShfA23
import Derived.Test.YtgbibibmpoekiaaGreatDoorShfA25
import Derived.Test.YtgbibibmpoekiaaGreatDoorShfA26
import Derived.Test.YtgbibibmpoekiaaGreatDoorShfA27
set_option maxRecDepth 100000
set_option maxHeartbeats 16000000
namespace Go.Proofs.YtgbibibmpoekiaaGreatDoor
section
open Go Go.RowKit
def TmV (S:Nat→Prop) (x:Trm) (v:Value) (W:World):Prop:=∃(o n:Int) (ov ot:Option Addr) (lv cv lt ct:Nat),v=.agg #[.int .i64 o,.int .i64 n,.slice ov lv cv,.slice ot lt ct]∧TrmR (hide W S) W.heap.size x [.int .i64 o,.int .i64 n,.slice ov lv cv,.slice ot lt ct]
theorem TmV.shown {W W':World} {S S':Nat→Prop} {x:Trm} {v:Value} (h:TmV S x v W) (hs:Shown W S W' S') (hz:W.heap.size≤W'.heap.size):TmV S' x v W':=by
 obtain ⟨o,n,ov,ot,lv,cv,lt,ct,rfl,h⟩:=h
 exact ⟨o,n,ov,ot,lv,cv,lt,ct,rfl,h.shown hs hz⟩
theorem TmPost.val {S:Nat→Prop} {x:Trm} {w w':World} {e:Ending} (h:TmPost S x w e w'):∃v,e=.returned v∧TmV S x v w'∧Below w.heap.size w w':=by
 obtain ⟨o,n,ov,ot,lv,cv,lt,ct,rfl,h1,h2⟩:=h
 exact ⟨_,rfl,⟨o,n,ov,ot,lv,cv,lt,ct,rfl,h1⟩,h2⟩
theorem shown_more {W W':World} {S S':Nat→Prop} (hb:Below W.heap.size W W') (hS:∀b,S' b→S b∨W.heap.size≤b):Shown W S W' S':=fun c o u hc hu=>by
 have hlt:=cell_lt hu
 refine ⟨fun hs=>?_,(hb.cell (p:=⟨c,o,none⟩) hlt).trans hu⟩
 rcases hS c hs with h | h
 ·exact hc h
 ·omega
structure ByR (W:World) (S:Nat→Prop) (mb nn:Nat) (f:Int→Option Value) (b:List (Int × Trm)):Prop where
 map:MapVT W mb nn f
 small:nn≤100000
 none:∀k,b.lookup k=Option.none→f k=Option.none
 some:∀k y,b.lookup k=Option.some y→∃v,f k=Option.some v∧TmV S y v W
theorem ByR.turnS {W W':World} {S S':Nat→Prop} {mb nn:Nat} {f:Int→Option Value} {b:List (Int × Trm)} (h:ByR W S mb nn f b) (hb:Below W.heap.size W W') (hS:∀b,S' b→S b∨W.heap.size≤b):ByR W' S' mb nn f b:=
 ⟨h.map.keep hb,h.small,h.none,fun k y hk=>let ⟨v,h1,h2⟩:=h.some k y hk;⟨v,h1,h2.shown (shown_more hb hS) hb.size⟩⟩
theorem set4_box {W:World} {b:Nat} {t:TypeId} {c0 c1 c2 c3:Value} (h:BoxL W b t [c0,c1,c2,c3]) (d0 d1 d2 d3:Value):BoxL ((((W.setCell ⟨b,0,none⟩ d0).setCell ⟨b,1,none⟩ d1).setCell ⟨b,2,none⟩ d2).setCell ⟨b,3,none⟩ d3) b t [d0,d1,d2,d3]:=(((h.set 0 d0).set 1 d1).set 2 d2).set 3 d3
theorem set4_below (W:World) {b n:Nat} (hb:n≤b) (d0 d1 d2 d3:Value):Below n W ((((W.setCell ⟨b,0,none⟩ d0).setCell ⟨b,1,none⟩ d1).setCell ⟨b,2,none⟩ d2).setCell ⟨b,3,none⟩ d3):=((((Below.refl n W).setCell (p:=⟨b,0,none⟩) hb d0).setCell (p:=⟨b,1,none⟩) hb d1).setCell (p:=⟨b,2,none⟩) hb d2).setCell (p:=⟨b,3,none⟩) hb d3
theorem set4_size (W:World) (b:Nat) (d0 d1 d2 d3:Value):((((W.setCell ⟨b,0,none⟩ d0).setCell ⟨b,1,none⟩ d1).setCell ⟨b,2,none⟩ d2).setCell ⟨b,3,none⟩ d3).heap.size=W.heap.size:=by simp only[World.size_setCell]
theorem set4_turned (W:World) {S:Nat→Prop} {b:Nat} (hb:S b) (d0 d1 d2 d3:Value):Turned S W ((((W.setCell ⟨b,0,none⟩ d0).setCell ⟨b,1,none⟩ d1).setCell ⟨b,2,none⟩ d2).setCell ⟨b,3,none⟩ d3):=(((Turned.set _ _ _ hb).next (.set _ _ _ hb)).next (.set _ _ _ hb)).next (.set _ _ _ hb)
theorem run_bsT (w:World) (x y:Int) (o1 o2:Option Addr) (l1 c1 l2 c2:Nat):(Instr.buildSlice 24 1 #[(0,.agg #[.int .i64 x,.int .i64 y,.slice o1 l1 c1,.slice o2 l2 c2])]).run Tryz.prog w=.ok (.slice (some ⟨w.heap.size,0,none⟩) 1 1) (w.alloc (.cells #[.int .i64 x,.int .i64 y,.slice o1 l1 c1,.slice o2 l2 c2] 26)):=by go_simp
theorem trmS_one {W:World} {S:Nat→Prop} {x:Trm} {c:List Value} (hx:TrmR (hide W S) W.heap.size x c) (hS:∀b,S b→b<W.heap.size):TrmS (hide (W.alloc (.cells c.toArray 26)) S) (W.alloc (.cells c.toArray 26)).heap.size [x] (.slice (some ⟨W.heap.size,0,none⟩) 1 1):=by
 have hb:=Below.one W (.cells c.toArray 26)
 refine ⟨_,_,_,rfl,rfl,Nat.le_refl _,by omega,fun _=>⟨rfl,by simp⟩,fun i y hy=>?_⟩
 cases i with
 | zero=>
  obtain rfl:x=y:=by simpa using hy
  refine ⟨c,hx.len,fun j u hj=>?_,hx.shown (Shown.below hb) hb.size⟩
  have hn:¬S W.heap.size:=fun h=>Nat.lt_irrefl _ (hS _ h)
  rw[hide_other hn]
  have:=(BoxL.new (W:=W) rfl 26 c).cell j hj
  simpa using this
 | succ i=>simp at hy
section
variable {o : Oper} {a : Act} {w : World} {Q : Exit → Act → World → Prop}
theorem wp_bsT {K:Act→World→Prop} {s:Nat} {S:Nat→Prop} {x:Trm} (ho:o.op=.buildSlice 24 1 #[(0,.tmp s)]) (hx:TmV S x (a.tmps.getD s undef) w) (hS:∀b,S b→b<w.heap.size) (hK:∀v w',TrmS (hide w' S) w'.heap.size [x] v→Below w.heap.size w w'→K (a.put o.dst v) w'):o.wp Tryz.prog a w K Q:=by
 obtain ⟨q,n,ov,ot,lv,cv,lt,ct,hv,hr⟩:=hx
 refine wp_valF (v:=.slice (some ⟨w.heap.size,0,none⟩) 1 1) (w':=w.alloc (.cells #[.int .i64 q,.int .i64 n,.slice ov lv cv,.slice ot lt ct] 26)) ?_ (hK _ _ (trmS_one hr hS) (Below.one _ _))
 have hmap:(#[(0,Operand.tmp s)]:Array (Nat × Operand)).map (fun (i,x)=>(i,a.eval x))=#[(0,.agg #[.int .i64 q,.int .i64 n,.slice ov lv cv,.slice ot lt ct])]:=by
  simp only[List.map_toArray,List.map_cons,List.map_nil]
  rw[←hv];rfl
 unfold execOp
 rw[ho]
 show (do let r ←Instr.buildSlice 24 1 ((#[(0,Operand.tmp s)]:Array (Nat × Operand)).map (fun (i,x)=>(i,a.eval x)));pure (Next.value r):Sem Next).run Tryz.prog w=_
 rw[hmap]
 simp only[Sem.run_bind,Sem.run_pure,run_bsT,Result.andThen_ok]
theorem wpList_growTF {ops:Array Oper} {rest:List Oper} {S:Nat→Prop} (hg:o.guard=none) (s x:Operand) (ho:o.op=.call { callee:=.builtin .append,args:=#[s,x],argTypes:=#[24,24] }) (base:Nat) (v xv:Value) (l k:List Trm) (hs:a.eval s=v) (hgr:GrownT 26 w S base l v) (hx:a.eval x=xv) (hk:TrmS (hide w (SR S v)) w.heap.size k xv) (hm:l.length+k.length≤1000000)
  (h:∀o' len' cap' w',Hid (GrownT 26 w' S base (l++k) (.slice o' len' cap'))→Hid (Below base w w')→Hid (Turned (fun b=>v.ownBlock=some b) w w')→wpList Tryz.prog ops Q rest (a.put o.dst (.slice o' len' cap')) w'):wpList Tryz.prog ops Q (o::rest) a w:=
 wpList_plain hg fun _ hK=>wp_growT s x ho base v xv l k hs (Lib.hid hgr) hx (Lib.hid hk) hm fun o' len' cap' w' h1 h2 h3 _=>hK _ _ (h o' len' cap' w' h1 h2 h3)
end
end
section
open Go Go.RowKit
theorem cright_low (op n:Int) (ov ot:Option Addr) (lv cv lt ct:Nat) (cb bb sb:Nat) (nc nk size:Int) (fr:Bool) (l:List Int) (sc:Int→Bool) (deep:Int) (W:World) (hc:ChkS W cb bb sb nc nk fr size l sc)
  (h0:0≤size) (h1:size+1≤20000) (h2:0≤deep) (h3:deep≤400) (f t le:Int) (any binds:Bool) (hf:f≤2) (ht3:t<2)
  (HSH:∀W,Calls Tryz.prog 61 #[.int .i64 op] W fun e w'=>e=.returned (.tuple #[.agg #[.int .i64 f,.int .i64 t,.int .i64 le,.bool any,.bool binds],.bool true])∧Below W.heap.size W w') :
  Calls Tryz.prog 34 #[.pointer (some ⟨cb,0,none⟩),.agg #[.int .i64 op,.int .i64 n,.slice ov lv cv,.slice ot lt ct],.map (some sb),.int .i64 deep] W (ChkPost cb bb sb nc nk fr false (fun _=>False) W):=by
 have hmf:∀(fn:Fn) (first cap:Array Value) (w:World),(Instr.makeFunc fn first cap).run Tryz.prog w=.ok (.func fn first cap) w:=fun _ _ _ _=>rfl
 obtain ⟨W1,hW1⟩:∃W1,((((W.alloc (.cells #[.pointer (some ⟨cb,0,none⟩)] 62)).alloc (.cells #[.int .i64 op,.int .i64 n,.slice ov lv cv,.slice ot lt ct] 26)).alloc (.cells #[.map (some sb)] 63)).alloc (.cells #[.int .i64 deep] 3)).setCell ⟨cb,4,none⟩ (.int .i64 (size+1))=W1:=⟨_,rfl⟩
 have hbelow:=below_four W (.cells #[.pointer (some ⟨cb,0,none⟩)] 62) (.cells #[.int .i64 op,.int .i64 n,.slice ov lv cv,.slice ot lt ct] 26) (.cells #[.map (some sb)] 63) (.cells #[.int .i64 deep] 3)
 have HW:=Lib.hid hW1
 have HT1:=Lib.hid (show Turned (S3 cb bb sb) W W1 from by rw[←hW1];exact (Turned.of_below hbelow).next (Turned.set _ _ _ (.inl rfl)))
 have HC1:=Lib.hid (show ChkS W1 cb bb sb nc nk fr (size+1) l sc from by rw[←hW1];exact (hc.keep hbelow).sized _)
 have HX1:=Lib.hid (show RBox W1 W.heap.size cb sb op n (.slice ov lv cv) (.slice ot lt ct) deep from by
  rw[←hW1]
  exact (RBox.new W cb sb op n (.slice ov lv cv) (.slice ot lt ct) deep).turned (Turned.set (S:=fun b=>b=cb) _ _ _ rfl) (fun b hb=>by rw[hb];exact hc.box.lt))
 have c4:=(hc.box.keep hbelow).cell 4 rfl
 have cz:=(hc.box.keep hbelow).free 4
 have cl:=hc.box.lt
 have HC:=Lib.hid hc
 have HSH:=Lib.hid HSH
 clear hW1 hbelow hc
 go_enter_defers Tryz.func34,Tryz.ntmps34
 go_upto_region 2 with fail
 rw[HW.out]
 have t0:=HX1.out.t.cell 0 rfl
 have tl:=HX1.out.t.lt
 clear c4 cz cl
 go_wp2_with fail
 refine (HSH.out _).mono ?_
 rintro e w1 ⟨rfl,hb1⟩
 have HB1:=Lib.hid hb1
 clear hb1 HSH t0 tl
 go_upto_region 3 with fail
 obtain ⟨W3,hW3⟩:∃W3,w1.alloc (.cells #[.int .i64 f,.int .i64 t,.int .i64 le,.bool any,.bool binds] 87)=W3:=⟨_,rfl⟩
 have HB3:=Lib.hid (show Below W1.heap.size W1 W3 from by rw[←hW3];exact Below.next HB1.out (Below.one w1 _))
 have B9:=Lib.hid (show BoxL W3 w1.heap.size 87 [.int .i64 f,.int .i64 t,.int .i64 le,.bool any,.bool binds] from by rw[←hW3];exact BoxL.new rfl _ _)
 rw[hW3]
 clear hW3
 have HX3:=Lib.hid (HX1.out.turned (Turned.of_below (S:=fun _=>False) HB3.out) (fun _ h=>h.elim))
 have HC3:=Lib.hid (HC1.out.keep HB3.out)
 have HD:=Lib.hid ((Below.refl W3.heap.size W3).drew)
 have g0:decide (400<deep)=false:=decide_eq_false (by omega)
 have g1:decide (20000<size+1)=false:=decide_eq_false (by omega)
 have g2:decide (2<f)=false:=decide_eq_false (by omega)
 have g3:decide (t<2)=true:=decide_eq_true ht3
 refine wp_region_quiet_all (Below W3.heap.size W3) (by kernel_rfl) (by kernel_rfl) HD.out ?_
 intro T0 _ WW HWW HWW2
 have x0:∀t,(WW t).cell? _=_:=fun t=>((HWW t).cell (p:=⟨W.heap.size,0,none⟩) HX3.out.c.lt).trans (HX3.out.c.cell 0 rfl)
 have x1:∀t,(WW t).cell? _=_:=fun t=>((HWW t).cell (p:=⟨W.heap.size+1,0,none⟩) HX3.out.t.lt).trans (HX3.out.t.cell 0 rfl)
 have x2:∀t,(WW t).cell? _=_:=fun t=>((HWW t).cell (p:=⟨W.heap.size+1,1,none⟩) HX3.out.t.lt).trans (HX3.out.t.cell 1 rfl)
 have x3:∀t,(WW t).cell? _=_:=fun t=>((HWW t).cell (p:=⟨W.heap.size+1,2,none⟩) HX3.out.t.lt).trans (HX3.out.t.cell 2 rfl)
 have x4:∀t,(WW t).cell? _=_:=fun t=>((HWW t).cell (p:=⟨W.heap.size+1,3,none⟩) HX3.out.t.lt).trans (HX3.out.t.cell 3 rfl)
 have x5:∀t,(WW t).cell? _=_:=fun t=>((HWW t).cell (p:=⟨W.heap.size+1+1,0,none⟩) HX3.out.s.lt).trans (HX3.out.s.cell 0 rfl)
 have x6:∀t,(WW t).cell? _=_:=fun t=>((HWW t).cell (p:=⟨W.heap.size+1+1+1,0,none⟩) HX3.out.d.lt).trans (HX3.out.d.cell 0 rfl)
 have y0:∀t,(WW t).cell? _=_:=fun t=>((HWW t).cell (p:=⟨cb,0,none⟩) HC3.out.box.lt).trans (HC3.out.box.cell 0 rfl)
 have y4:∀t,(WW t).cell? _=_:=fun t=>((HWW t).cell (p:=⟨cb,4,none⟩) HC3.out.box.lt).trans (HC3.out.box.cell 4 rfl)
 have z0:∀t,(WW t).cell? _=_:=fun t=>((HWW t).cell (p:=⟨w1.heap.size,0,none⟩) B9.out.lt).trans (B9.out.cell 0 rfl)
 have z1:∀t,(WW t).cell? _=_:=fun t=>((HWW t).cell (p:=⟨w1.heap.size,1,none⟩) B9.out.lt).trans (B9.out.cell 1 rfl)
 have z2:∀t,(WW t).cell? _=_:=fun t=>((HWW t).cell (p:=⟨w1.heap.size,2,none⟩) B9.out.lt).trans (B9.out.cell 2 rfl)
 have z3:∀t,(WW t).cell? _=_:=fun t=>((HWW t).cell (p:=⟨w1.heap.size,3,none⟩) B9.out.lt).trans (B9.out.cell 3 rfl)
 have z4:∀t,(WW t).cell? _=_:=fun t=>((HWW t).cell (p:=⟨w1.heap.size,4,none⟩) B9.out.lt).trans (B9.out.cell 4 rfl)
 have HWH:=Lib.hid HWW
 have HW2:=Lib.hid HWW2
 clear HWW HWW2
 repeat (go_big_quiet_step (fail))
 refine wpQuiet_nil ?_
 intro t
 have HBB:=Lib.hid (HWH.out t)
 clear x0 x1 x2 x3 x4 x5 x6 y0 y4 z0 z1 z2 z3 z4
 go_wp2_with fail
 refine ⟨_,results_tmp rfl _ _ _,rfl,HT1.out.next (Turned.of_below (Below.next HB3.out HBB.out)),fun h=>by simp at h,fun _=>(HC3.out.keep HBB.out).bad⟩
theorem cright_high (op n:Int) (ov ot:Option Addr) (lv cv lt ct:Nat) (cb bb sb:Nat) (nc nk size:Int) (fr:Bool) (l:List Int) (sc:Int→Bool) (deep:Int) (W:World) (hc:ChkS W cb bb sb nc nk fr size l sc)
  (h0:0≤size) (h1:size+1≤20000) (h2:0≤deep) (h3:deep≤400) (f t le:Int) (any binds:Bool) (hf:2<f) (ht3:2≤t)
  (HSH:∀W,Calls Tryz.prog 61 #[.int .i64 op] W fun e w'=>e=.returned (.tuple #[.agg #[.int .i64 f,.int .i64 t,.int .i64 le,.bool any,.bool binds],.bool true])∧Below W.heap.size W w') :
  Calls Tryz.prog 34 #[.pointer (some ⟨cb,0,none⟩),.agg #[.int .i64 op,.int .i64 n,.slice ov lv cv,.slice ot lt ct],.map (some sb),.int .i64 deep] W (ChkPost cb bb sb nc nk fr false (fun _=>False) W):=by
 have hmf:∀(fn:Fn) (first cap:Array Value) (w:World),(Instr.makeFunc fn first cap).run Tryz.prog w=.ok (.func fn first cap) w:=fun _ _ _ _=>rfl
 obtain ⟨W1,hW1⟩:∃W1,((((W.alloc (.cells #[.pointer (some ⟨cb,0,none⟩)] 62)).alloc (.cells #[.int .i64 op,.int .i64 n,.slice ov lv cv,.slice ot lt ct] 26)).alloc (.cells #[.map (some sb)] 63)).alloc (.cells #[.int .i64 deep] 3)).setCell ⟨cb,4,none⟩ (.int .i64 (size+1))=W1:=⟨_,rfl⟩
 have hbelow:=below_four W (.cells #[.pointer (some ⟨cb,0,none⟩)] 62) (.cells #[.int .i64 op,.int .i64 n,.slice ov lv cv,.slice ot lt ct] 26) (.cells #[.map (some sb)] 63) (.cells #[.int .i64 deep] 3)
 have HW:=Lib.hid hW1
 have HT1:=Lib.hid (show Turned (S3 cb bb sb) W W1 from by rw[←hW1];exact (Turned.of_below hbelow).next (Turned.set _ _ _ (.inl rfl)))
 have HC1:=Lib.hid (show ChkS W1 cb bb sb nc nk fr (size+1) l sc from by rw[←hW1];exact (hc.keep hbelow).sized _)
 have HX1:=Lib.hid (show RBox W1 W.heap.size cb sb op n (.slice ov lv cv) (.slice ot lt ct) deep from by
  rw[←hW1]
  exact (RBox.new W cb sb op n (.slice ov lv cv) (.slice ot lt ct) deep).turned (Turned.set (S:=fun b=>b=cb) _ _ _ rfl) (fun b hb=>by rw[hb];exact hc.box.lt))
 have c4:=(hc.box.keep hbelow).cell 4 rfl
 have cz:=(hc.box.keep hbelow).free 4
 have cl:=hc.box.lt
 have HC:=Lib.hid hc
 have HSH:=Lib.hid HSH
 clear hW1 hbelow hc
 go_enter_defers Tryz.func34,Tryz.ntmps34
 go_upto_region 2 with fail
 rw[HW.out]
 have t0:=HX1.out.t.cell 0 rfl
 have tl:=HX1.out.t.lt
 clear c4 cz cl
 go_wp2_with fail
 refine (HSH.out _).mono ?_
 rintro e w1 ⟨rfl,hb1⟩
 have HB1:=Lib.hid hb1
 clear hb1 HSH t0 tl
 go_upto_region 3 with fail
 obtain ⟨W3,hW3⟩:∃W3,w1.alloc (.cells #[.int .i64 f,.int .i64 t,.int .i64 le,.bool any,.bool binds] 87)=W3:=⟨_,rfl⟩
 have HB3:=Lib.hid (show Below W1.heap.size W1 W3 from by rw[←hW3];exact Below.next HB1.out (Below.one w1 _))
 have B9:=Lib.hid (show BoxL W3 w1.heap.size 87 [.int .i64 f,.int .i64 t,.int .i64 le,.bool any,.bool binds] from by rw[←hW3];exact BoxL.new rfl _ _)
 rw[hW3]
 clear hW3
 have HX3:=Lib.hid (HX1.out.turned (Turned.of_below (S:=fun _=>False) HB3.out) (fun _ h=>h.elim))
 have HC3:=Lib.hid (HC1.out.keep HB3.out)
 have HD:=Lib.hid ((Below.refl W3.heap.size W3).drew)
 have g0:decide (400<deep)=false:=decide_eq_false (by omega)
 have g1:decide (20000<size+1)=false:=decide_eq_false (by omega)
 have g2:decide (2<f)=true:=decide_eq_true hf
 have g3:decide (t<2)=false:=decide_eq_false (by omega)
 refine wp_region_quiet_all (Below W3.heap.size W3) (by kernel_rfl) (by kernel_rfl) HD.out ?_
 intro T0 _ WW HWW HWW2
 have x0:∀t,(WW t).cell? _=_:=fun t=>((HWW t).cell (p:=⟨W.heap.size,0,none⟩) HX3.out.c.lt).trans (HX3.out.c.cell 0 rfl)
 have x1:∀t,(WW t).cell? _=_:=fun t=>((HWW t).cell (p:=⟨W.heap.size+1,0,none⟩) HX3.out.t.lt).trans (HX3.out.t.cell 0 rfl)
 have x2:∀t,(WW t).cell? _=_:=fun t=>((HWW t).cell (p:=⟨W.heap.size+1,1,none⟩) HX3.out.t.lt).trans (HX3.out.t.cell 1 rfl)
 have x3:∀t,(WW t).cell? _=_:=fun t=>((HWW t).cell (p:=⟨W.heap.size+1,2,none⟩) HX3.out.t.lt).trans (HX3.out.t.cell 2 rfl)
 have x4:∀t,(WW t).cell? _=_:=fun t=>((HWW t).cell (p:=⟨W.heap.size+1,3,none⟩) HX3.out.t.lt).trans (HX3.out.t.cell 3 rfl)
 have x5:∀t,(WW t).cell? _=_:=fun t=>((HWW t).cell (p:=⟨W.heap.size+1+1,0,none⟩) HX3.out.s.lt).trans (HX3.out.s.cell 0 rfl)
 have x6:∀t,(WW t).cell? _=_:=fun t=>((HWW t).cell (p:=⟨W.heap.size+1+1+1,0,none⟩) HX3.out.d.lt).trans (HX3.out.d.cell 0 rfl)
 have y0:∀t,(WW t).cell? _=_:=fun t=>((HWW t).cell (p:=⟨cb,0,none⟩) HC3.out.box.lt).trans (HC3.out.box.cell 0 rfl)
 have y4:∀t,(WW t).cell? _=_:=fun t=>((HWW t).cell (p:=⟨cb,4,none⟩) HC3.out.box.lt).trans (HC3.out.box.cell 4 rfl)
 have z0:∀t,(WW t).cell? _=_:=fun t=>((HWW t).cell (p:=⟨w1.heap.size,0,none⟩) B9.out.lt).trans (B9.out.cell 0 rfl)
 have z1:∀t,(WW t).cell? _=_:=fun t=>((HWW t).cell (p:=⟨w1.heap.size,1,none⟩) B9.out.lt).trans (B9.out.cell 1 rfl)
 have z2:∀t,(WW t).cell? _=_:=fun t=>((HWW t).cell (p:=⟨w1.heap.size,2,none⟩) B9.out.lt).trans (B9.out.cell 2 rfl)
 have z3:∀t,(WW t).cell? _=_:=fun t=>((HWW t).cell (p:=⟨w1.heap.size,3,none⟩) B9.out.lt).trans (B9.out.cell 3 rfl)
 have z4:∀t,(WW t).cell? _=_:=fun t=>((HWW t).cell (p:=⟨w1.heap.size,4,none⟩) B9.out.lt).trans (B9.out.cell 4 rfl)
 have HWH:=Lib.hid HWW
 have HW2:=Lib.hid HWW2
 clear HWW HWW2
 repeat (go_big_quiet_step (fail))
 refine wpQuiet_nil ?_
 intro t
 have HBB:=Lib.hid (HWH.out t)
 clear x0 x1 x2 x3 x4 x5 x6 y0 y4 z0 z1 z2 z3 z4
 go_wp2_with fail
 refine ⟨_,results_tmp rfl _ _ _,rfl,HT1.out.next (Turned.of_below (Below.next HB3.out HBB.out)),fun h=>by simp at h,fun _=>(HC3.out.keep HBB.out).bad⟩
theorem ChkPost.no {cb bb sb:Nat} {nc nk:Int} {fr:Bool} {G G':World→Prop} {w:World} {e:Ending} {w':World} (h:ChkPost cb bb sb nc nk fr false G w e w'):ChkPost cb bb sb nc nk fr false G' w e w':=⟨h.1,h.2.1,(fun h=>by cases h),h.2.2.2⟩
theorem ChkPost.good {cb bb sb:Nat} {nc nk:Int} {fr r:Bool} {G G':World→Prop} {w:World} {e:Ending} {w':World} (h:ChkPost cb bb sb nc nk fr r G w e w') (hg:∀w,G w→G' w):ChkPost cb bb sb nc nk fr r G' w e w':=⟨h.1,h.2.1,fun hr=>hg _ (h.2.2.1 hr),h.2.2.2⟩
theorem bndL_parts (ts:List Trm) (j:Nat):Trm.bndL (ts.take j)++Trm.bndL (ts.drop j)=Trm.bndL ts:=by rw[←bndL_append,List.take_append_drop]
theorem bnd_perm (v:List Int) (ts:List Trm) (j:Nat):(Trm.bndL (ts.take j)++v++Trm.bndL (ts.drop j)).Perm (v++Trm.bndL ts):=by
 rw[←bndL_parts ts j,←List.append_assoc]
 exact List.perm_append_comm.append_right _
theorem plainR_eq {nc nk:Int} {fr:Bool} {sc:Int→Bool} {op:Int} (ho:op≠9) (l v:List Int) (ts:List Trm):plainR nc nk fr sc l v ts=(Trm.wfL nc nk fr op v ts sc&&Trm.newB (fun _=>false) (l++(v++Trm.bndL ts))):=by
 rw[plainR,wfL_split ho,←Trm.newB_perm ((bnd_perm v ts (ts.length-1)).append_left l),okL,okL,Bool.eq_iff_iff]
 simp only[Bool.and_eq_true]
 constructor
 ·rintro ⟨⟨h1,h2⟩,h3,h4,h5⟩
  exact ⟨⟨h1,h4⟩,by simpa only[List.append_assoc] using h5⟩
 ·rintro ⟨⟨h1,h2⟩,h3⟩
  have h4:Trm.newB (fun _=>false) (l++Trm.bndL (ts.take (ts.length-1))++v++Trm.bndL (ts.drop (ts.length-1)))=true:=by simpa only[List.append_assoc] using h3
  exact ⟨⟨h1,newB_more (newB_more h4)⟩,newB_more h4,h2,h4⟩
theorem fixR_eq {nc nk:Int} {fr:Bool} {sc:Int→Bool} (l v:List Int) (ts:List Trm):fixR nc nk fr sc l v ts=(Trm.wfL nc nk fr 9 v ts sc&&Trm.newB (fun _=>false) (l++(v++Trm.bndL ts))):=by
 rw[fixR,wfL_fix,okL,Bool.eq_iff_iff]
 simp only[Bool.and_eq_true,←List.append_assoc]
 constructor
 ·rintro ⟨h1,⟨h2,h3⟩,h4⟩
  exact ⟨⟨h2,h4⟩,h3⟩
 ·rintro ⟨⟨h2,h4⟩,h3⟩
  exact ⟨newB_more h3,⟨h2,h3⟩,h4⟩
theorem GoodR.perm {cb bb sb:Nat} {nc nk:Int} {fr:Bool} {size size':Int} {l b b':List Int} {sc:Int→Bool} {w':World} (h:GoodR cb bb sb nc nk fr size l b sc w') (hp:b.Perm b') (hs:size=size'):GoodR cb bb sb nc nk fr size' l b' sc w':=by
 obtain ⟨l',h1,h2⟩:=h
 exact ⟨l',h1.trans (hp.append_left l),hs ▸ h2⟩
theorem right_low (op n:Int) (v:List Int) (ts:List Trm) (hso:Trm.sortB op=false) (f t le:Int) (any binds:Bool) (f1:f≤2) (f2:t<2)
  (HSH:∀W,Calls Tryz.prog 61 #[.int .i64 op] W fun e w'=>e=.returned (.tuple #[.agg #[.int .i64 f,.int .i64 t,.int .i64 le,.bool any,.bool binds],.bool true])∧Below W.heap.size W w'):RightC (.mk op n v ts):=by
 intro c0 c1 c2 c3 B cb bb sb nc nk size fr l sc deep W hv hS hB hc hsc h0 h1 h2 h3
 have hall:=(Trm.mk op n v ts).all_pos
 obtain ⟨vs',ts',he,_,hn,hvs,hts⟩:=trmR_iff.1 hv
 simp only[List.cons.injEq,and_true] at he
 obtain ⟨rfl,rfl,rfl,rfl⟩:=he
 obtain ⟨ov,lv,cv,rfl⟩:=hvs.form
 obtain ⟨ot,lt,ct,rfl⟩:=hts.form
 rw[show (Trm.wf nc nk fr (.mk op n v ts) sc&&Trm.newB (fun _=>false) (l++(Trm.mk op n v ts).bnd))=false from by rw[Trm.wf,hso];rfl]
 exact (cright_low op n ov ot lv cv lt ct cb bb sb nc nk size fr l sc deep W hc h0 (by omega) h2 (by omega) f t le any binds f1 f2 HSH).mono fun e w' h=>h.no
theorem right_high (op n:Int) (v:List Int) (ts:List Trm) (hso:Trm.sortB op=false) (f t le:Int) (any binds:Bool) (f1:2<f) (f2:2≤t)
  (HSH:∀W,Calls Tryz.prog 61 #[.int .i64 op] W fun e w'=>e=.returned (.tuple #[.agg #[.int .i64 f,.int .i64 t,.int .i64 le,.bool any,.bool binds],.bool true])∧Below W.heap.size W w'):RightC (.mk op n v ts):=by
 intro c0 c1 c2 c3 B cb bb sb nc nk size fr l sc deep W hv hS hB hc hsc h0 h1 h2 h3
 have hall:=(Trm.mk op n v ts).all_pos
 obtain ⟨vs',ts',he,_,hn,hvs,hts⟩:=trmR_iff.1 hv
 simp only[List.cons.injEq,and_true] at he
 obtain ⟨rfl,rfl,rfl,rfl⟩:=he
 obtain ⟨ov,lv,cv,rfl⟩:=hvs.form
 obtain ⟨ot,lt,ct,rfl⟩:=hts.form
 rw[show (Trm.wf nc nk fr (.mk op n v ts) sc&&Trm.newB (fun _=>false) (l++(Trm.mk op n v ts).bnd))=false from by rw[Trm.wf,hso];rfl]
 exact (cright_high op n ov ot lv cv lt ct cb bb sb nc nk size fr l sc deep W hc h0 (by omega) h2 (by omega) f t le any binds f1 f2 HSH).mono fun e w' h=>h.no
theorem right_out (op n:Int) (v:List Int) (ts:List Trm) (ho:op<0∨22<op):RightC (.mk op n v ts):=by
 intro c0 c1 c2 c3 B cb bb sb nc nk size fr l sc deep W hv hS hB hc hsc h0 h1 h2 h3
 have hall:=(Trm.mk op n v ts).all_pos
 obtain ⟨vs',ts',he,_,hn,hvs,hts⟩:=trmR_iff.1 hv
 simp only[List.cons.injEq,and_true] at he
 obtain ⟨rfl,rfl,rfl,rfl⟩:=he
 obtain ⟨ov,lv,cv,rfl⟩:=hvs.form
 obtain ⟨ot,lt,ct,rfl⟩:=hts.form
 rw[show (Trm.wf nc nk fr (.mk op n v ts) sc&&Trm.newB (fun _=>false) (l++(Trm.mk op n v ts).bnd))=false from by
  rw[Trm.wf,show Trm.sortB op=false from by simp[Trm.sortB];omega];rfl]
 exact (cright_no op n ov ot lv cv lt ct cb bb sb nc nk size fr l sc deep W hc h0 (by omega) h2 (by omega) 0 0 0 false false false true true (fun h=>by cases h) (fun h=>by cases h) (shape_no op ho) (fun h=>by cases h) (fun h=>by cases h) rfl).mono fun e w' h=>h.no
theorem right_op (op n:Int) (v:List Int) (ts:List Trm) (hso:Trm.sortB op=true) (h7:op≠7) (ih:∀x∈ts,RightC x) (f t le:Int) (any binds:Bool) (f1:f≤2) (f2:2≤t)
  (HSH:∀W,Calls Tryz.prog 61 #[.int .i64 op] W fun e w'=>e=.returned (.tuple #[.agg #[.int .i64 f,.int .i64 t,.int .i64 le,.bool any,.bool binds],.bool true])∧Below W.heap.size W w')
  (HFT:∀(ov ot:Option Addr) (lv cv lt ct:Nat) (W:World),lt≤ct→ct≤9223372036854775807→lv≤cv→cv≤9223372036854775807→Calls Tryz.prog 62 #[.agg #[.int .i64 f,.int .i64 t,.int .i64 le,.bool any,.bool binds],.agg #[.int .i64 op,.int .i64 n,.slice ov lv cv,.slice ot lt ct]] W fun e w'=>e=.returned (.bool (Trm.countsB op lv lt))∧Below W.heap.size W w')
  (HNU:∀(cb sb bb m:Nat) (nc nk size:Int) (fr:Bool) (sc:Int→Bool) (ov ot:Option Addr) (lv cv lt ct:Nat) (w:World),I64 n→BoxL w cb 65 [.int .i64 2,.int .i64 nc,.int .i64 nk,.bool fr,.int .i64 size,.map (some bb)]→MapVB w sb m sc→Calls Tryz.prog 63 #[.pointer (some ⟨cb,0,none⟩),.agg #[.int .i64 op,.int .i64 n,.slice ov lv cv,.slice ot lt ct],.map (some sb)] w fun e w'=>e=.returned (.bool (Trm.numberB nc nk fr sc op n lv))∧Below w.heap.size w w'):RightC (.mk op n v ts):=by
 intro c0 c1 c2 c3 B cb bb sb nc nk size fr l sc deep W hv hS hB hc hsc h0 h1 h2 h3
 have hall:(Trm.mk op n v ts).all=1+Trm.allL ts:=by rw[Trm.all]
 obtain ⟨vs',ts',he,_,hn,hvs,hts⟩:=trmR_iff.1 hv
 simp only[List.cons.injEq,and_true] at he
 obtain ⟨rfl,rfl,rfl,rfl⟩:=he
 obtain ⟨ov,lv,cv,rfl⟩:=hvs.form
 obtain ⟨ot,lt,ct,rfl⟩:=hts.form
 obtain ⟨a1,a2,a3⟩:=hvs.lens
 obtain ⟨b1,b2,b3⟩:=SlC.lens (show SlC W B 4 (TrmR W B) ts (.slice ot lt ct) from hts)
 have hft:=fun W=>HFT ov ot lv cv lt ct W b2 b3 a2 a3
 have hnu:∀W,ChkS W cb bb sb nc nk fr (size+1) l sc→Calls Tryz.prog 63 #[.pointer (some ⟨cb,0,none⟩),.agg #[.int .i64 op,.int .i64 n,.slice ov lv cv,.slice ot lt ct],.map (some sb)] W fun e w'=>e=.returned (.bool (Trm.numberB nc nk fr sc op n lv))∧Below W.heap.size W w':=fun W h=>HNU cb sb bb _ nc nk _ fr sc ov ot lv cv lt ct W hn h.box h.scope
 have hwf:Trm.wf nc nk fr (.mk op n v ts) sc=(Trm.countsB op lv lt&&(Trm.numberB nc nk fr sc op n lv&&Trm.wfL nc nk fr op v ts sc)):=by rw[Trm.wf,hso,Bool.true_and,a1,b1]
 have hlen:=Trm.allL_length ts
 have hbnd:(Trm.mk op n v ts).bnd=v++Trm.bndL ts:=by rw[Trm.bnd]
 cases hq:(Trm.countsB op lv lt&&Trm.numberB nc nk fr sc op n lv) with
 | false=>
  rw[show (Trm.wf nc nk fr (.mk op n v ts) sc&&Trm.newB (fun _=>false) (l++(Trm.mk op n v ts).bnd))=false from by rw[hwf,←Bool.and_assoc,hq];rfl]
  exact (cright_no op n ov ot lv cv lt ct cb bb sb nc nk size fr l sc deep W hc h0 (by omega) h2 (by omega) f t le any binds true _ _ (fun _=>f1) (fun _=>f2) HSH (fun _=>hft) (fun _ _=>hnu) (by rw[Bool.true_and];exact hq)).mono fun e w' h=>h.no
 | true=>
  rw[Bool.and_eq_true] at hq
  rw[hq.1] at hft
  rw[hq.2] at hnu
  rw[hwf,hq.1,hq.2,Bool.true_and,Bool.true_and,hbnd]
  by_cases h9:op=9
  ·subst h9
   have hl:ts.length=v.length+1:=by
    have:=hq.1
    have:lt=lv+1:=by simpa[Trm.countsB] using this
    omega
   rw[←fixR_eq]
   have hm:=cright_fix 9 n v ts ov ot lv cv lt ct B cb bb sb nc nk size fr l sc deep W hc hvs hts hS hB hsc ih b1 (by omega) h0 (by omega) h2 (by omega) f t le any binds f1 f2 rfl (by decide) hl HSH hft hnu _ rfl
   refine hm.mono fun e w' h=>h.good fun w hg=>hg.perm (List.Perm.refl _) (by rw[hall];omega)
  ·have hg:(op==7 || op==9)=false:=by simp[h7,h9]
   rw[←plainR_eq h9]
   have hm:=cright_plain op n v ts ov ot lv cv lt ct B cb bb sb nc nk size fr l sc deep W hc hvs hts hS hB hsc ih b1 (by omega) h0 (by omega) h2 (by omega) f t le any binds f1 f2 h9 hg HSH hft hnu _ rfl
   refine hm.mono fun e w' h=>h.good fun w hg=>hg.perm (bnd_perm v ts _) (by rw[hall];omega)
theorem tright_any (x:Trm):RightC x:=by
 induction x using Trm.ind with
 | _ op n v ts ih=>
 by_cases ho:op<0∨22<op
 ·exact right_out op n v ts ho
 have hop:op=0∨op=1∨op=3∨op=5∨op=6∨op=8∨op=9∨op=10∨op=11∨op=12∨op=13∨op=15∨op=16∨op=17∨op=18∨op=4∨op=19∨op=20∨op=21∨op=22∨op=2∨op=7∨op=14:=by omega
 clear ho
 rcases hop with rfl | rfl | rfl | rfl | rfl | rfl | rfl | rfl | rfl | rfl | rfl | rfl | rfl | rfl | rfl | rfl | rfl | rfl | rfl | rfl | rfl | rfl | rfl
 ·exact right_op 0 n v ts (by decide) (by decide) ih 0 3 0 false false (by decide) (by decide) shape_0 (fun ov ot lv cv lt ct W _ _ _ _=>by
   have h:=sfits_plain 0 3 0 n 0 false ov ot lv cv lt ct W
   rwa[show ((decide (lt=0) || (false&&decide (0≤lt)))&&decide (lv=0))=Trm.countsB 0 lv lt from by
    rw[Bool.eq_iff_iff]
    simp[Trm.countsB]
    try omega] at h) (fun cb sb bb m nc nk size fr sc ov ot lv cv lt ct w hn hc hm=>number_0 cb sb bb m nc nk size n fr sc ov ot lv cv lt ct w hn hc hm _ rfl)
 ·exact right_op 1 n v ts (by decide) (by decide) ih 0 3 0 false false (by decide) (by decide) shape_1 (fun ov ot lv cv lt ct W _ _ _ _=>by
   have h:=sfits_plain 0 3 1 n 0 false ov ot lv cv lt ct W
   rwa[show ((decide (lt=0) || (false&&decide (0≤lt)))&&decide (lv=0))=Trm.countsB 1 lv lt from by
    rw[Bool.eq_iff_iff]
    simp[Trm.countsB]
    try omega] at h) (fun cb sb bb m nc nk size fr sc ov ot lv cv lt ct w hn hc hm=>number_1 cb sb bb m nc nk size n fr sc ov ot lv cv lt ct w hn hc hm _ rfl)
 ·exact right_op 3 n v ts (by decide) (by decide) ih 0 3 3 false false (by decide) (by decide) shape_3 (fun ov ot lv cv lt ct W _ _ _ _=>by
   have h:=sfits_plain 0 3 3 n 3 false ov ot lv cv lt ct W
   rwa[show ((decide (lt=3) || (false&&decide (3≤lt)))&&decide (lv=0))=Trm.countsB 3 lv lt from by
    rw[Bool.eq_iff_iff]
    simp[Trm.countsB]
    try omega] at h) (fun cb sb bb m nc nk size fr sc ov ot lv cv lt ct w hn hc hm=>number_3 cb sb bb m nc nk size n fr sc ov ot lv cv lt ct w hn hc hm _ rfl)
 ·exact right_op 5 n v ts (by decide) (by decide) ih 0 3 1 true false (by decide) (by decide) shape_5 (fun ov ot lv cv lt ct W _ _ _ _=>by
   have h:=sfits_plain 0 3 5 n 1 true ov ot lv cv lt ct W
   rwa[show ((decide (lt=1) || (true&&decide (1≤lt)))&&decide (lv=0))=Trm.countsB 5 lv lt from by
    rw[Bool.eq_iff_iff]
    simp[Trm.countsB]
    try omega] at h) (fun cb sb bb m nc nk size fr sc ov ot lv cv lt ct w hn hc hm=>number_5 cb sb bb m nc nk size n fr sc ov ot lv cv lt ct w hn hc hm _ rfl)
 ·exact right_op 6 n v ts (by decide) (by decide) ih 0 3 1 true false (by decide) (by decide) shape_6 (fun ov ot lv cv lt ct W _ _ _ _=>by
   have h:=sfits_plain 0 3 6 n 1 true ov ot lv cv lt ct W
   rwa[show ((decide (lt=1) || (true&&decide (1≤lt)))&&decide (lv=0))=Trm.countsB 6 lv lt from by
    rw[Bool.eq_iff_iff]
    simp[Trm.countsB]
    try omega] at h) (fun cb sb bb m nc nk size fr sc ov ot lv cv lt ct w hn hc hm=>number_6 cb sb bb m nc nk size n fr sc ov ot lv cv lt ct w hn hc hm _ rfl)
 ·exact right_op 8 n v ts (by decide) (by decide) ih 1 3 0 false true (by decide) (by decide) shape_8 (fun ov ot lv cv lt ct W h1 h2 h3 h4=>by
   have h:=sfits_binds 1 3 8 n ov ot lv cv lt ct (by decide) h1 h2 h3 h4 W
   rwa[show decide (lt=lv+1)=Trm.countsB 8 lv lt from by simp[Trm.countsB]] at h) (fun cb sb bb m nc nk size fr sc ov ot lv cv lt ct w hn hc hm=>number_8 cb sb bb m nc nk size n fr sc ov ot lv cv lt ct w hn hc hm _ rfl)
 ·exact right_op 9 n v ts (by decide) (by decide) ih 1 3 0 false true (by decide) (by decide) shape_9 (fun ov ot lv cv lt ct W h1 h2 h3 h4=>by
   have h:=sfits_binds 1 3 9 n ov ot lv cv lt ct (by decide) h1 h2 h3 h4 W
   rwa[show decide (lt=lv+1)=Trm.countsB 9 lv lt from by simp[Trm.countsB]] at h) (fun cb sb bb m nc nk size fr sc ov ot lv cv lt ct w hn hc hm=>number_9 cb sb bb m nc nk size n fr sc ov ot lv cv lt ct w hn hc hm _ rfl)
 ·exact right_op 10 n v ts (by decide) (by decide) ih 2 3 0 true false (by decide) (by decide) shape_10 (fun ov ot lv cv lt ct W _ _ _ _=>by
   have h:=sfits_plain 2 3 10 n 0 true ov ot lv cv lt ct W
   rwa[show ((decide (lt=0) || (true&&decide (0≤lt)))&&decide (lv=0))=Trm.countsB 10 lv lt from by
    rw[Bool.eq_iff_iff]
    simp[Trm.countsB]
    try omega] at h) (fun cb sb bb m nc nk size fr sc ov ot lv cv lt ct w hn hc hm=>number_10 cb sb bb m nc nk size n fr sc ov ot lv cv lt ct w hn hc hm _ rfl)
 ·exact right_op 11 n v ts (by decide) (by decide) ih 0 3 0 false false (by decide) (by decide) shape_11 (fun ov ot lv cv lt ct W _ _ _ _=>by
   have h:=sfits_plain 0 3 11 n 0 false ov ot lv cv lt ct W
   rwa[show ((decide (lt=0) || (false&&decide (0≤lt)))&&decide (lv=0))=Trm.countsB 11 lv lt from by
    rw[Bool.eq_iff_iff]
    simp[Trm.countsB]
    try omega] at h) (fun cb sb bb m nc nk size fr sc ov ot lv cv lt ct w hn hc hm=>number_11 cb sb bb m nc nk size n fr sc ov ot lv cv lt ct w hn hc hm _ rfl)
 ·exact right_op 12 n v ts (by decide) (by decide) ih 1 3 1 false false (by decide) (by decide) shape_12 (fun ov ot lv cv lt ct W _ _ _ _=>by
   have h:=sfits_plain 1 3 12 n 1 false ov ot lv cv lt ct W
   rwa[show ((decide (lt=1) || (false&&decide (1≤lt)))&&decide (lv=0))=Trm.countsB 12 lv lt from by
    rw[Bool.eq_iff_iff]
    simp[Trm.countsB]
    try omega] at h) (fun cb sb bb m nc nk size fr sc ov ot lv cv lt ct w hn hc hm=>number_12 cb sb bb m nc nk size n fr sc ov ot lv cv lt ct w hn hc hm _ rfl)
 ·exact right_op 13 n v ts (by decide) (by decide) ih 1 3 0 false false (by decide) (by decide) shape_13 (fun ov ot lv cv lt ct W _ _ _ _=>by
   have h:=sfits_plain 1 3 13 n 0 false ov ot lv cv lt ct W
   rwa[show ((decide (lt=0) || (false&&decide (0≤lt)))&&decide (lv=0))=Trm.countsB 13 lv lt from by
    rw[Bool.eq_iff_iff]
    simp[Trm.countsB]
    try omega] at h) (fun cb sb bb m nc nk size fr sc ov ot lv cv lt ct w hn hc hm=>number_13 cb sb bb m nc nk size n fr sc ov ot lv cv lt ct w hn hc hm _ rfl)
 ·exact right_op 15 n v ts (by decide) (by decide) ih 2 3 1 false false (by decide) (by decide) shape_15 (fun ov ot lv cv lt ct W _ _ _ _=>by
   have h:=sfits_plain 2 3 15 n 1 false ov ot lv cv lt ct W
   rwa[show ((decide (lt=1) || (false&&decide (1≤lt)))&&decide (lv=0))=Trm.countsB 15 lv lt from by
    rw[Bool.eq_iff_iff]
    simp[Trm.countsB]
    try omega] at h) (fun cb sb bb m nc nk size fr sc ov ot lv cv lt ct w hn hc hm=>number_15 cb sb bb m nc nk size n fr sc ov ot lv cv lt ct w hn hc hm _ rfl)
 ·exact right_op 16 n v ts (by decide) (by decide) ih 2 3 1 false false (by decide) (by decide) shape_16 (fun ov ot lv cv lt ct W _ _ _ _=>by
   have h:=sfits_plain 2 3 16 n 1 false ov ot lv cv lt ct W
   rwa[show ((decide (lt=1) || (false&&decide (1≤lt)))&&decide (lv=0))=Trm.countsB 16 lv lt from by
    rw[Bool.eq_iff_iff]
    simp[Trm.countsB]
    try omega] at h) (fun cb sb bb m nc nk size fr sc ov ot lv cv lt ct w hn hc hm=>number_16 cb sb bb m nc nk size n fr sc ov ot lv cv lt ct w hn hc hm _ rfl)
 ·exact right_op 17 n v ts (by decide) (by decide) ih 2 3 2 false false (by decide) (by decide) shape_17 (fun ov ot lv cv lt ct W _ _ _ _=>by
   have h:=sfits_plain 2 3 17 n 2 false ov ot lv cv lt ct W
   rwa[show ((decide (lt=2) || (false&&decide (2≤lt)))&&decide (lv=0))=Trm.countsB 17 lv lt from by
    rw[Bool.eq_iff_iff]
    simp[Trm.countsB]
    try omega] at h) (fun cb sb bb m nc nk size fr sc ov ot lv cv lt ct w hn hc hm=>number_17 cb sb bb m nc nk size n fr sc ov ot lv cv lt ct w hn hc hm _ rfl)
 ·exact right_op 18 n v ts (by decide) (by decide) ih 2 3 2 false false (by decide) (by decide) shape_18 (fun ov ot lv cv lt ct W _ _ _ _=>by
   have h:=sfits_plain 2 3 18 n 2 false ov ot lv cv lt ct W
   rwa[show ((decide (lt=2) || (false&&decide (2≤lt)))&&decide (lv=0))=Trm.countsB 18 lv lt from by
    rw[Bool.eq_iff_iff]
    simp[Trm.countsB]
    try omega] at h) (fun cb sb bb m nc nk size fr sc ov ot lv cv lt ct w hn hc hm=>number_18 cb sb bb m nc nk size n fr sc ov ot lv cv lt ct w hn hc hm _ rfl)
 ·exact right_op 4 n v ts (by decide) (by decide) ih 0 2 1 false true (by decide) (by decide) shape_4 (fun ov ot lv cv lt ct W _ _ _ _=>by
   have h:=sfits_lam 0 2 n ov ot lv cv lt ct W
   rwa[show decide (lt=1)=Trm.countsB 4 lv lt from by simp[Trm.countsB]] at h) (fun cb sb bb m nc nk size fr sc ov ot lv cv lt ct w hn hc hm=>number_4 cb sb bb m nc nk size n fr sc ov ot lv cv lt ct w hn hc hm _ rfl)
 ·exact right_high 19 n v ts (by decide) 3 3 0 true false (by decide) (by decide) shape_19
 ·exact right_high 20 n v ts (by decide) 3 3 0 false false (by decide) (by decide) shape_20
 ·exact right_high 21 n v ts (by decide) 3 3 0 false false (by decide) (by decide) shape_21
 ·exact right_high 22 n v ts (by decide) 3 3 1 true false (by decide) (by decide) shape_22
 ·exact right_low 2 n v ts (by decide) 0 1 1 false false (by decide) (by decide) shape_2
 ·exact right_low 7 n v ts (by decide) 0 0 0 false true (by decide) (by decide) shape_7
 ·exact right_low 14 n v ts (by decide) 1 1 1 false false (by decide) (by decide) shape_14
end
end Go.Proofs.YtgbibibmpoekiaaGreatDoor
