/-
  What the proofs lean on: Bnd.
-/
import Derived.Test.YtgbibibmpoekiaaGreatDoorShfA32
import Derived.Test.YtgbibibmpoekiaaGreatDoorShfA36
set_option maxRecDepth 100000
set_option maxHeartbeats 16000000
namespace Go.Proofs.YtgbibibmpoekiaaGreatDoor
section
open Go Go.RowKit
theorem wp_append_ints {W:World} {ops:Array Oper} {o:Oper} {a:Act} {K:Act→World→Prop} {Q:Exit→Act→World→Prop} (hgd:o.guard=none) (s x:Operand)
  (ho:o.op=.call { callee:=.builtin .append,args:=#[s,x],argTypes:=#[23,23] }) (base B:Nat) (v:Value) (xs l:List Int) (hs:a.eval s=v) (hown:W.ownsRow base 3 1 v xs.length (xs.map (Value.int .i64)))
  (oa:Option Addr) (m c:Nat) (hx:a.eval x=.slice oa m c) (hsl:SlC W B 1 IntR l (.slice oa m c)) (hb:(xs.length+l.length)*8≤140737488355328) (hbase:base≤W.heap.size)
  (h:∀v' w',w'.ownsRow base 3 1 v' (xs++l).length ((xs++l).map (Value.int .i64))→W.grownBy w' v.ownBlock→K (a.put o.dst v') w'):o.wp Tryz.prog a W K Q:=by
 have hw:Region.wanted o (yielded ops a.tmps)=true:=by simp[Region.wanted,hgd]
 exact wp_of_list (ops:=ops) hw (wpList_append_ints hgd s x ho base B v xs l hs hown oa m c hx hsl hb hbase fun v' w' h1 h2=>⟨rfl,h v' w' h1 h2⟩)
def PtR (z:Nat) (l:List Int) (sl:Value) (k:Nat) (s1 s2:Value) (x:Int) (listed:Array Bool) (i:Nat) (v:Value) (W:World):Prop:=match i with
 | 0=>∃b,v=.slice (some ⟨b,0,none⟩) 0 0∧z≤b∧(listed.getD 4 false=false→BoxL W b 3 [])
 | 1=>v=sl
 | 2=>v=.int .i64 k
 | 3=>v=s1
 | 4=>(∃o n c,v=.slice o n c)∧(listed.getD 7 false=false→W.ownsRow z 3 1 v (l.take k).length ((l.take k).map (Value.int .i64)))
 | 5=>v=.int .i64 x
 | 6=>∃b,v=.slice (some ⟨b,0,none⟩) 1 1∧z≤b∧(listed.getD 7 false=false→BoxL W b 3 [.int .i64 x])
 | 7=>(∃o n c,v=.slice o n c)∧(listed.getD 11 false=false→W.ownsRow z 3 1 v (l.take k++[x]).length ((l.take k++[x]).map (Value.int .i64)))
 | 8=>v=sl
 | 9=>v=.int .i64 k
 | 10=>v=s2
 | 11=>∃o n c,v=.slice o n c∧W.ownsRow z 3 1 v (l.take k++[x]++l.drop k).length ((l.take k++[x]++l.drop k).map (Value.int .i64))
 | _=>True
section
variable {z : Nat} {l : List Int} {sl : Value} {k : Nat} {s1 s2 : Value} {x : Int}
theorem ptR_kept {listed listed':Array Bool} {j:Nat} {u:Value} {A W:World} (h:PtR z l sl k s1 s2 x listed j u A) (hb:Below A.heap.size A W) (h4:listed'.getD 4 false=false→listed.getD 4 false=false) (h7:listed'.getD 7 false=false→listed.getD 7 false=false) (h11:listed'.getD 11 false=false→listed.getD 11 false=false):PtR z l sl k s1 s2 x listed' j u W:=by
 match j with
 | 0=>
  obtain ⟨b,h1,h2,h3⟩:=h
  exact ⟨b,h1,h2,fun g=>(h3 (h4 g)).keep hb⟩
 | 1=>exact h
 | 2=>exact h
 | 3=>exact h
 | 4=>exact ⟨h.1,fun g=>row_keep (h.2 (h7 g)) hb⟩
 | 5=>exact h
 | 6=>
  obtain ⟨b,h1,h2,h3⟩:=h
  exact ⟨b,h1,h2,fun g=>(h3 (h7 g)).keep hb⟩
 | 7=>exact ⟨h.1,fun g=>row_keep (h.2 (h11 g)) hb⟩
 | 8=>exact h
 | 9=>exact h
 | 10=>exact h
 | 11=>
  obtain ⟨o,n,c,h1,h2⟩:=h
  exact ⟨o,n,c,h1,row_keep h2 hb⟩
 | j+12=>trivial
end
theorem slI_one {W:World} {b:Nat} {x:Int} (h:BoxL W b 3 [.int .i64 x]) (hx:I64 x):SlC W W.heap.size 1 IntR [x] (.slice (some ⟨b,0,none⟩) 1 1):=⟨_,1,1,rfl,rfl,by omega,by omega,fun _=>⟨rfl,h.lt⟩,fun i y hy=>by
 cases i with
 | zero=>
  obtain rfl:x=y:=by simpa using hy
  exact ⟨[.int .i64 x],rfl,fun q u hq=>by have:=h.cell q hq;simpa using this,rfl,hx.1,hx.2⟩
 | succ i=>simp at hy⟩
theorem row_empty {W:World} {b z:Nat} (h:BoxL W b 3 []) (hz:z≤b):W.ownsRow z 3 1 (.slice (some ⟨b,0,none⟩) 0 0) ([]:List Int).length (([]:List Int).map (Value.int .i64)):=
 ⟨rfl,.inr ⟨b,0,#[],rfl,hz,h,Nat.le_refl _,by unfold maxLen;omega,rfl,rfl⟩⟩
theorem row_form {W:World} {z n:Nat} {v:Value} {xs:List Value} {e:TypeId} {size:Nat} (h:W.ownsRow z e size v n xs):∃o n c,v=.slice o n c:=by
 rcases h.2 with ⟨h,_⟩ | ⟨g,cap,cur,h,_⟩
 ·exact ⟨_,_,_,h⟩
 ·exact ⟨_,_,_,h⟩
theorem box_two {W:World} {b:Nat} {x:Value} (h:BoxL W b 3 [x]) (h':BoxL W b 3 []):False:=by
 have h1:W.heap[b]?=some (.cells #[x] 3 (0,0)):=h
 have h2:W.heap[b]?=some (.cells #[] 3 (0,0)):=h'
 rw[h1] at h2
 simp at h2
structure PtP (w:World) (listed:Array Bool) (W:World):Prop where
 below:Below w.heap.size w W
 l7:listed.getD 7 false=true→listed.getD 4 false=true
 l11:listed.getD 11 false=true→listed.getD 7 false=true
theorem PtP.other {w W W':World} {listed:Array Bool} (h:PtP w listed W) (hb:Below W.heap.size W W') {i:Nat} (h4:i≠4) (h7:i≠7) (h11:i≠11):PtP w (listed.setIfInBounds i true) W':=
 ⟨h.below.trans (hb.mono h.below.size),(fun k=>by rw[getD_set_ne false h4];exact h.l7 (by rwa[getD_set_ne false h7] at k)),(fun k=>by rw[getD_set_ne false h7];exact h.l11 (by rwa[getD_set_ne false h11] at k))⟩
theorem slI_take {W:World} {B:Nat} {l:List Int} {o:Option Addr} {len cap k:Nat} (h:SlC W B 1 IntR l (.slice o len cap)) (hk:k≤len):SlC W B 1 IntR (l.take k) (.slice o k cap):=by
 obtain ⟨o2,n2,c2,he,h1,h2,h3,h4⟩:=h
 simp only[Value.slice.injEq] at he
 obtain ⟨rfl,rfl,rfl⟩:=he
 refine ⟨o,k,cap,rfl,by simp;omega,by omega,h3,?_⟩
 cases o with
 | none=>exact ⟨by rw[h4.1];simp,h4.2⟩
 | some a=>exact ⟨fun hl=>h4.1 (fun e=>hl (by rw[e];simp)),fun i x hx=>h4.2 i x (by
   have:=List.getElem?_eq_some_iff.1 hx
   obtain ⟨hi,he⟩:=this
   rw[List.getElem_take] at he
   rw[←he]
   exact List.getElem?_eq_getElem _)⟩
theorem rput_any (l:List Int) (o:Option Addr) (len cap:Nat) (x:Int) (B:Nat) (w:World) (hv:SlC w B 1 IntR l (.slice o len cap)) (hB:B≤w.heap.size) (hx:I64 x) (hm:l.length≤4000000) :
  Calls Tryz.prog 53 #[.slice o len cap,.int .i64 x] w fun e w'=>∃o' n' c' l',e=.returned (.slice o' n' c')∧SlC w' w'.heap.size 1 IntR l' (.slice o' n' c')∧l'.length≤l.length+1∧Below w.heap.size w w':=by
 obtain ⟨hl1,hl2,hl3⟩:=SlC.lens hv
 have HL:=Lib.hid hl1
 have HV:=Lib.hid hv
 have HX:=Lib.hid hx
 have hlm:len≤4000000:=by omega
 clear hv hx hl1 hm
 go_enter Tryz.func53,Tryz.ntmps53
 go_wp2_with fail
 go_loopg [5] len (fun g i wr=>∃(j:Nat),g=len-j∧j≤len∧i=.int .i64 j∧w=wr)
 case atStart=>exact ⟨0,rfl,by omega,rfl,rfl⟩
 case round=>
  obtain ⟨j,rfl,hj,rfl,rfl⟩:=hrel
  by_cases hjl:j<len
  ·obtain ⟨z,hz⟩:∃z,l[j]?=some z:=⟨_,List.getElem?_eq_getElem (by rw[←HL.out];exact hjl)⟩
   obtain ⟨b1,o1,e1,ho1,_,_,hc1,hi1,_⟩:=SlC.at HV.out (Below.refl _ _) hz
   subst ho1 hi1
   have e0:=hc1 0 _ rfl
   simp only[Nat.add_zero,Nat.mul_one] at e0
   have el:=cell_lt e0
   clear hc1
   by_cases hzx:z<x
   ·have d1:decide (z<x)=true:=decide_eq_true hzx
    go_wp2_with fail
    go_roundg (len-(j+1))
    case measure=>omega
    case rel=>exact ⟨j+1,rfl,by omega,by go_num,rfl⟩
   ·have d1:decide (z<x)=false:=decide_eq_false hzx
    by_cases hzx2:z=x
    ·subst hzx2
     go_wp2_with fail
     go_ret
     exact ⟨_,_,_,rfl,l,HV.out.wider hB,Nat.le_succ _,Below.refl _ _⟩
    ·have d2:(z==x)=false:=by simpa using hzx2
     go_upto_region 6 with fail
     clear d1 d2 e0 el hz
     have HTK:=Lib.hid (slI_take HV.out (by omega))
     have HDK:=Lib.hid (show SlC w B 1 IntR (l.drop j) (.slice (some ⟨b1,o1+j,none⟩) (len-j) (cap-j)) from by simpa using SlC.drops (n:=j) HV.out (by omega))
     have HD5:=Lib.hid ((Below.refl w.heap.size w).drew)
     have hlk:(l.take j).length≤4000000:=by have:=HL.out;first | (simp;omega) | simp
     have hld:(l.take j).length+(l.drop j).length≤4000000:=by have:=HL.out;first | (simp;omega) | simp
     have HLK:=Lib.hid hlk
     have HLD:=Lib.hid hld
     clear hlk hld
     refine wp_region_stL 12 (fun listed _ W=>PtP w listed W) (PtR w.heap.size l (.slice (some ⟨b1,o1,none⟩) len cap) j (.slice (some ⟨b1,o1,none⟩) j cap) (.slice (some ⟨b1,o1+j,none⟩) (len-j) (cap-j)) x) (by kernel_rfl) (by kernel_rfl) ⟨HD5.out,(fun h=>by rw[getD_replicate_false] at h;cases h),(fun h=>by rw[getD_replicate_false] at h;cases h)⟩ ?hops ?hend
     case hops=>
      intro i q8 hi ho listed a w1 hli hld hph hun hdep hrest hsz
      have hz:w.heap.size≤w1.heap.size:=hph.below.size
      match i,hi with
      | 0,_=>
       cases ho
       exact wp_valF (v:=.slice (some ⟨w1.heap.size,0,none⟩) 0 0) (w':=w1.alloc (.cells #[] 3)) (by go_simp) ⟨_,rfl,⟨_,rfl,hz,fun _=>BoxL.new rfl _ _⟩,hph.other (Below.one _ _) (by decide) (by decide) (by decide),fun j u _ _ h=>ptR_kept h (Below.one _ _) (fun h=>by rwa[getD_set_ne false (by decide)] at h) (fun h=>by rwa[getD_set_ne false (by decide)] at h) (fun h=>by rwa[getD_set_ne false (by decide)] at h)⟩
      | 1,_=>
       cases ho
       exact wp_moveF rfl ⟨_,rfl,hrest.at 0 (by kernel_rfl),hph.other (Below.refl _ _) (by decide) (by decide) (by decide),fun j u _ _ h=>ptR_kept h (Below.refl _ _) (fun h=>by rwa[getD_set_ne false (by decide)] at h) (fun h=>by rwa[getD_set_ne false (by decide)] at h) (fun h=>by rwa[getD_set_ne false (by decide)] at h)⟩
      | 2,_=>
       cases ho
       exact wp_moveF rfl ⟨_,rfl,hrest.at 5 (by kernel_rfl),hph.other (Below.refl _ _) (by decide) (by decide) (by decide),fun j u _ _ h=>ptR_kept h (Below.refl _ _) (fun h=>by rwa[getD_set_ne false (by decide)] at h) (fun h=>by rwa[getD_set_ne false (by decide)] at h) (fun h=>by rwa[getD_set_ne false (by decide)] at h)⟩
      | 3,_=>
       cases ho
       have h34:a.tmps.getD 34 undef=.slice (some ⟨b1,o1,none⟩) len cap:=hdep.at 1 34 (by kernel_rfl)
       have h35:a.tmps.getD 35 undef=.int .i64 (j:Nat):=hdep.at 2 35 (by kernel_rfl)
       exact wp_valF (v:=.slice (some ⟨b1,o1,none⟩) j cap) (w':=w1) (by first | (go_simp;intro h;omega) | go_simp) ⟨_,rfl,rfl,hph.other (Below.refl _ _) (by decide) (by decide) (by decide),fun j u _ _ h=>ptR_kept h (Below.refl _ _) (fun h=>by rwa[getD_set_ne false (by decide)] at h) (fun h=>by rwa[getD_set_ne false (by decide)] at h) (fun h=>by rwa[getD_set_ne false (by decide)] at h)⟩
      | 4,_=>
       cases ho
       obtain ⟨b0,h33,hb0,hx0⟩:PtR w.heap.size l (.slice (some ⟨b1,o1,none⟩) len cap) j (.slice (some ⟨b1,o1,none⟩) j cap) (.slice (some ⟨b1,o1+j,none⟩) (len-j) (cap-j)) x listed 0 (a.tmps.getD 33 undef) w1:=hdep.at 0 33 (by kernel_rfl)
       have h36:a.tmps.getD 36 undef=.slice (some ⟨b1,o1,none⟩) j cap:=hdep.at 3 36 (by kernel_rfl)
       have hbx:=hx0 hun
       have hl4:(listed.setIfInBounds 4 true).getD 4 false=true:=by simp[hli]
       refine wp_append_ints (ops:=#[]) rfl (.tmp 33) (.tmp 36) rfl w.heap.size B (.slice (some ⟨b0,0,none⟩) 0 0) [] (l.take j) h33 (row_empty hbx hb0) (some ⟨b1,o1,none⟩) j cap h36 (HTK.out.kept (hph.below.mono hB) fun _ _ _ h=>h) (by have:=HLK.out;simp only[List.length_nil];omega) hz ?_
       intro v' w' hown hgr
       have ht:Turned (fun b=>b=b0) w1 w':=Turned.grown hgr fun b hb=>by simp only[Value.ownBlock,Option.some.injEq] at hb;exact hb.symm
       refine ⟨_,rfl,⟨row_form hown,fun _=>by simpa using hown⟩,⟨hph.below.trans (ht.below (fun b e=>by omega) hz),(fun _=>hl4),(fun k=>by rw[getD_set_ne false (by decide)] at k ⊢;exact hph.l11 k)⟩,fun j u hj hl h=>?_⟩
       match j,hj with
       | 0,_=>
        obtain ⟨b,h1,h2,_⟩:=h
        exact ⟨b,h1,h2,fun g=>by rw[hl4] at g;cases g⟩
       | 1,_=>exact h
       | 2,_=>exact h
       | 3,_=>exact h
       | 5,_=>exact h
       | 6,_=>
        obtain ⟨b,h1,h2,h3⟩:=h
        refine ⟨b,h1,h2,fun g=>?_⟩
        have g3:=h3 (by rwa[getD_set_ne false (by decide)] at g)
        exact ht.box g3 fun e=>by subst e;exact box_two g3 hbx
       | 7,_=>rw[hph.l7 hl] at hun;cases hun
       | 8,_=>exact h
       | 9,_=>exact h
       | 10,_=>exact h
       | 11,_=>rw[hph.l7 (hph.l11 hl)] at hun;cases hun
       | j+12,_=>trivial
      | 5,_=>
       cases ho
       exact wp_moveF rfl ⟨_,rfl,hrest.at 1 (by kernel_rfl),hph.other (Below.refl _ _) (by decide) (by decide) (by decide),fun j u _ _ h=>ptR_kept h (Below.refl _ _) (fun h=>by rwa[getD_set_ne false (by decide)] at h) (fun h=>by rwa[getD_set_ne false (by decide)] at h) (fun h=>by rwa[getD_set_ne false (by decide)] at h)⟩
      | 6,_=>
       cases ho
       have h38:a.tmps.getD 38 undef=.int .i64 x:=hdep.at 5 38 (by kernel_rfl)
       exact wp_bsR rfl h38 (run_bsI w1 x) ⟨_,rfl,⟨_,rfl,hz,fun _=>BoxL.new rfl _ _⟩,hph.other (Below.one _ _) (by decide) (by decide) (by decide),fun j u _ _ h=>ptR_kept h (Below.one _ _) (fun h=>by rwa[getD_set_ne false (by decide)] at h) (fun h=>by rwa[getD_set_ne false (by decide)] at h) (fun h=>by rwa[getD_set_ne false (by decide)] at h)⟩
      | 7,_=>
       cases ho
       obtain ⟨⟨o3,n3,c3,h37⟩,hrow⟩:PtR w.heap.size l (.slice (some ⟨b1,o1,none⟩) len cap) j (.slice (some ⟨b1,o1,none⟩) j cap) (.slice (some ⟨b1,o1+j,none⟩) (len-j) (cap-j)) x listed 4 (a.tmps.getD 37 undef) w1:=hdep.at 4 37 (by kernel_rfl)
       obtain ⟨b6,h39,hb6,hbx⟩:PtR w.heap.size l (.slice (some ⟨b1,o1,none⟩) len cap) j (.slice (some ⟨b1,o1,none⟩) j cap) (.slice (some ⟨b1,o1+j,none⟩) (len-j) (cap-j)) x listed 6 (a.tmps.getD 39 undef) w1:=hdep.at 6 39 (by kernel_rfl)
       have hd4:listed.getD 4 false=true:=listed_dep hld 4 (by kernel_rfl)
       have hl7:(listed.setIfInBounds 7 true).getD 7 false=true:=by simp[hli]
       have hro:=hrow hun
       refine wp_append_ints (ops:=#[]) rfl (.tmp 37) (.tmp 39) rfl w.heap.size w1.heap.size (a.tmps.getD 37 undef) (l.take j) [x] rfl hro (some ⟨b6,0,none⟩) 1 1 h39 (slI_one (hbx hun) HX.out) (by have:=HLK.out;simp only[List.length_singleton];omega) hz ?_
       intro v' w' hown hgr
       have ht:Turned (fun b=>(a.tmps.getD 37 undef).ownBlock=some b) w1 w':=Turned.grown hgr fun b hb=>hb
       refine ⟨_,rfl,⟨row_form hown,fun _=>hown⟩,⟨hph.below.trans (ht.below (fun b e=>(hro.lt b e).1) hz),(fun _=>by rw[getD_set_ne false (by decide)];exact hd4),(fun _=>hl7)⟩,fun j u hj hl h=>?_⟩
       match j,hj with
       | 0,_=>
        obtain ⟨b,h1,h2,_⟩:=h
        exact ⟨b,h1,h2,fun g=>by rw[getD_set_ne false (by decide),hd4] at g;cases g⟩
       | 1,_=>exact h
       | 2,_=>exact h
       | 3,_=>exact h
       | 4,_=>exact ⟨h.1,fun g=>by rw[hl7] at g;cases g⟩
       | 5,_=>exact h
       | 6,_=>
        obtain ⟨b,h1,h2,_⟩:=h
        exact ⟨b,h1,h2,fun g=>by rw[hl7] at g;cases g⟩
       | 8,_=>exact h
       | 9,_=>exact h
       | 10,_=>exact h
       | 11,_=>rw[hph.l11 hl] at hun;cases hun
       | j+12,_=>trivial
      | 8,_=>
       cases ho
       exact wp_moveF rfl ⟨_,rfl,hrest.at 0 (by kernel_rfl),hph.other (Below.refl _ _) (by decide) (by decide) (by decide),fun j u _ _ h=>ptR_kept h (Below.refl _ _) (fun h=>by rwa[getD_set_ne false (by decide)] at h) (fun h=>by rwa[getD_set_ne false (by decide)] at h) (fun h=>by rwa[getD_set_ne false (by decide)] at h)⟩
      | 9,_=>
       cases ho
       exact wp_moveF rfl ⟨_,rfl,hrest.at 5 (by kernel_rfl),hph.other (Below.refl _ _) (by decide) (by decide) (by decide),fun j u _ _ h=>ptR_kept h (Below.refl _ _) (fun h=>by rwa[getD_set_ne false (by decide)] at h) (fun h=>by rwa[getD_set_ne false (by decide)] at h) (fun h=>by rwa[getD_set_ne false (by decide)] at h)⟩
      | 10,_=>
       cases ho
       have h41:a.tmps.getD 41 undef=.slice (some ⟨b1,o1,none⟩) len cap:=hdep.at 8 41 (by kernel_rfl)
       have h42:a.tmps.getD 42 undef=.int .i64 (j:Nat):=hdep.at 9 42 (by kernel_rfl)
       exact wp_valF (v:=.slice (some ⟨b1,o1+j,none⟩) (len-j) (cap-j)) (w':=w1) (by first | (go_simp;intro h;omega) | go_simp) ⟨_,rfl,rfl,hph.other (Below.refl _ _) (by decide) (by decide) (by decide),fun j u _ _ h=>ptR_kept h (Below.refl _ _) (fun h=>by rwa[getD_set_ne false (by decide)] at h) (fun h=>by rwa[getD_set_ne false (by decide)] at h) (fun h=>by rwa[getD_set_ne false (by decide)] at h)⟩
      | 11,_=>
       cases ho
       obtain ⟨⟨o3,n3,c3,h40⟩,hrow⟩:PtR w.heap.size l (.slice (some ⟨b1,o1,none⟩) len cap) j (.slice (some ⟨b1,o1,none⟩) j cap) (.slice (some ⟨b1,o1+j,none⟩) (len-j) (cap-j)) x listed 7 (a.tmps.getD 40 undef) w1:=hdep.at 7 40 (by kernel_rfl)
       have h43:a.tmps.getD 43 undef=.slice (some ⟨b1,o1+j,none⟩) (len-j) (cap-j):=hdep.at 10 43 (by kernel_rfl)
       have hd7:listed.getD 7 false=true:=listed_dep hld 7 (by kernel_rfl)
       have hl11:(listed.setIfInBounds 11 true).getD 11 false=true:=by simp[hli]
       have hro:=hrow hun
       refine wp_append_ints (ops:=#[]) rfl (.tmp 40) (.tmp 43) rfl w.heap.size B (a.tmps.getD 40 undef) (l.take j++[x]) (l.drop j) rfl hro (some ⟨b1,o1+j,none⟩) (len-j) (cap-j) h43 (HDK.out.kept (hph.below.mono hB) fun _ _ _ h=>h) (by have:=HLD.out;simp only[List.length_append,List.length_singleton];omega) hz ?_
       intro v' w' hown hgr
       have ht:Turned (fun b=>(a.tmps.getD 40 undef).ownBlock=some b) w1 w':=Turned.grown hgr fun b hb=>hb
       obtain ⟨o8,n8,c8,rfl⟩:=row_form hown
       refine ⟨_,rfl,⟨_,_,_,rfl,hown⟩,⟨hph.below.trans (ht.below (fun b e=>(hro.lt b e).1) hz),(fun k=>by rw[getD_set_ne false (by decide)] at k ⊢;exact hph.l7 k),(fun _=>by rw[getD_set_ne false (by decide)];exact hd7)⟩,fun j u hj hl h=>?_⟩
       match j,hj with
       | 0,_=>
        obtain ⟨b,h1,h2,_⟩:=h
        exact ⟨b,h1,h2,fun g=>by rw[getD_set_ne false (by decide),hph.l7 hd7] at g;cases g⟩
       | 1,_=>exact h
       | 2,_=>exact h
       | 3,_=>exact h
       | 4,_=>exact ⟨h.1,fun g=>by rw[getD_set_ne false (by decide),hd7] at g;cases g⟩
       | 5,_=>exact h
       | 6,_=>
        obtain ⟨b,h1,h2,_⟩:=h
        exact ⟨b,h1,h2,fun g=>by rw[getD_set_ne false (by decide),hd7] at g;cases g⟩
       | 7,_=>exact ⟨h.1,fun g=>by rw[hl11] at g;cases g⟩
       | 8,_=>exact h
       | 9,_=>exact h
       | 10,_=>exact h
       | j+12,_=>trivial
      | i+12,hi=>exact absurd hi (by omega)
     case hend=>
      intro listed a w1 hdf hsz hls hph hval hrest
      obtain ⟨o9,n9,c9,h44,hrow⟩:PtR w.heap.size l (.slice (some ⟨b1,o1,none⟩) len cap) j (.slice (some ⟨b1,o1,none⟩) j cap) (.slice (some ⟨b1,o1+j,none⟩) (len-j) (cap-j)) x listed 11 (a.tmps.getD 44 undef) w1:=hval 11 _ 44 (by omega) rfl rfl
      rw[h44] at hrow
      obtain ⟨f9,ha,hf⟩:=act_spellF [false,false,false,false,false,false,false,false,false,false,false,false,false,false,false,false,false,false,false,false,false,false,false,false,false,false,false,false,false,false,false,false,false,true,true,true,true,true,true,true,true,true,true,true,true] (by kernel_rfl) hdf hsz hrest
      rw[←hf] at h44
      subst ha
      have HB1:=Lib.hid hph.below
      have HRW:=Lib.hid (rowInts hrow (fun y hy=>by
       rcases List.mem_append.1 hy with hy | hy
       ·rcases List.mem_append.1 hy with hy | hy
        ·exact HV.out.i64 y (List.mem_of_mem_take hy)
        ·rw[List.mem_singleton.1 hy];exact HX.out
       ·exact HV.out.i64 y (List.mem_of_mem_drop hy)))
      clear hval hrest hf hdf hsz hls hph hrow
      simp only[spellF,h44,List.drop_succ_cons,List.drop_zero]
      go_wp2_with fail
      go_ret
      first | (refine ⟨_,_,_,rfl,_,HRW.out,?_,HB1.out⟩) | (refine ⟨_,_,_,_,rfl,HRW.out,?_,HB1.out⟩)
      simp only[List.length_append,List.length_take,List.length_drop,List.length_singleton]
      omega
  ·obtain rfl:j=len:=by omega
   cases o with
   | none=>
    obtain ⟨o2,l2,c2,he,h1,_,_,h4⟩:=HV.out
    simp only[Value.slice.injEq] at he
    obtain ⟨rfl,rfl,rfl⟩:=he
    obtain ⟨hln,rfl⟩:=h4
    obtain rfl:j=0:=by rw[h1,hln];rfl
    have HLZ:=Lib.hid hln
    clear h1 hln
    go_upto_region 6 with fail
    have HTK:=Lib.hid (slI_take HV.out (Nat.le_refl _))
    have HDK:=Lib.hid (show SlC w B 1 IntR (l.drop 0) (.slice none 0 0) from ⟨none,0,0,rfl,by simp[HLZ.out],by omega,by omega,by simp[HLZ.out],rfl⟩)
    have HD5:=Lib.hid ((Below.refl w.heap.size w).drew)
    have hlk:(l.take 0).length≤4000000:=by have:=HL.out;first | (simp;omega) | simp
    have hld:(l.take 0).length+(l.drop 0).length≤4000000:=by have:=HL.out;first | (simp;omega) | simp
    have HLK:=Lib.hid hlk
    have HLD:=Lib.hid hld
    clear hlk hld
    refine wp_region_stL 12 (fun listed _ W=>PtP w listed W) (PtR w.heap.size l (.slice none 0 0) 0 (.slice none 0 0) (.slice none 0 0) x) (by kernel_rfl) (by kernel_rfl) ⟨HD5.out,(fun h=>by rw[getD_replicate_false] at h;cases h),(fun h=>by rw[getD_replicate_false] at h;cases h)⟩ ?hops ?hend
    case hops=>
     intro i q8 hi ho listed a w1 hli hld hph hun hdep hrest hsz
     have hz:w.heap.size≤w1.heap.size:=hph.below.size
     match i,hi with
     | 0,_=>
      cases ho
      exact wp_valF (v:=.slice (some ⟨w1.heap.size,0,none⟩) 0 0) (w':=w1.alloc (.cells #[] 3)) (by go_simp) ⟨_,rfl,⟨_,rfl,hz,fun _=>BoxL.new rfl _ _⟩,hph.other (Below.one _ _) (by decide) (by decide) (by decide),fun j u _ _ h=>ptR_kept h (Below.one _ _) (fun h=>by rwa[getD_set_ne false (by decide)] at h) (fun h=>by rwa[getD_set_ne false (by decide)] at h) (fun h=>by rwa[getD_set_ne false (by decide)] at h)⟩
     | 1,_=>
      cases ho
      exact wp_moveF rfl ⟨_,rfl,hrest.at 0 (by kernel_rfl),hph.other (Below.refl _ _) (by decide) (by decide) (by decide),fun j u _ _ h=>ptR_kept h (Below.refl _ _) (fun h=>by rwa[getD_set_ne false (by decide)] at h) (fun h=>by rwa[getD_set_ne false (by decide)] at h) (fun h=>by rwa[getD_set_ne false (by decide)] at h)⟩
     | 2,_=>
      cases ho
      exact wp_moveF rfl ⟨_,rfl,hrest.at 5 (by kernel_rfl),hph.other (Below.refl _ _) (by decide) (by decide) (by decide),fun j u _ _ h=>ptR_kept h (Below.refl _ _) (fun h=>by rwa[getD_set_ne false (by decide)] at h) (fun h=>by rwa[getD_set_ne false (by decide)] at h) (fun h=>by rwa[getD_set_ne false (by decide)] at h)⟩
     | 3,_=>
      cases ho
      have h34:a.tmps.getD 34 undef=.slice none 0 0:=hdep.at 1 34 (by kernel_rfl)
      have h35:a.tmps.getD 35 undef=.int .i64 (0:Nat):=hdep.at 2 35 (by kernel_rfl)
      exact wp_valF (v:=.slice none 0 0) (w':=w1) (by first | (go_simp;skip) | go_simp) ⟨_,rfl,rfl,hph.other (Below.refl _ _) (by decide) (by decide) (by decide),fun j u _ _ h=>ptR_kept h (Below.refl _ _) (fun h=>by rwa[getD_set_ne false (by decide)] at h) (fun h=>by rwa[getD_set_ne false (by decide)] at h) (fun h=>by rwa[getD_set_ne false (by decide)] at h)⟩
     | 4,_=>
      cases ho
      obtain ⟨b0,h33,hb0,hx0⟩:PtR w.heap.size l (.slice none 0 0) 0 (.slice none 0 0) (.slice none 0 0) x listed 0 (a.tmps.getD 33 undef) w1:=hdep.at 0 33 (by kernel_rfl)
      have h36:a.tmps.getD 36 undef=.slice none 0 0:=hdep.at 3 36 (by kernel_rfl)
      have hbx:=hx0 hun
      have hl4:(listed.setIfInBounds 4 true).getD 4 false=true:=by simp[hli]
      refine wp_append_ints (ops:=#[]) rfl (.tmp 33) (.tmp 36) rfl w.heap.size B (.slice (some ⟨b0,0,none⟩) 0 0) [] (l.take 0) h33 (row_empty hbx hb0) none 0 0 h36 (HTK.out.kept (hph.below.mono hB) fun _ _ _ h=>h) (by have:=HLK.out;simp only[List.length_nil];omega) hz ?_
      intro v' w' hown hgr
      have ht:Turned (fun b=>b=b0) w1 w':=Turned.grown hgr fun b hb=>by simp only[Value.ownBlock,Option.some.injEq] at hb;exact hb.symm
      refine ⟨_,rfl,⟨row_form hown,fun _=>by simpa using hown⟩,⟨hph.below.trans (ht.below (fun b e=>by omega) hz),(fun _=>hl4),(fun k=>by rw[getD_set_ne false (by decide)] at k ⊢;exact hph.l11 k)⟩,fun j u hj hl h=>?_⟩
      match j,hj with
      | 0,_=>
       obtain ⟨b,h1,h2,_⟩:=h
       exact ⟨b,h1,h2,fun g=>by rw[hl4] at g;cases g⟩
      | 1,_=>exact h
      | 2,_=>exact h
      | 3,_=>exact h
      | 5,_=>exact h
      | 6,_=>
       obtain ⟨b,h1,h2,h3⟩:=h
       refine ⟨b,h1,h2,fun g=>?_⟩
       have g3:=h3 (by rwa[getD_set_ne false (by decide)] at g)
       exact ht.box g3 fun e=>by subst e;exact box_two g3 hbx
      | 7,_=>rw[hph.l7 hl] at hun;cases hun
      | 8,_=>exact h
      | 9,_=>exact h
      | 10,_=>exact h
      | 11,_=>rw[hph.l7 (hph.l11 hl)] at hun;cases hun
      | j+12,_=>trivial
     | 5,_=>
      cases ho
      exact wp_moveF rfl ⟨_,rfl,hrest.at 1 (by kernel_rfl),hph.other (Below.refl _ _) (by decide) (by decide) (by decide),fun j u _ _ h=>ptR_kept h (Below.refl _ _) (fun h=>by rwa[getD_set_ne false (by decide)] at h) (fun h=>by rwa[getD_set_ne false (by decide)] at h) (fun h=>by rwa[getD_set_ne false (by decide)] at h)⟩
     | 6,_=>
      cases ho
      have h38:a.tmps.getD 38 undef=.int .i64 x:=hdep.at 5 38 (by kernel_rfl)
      exact wp_bsR rfl h38 (run_bsI w1 x) ⟨_,rfl,⟨_,rfl,hz,fun _=>BoxL.new rfl _ _⟩,hph.other (Below.one _ _) (by decide) (by decide) (by decide),fun j u _ _ h=>ptR_kept h (Below.one _ _) (fun h=>by rwa[getD_set_ne false (by decide)] at h) (fun h=>by rwa[getD_set_ne false (by decide)] at h) (fun h=>by rwa[getD_set_ne false (by decide)] at h)⟩
     | 7,_=>
      cases ho
      obtain ⟨⟨o3,n3,c3,h37⟩,hrow⟩:PtR w.heap.size l (.slice none 0 0) 0 (.slice none 0 0) (.slice none 0 0) x listed 4 (a.tmps.getD 37 undef) w1:=hdep.at 4 37 (by kernel_rfl)
      obtain ⟨b6,h39,hb6,hbx⟩:PtR w.heap.size l (.slice none 0 0) 0 (.slice none 0 0) (.slice none 0 0) x listed 6 (a.tmps.getD 39 undef) w1:=hdep.at 6 39 (by kernel_rfl)
      have hd4:listed.getD 4 false=true:=listed_dep hld 4 (by kernel_rfl)
      have hl7:(listed.setIfInBounds 7 true).getD 7 false=true:=by simp[hli]
      have hro:=hrow hun
      refine wp_append_ints (ops:=#[]) rfl (.tmp 37) (.tmp 39) rfl w.heap.size w1.heap.size (a.tmps.getD 37 undef) (l.take 0) [x] rfl hro (some ⟨b6,0,none⟩) 1 1 h39 (slI_one (hbx hun) HX.out) (by have:=HLK.out;simp only[List.length_singleton];omega) hz ?_
      intro v' w' hown hgr
      have ht:Turned (fun b=>(a.tmps.getD 37 undef).ownBlock=some b) w1 w':=Turned.grown hgr fun b hb=>hb
      refine ⟨_,rfl,⟨row_form hown,fun _=>hown⟩,⟨hph.below.trans (ht.below (fun b e=>(hro.lt b e).1) hz),(fun _=>by rw[getD_set_ne false (by decide)];exact hd4),(fun _=>hl7)⟩,fun j u hj hl h=>?_⟩
      match j,hj with
      | 0,_=>
       obtain ⟨b,h1,h2,_⟩:=h
       exact ⟨b,h1,h2,fun g=>by rw[getD_set_ne false (by decide),hd4] at g;cases g⟩
      | 1,_=>exact h
      | 2,_=>exact h
      | 3,_=>exact h
      | 4,_=>exact ⟨h.1,fun g=>by rw[hl7] at g;cases g⟩
      | 5,_=>exact h
      | 6,_=>
       obtain ⟨b,h1,h2,_⟩:=h
       exact ⟨b,h1,h2,fun g=>by rw[hl7] at g;cases g⟩
      | 8,_=>exact h
      | 9,_=>exact h
      | 10,_=>exact h
      | 11,_=>rw[hph.l11 hl] at hun;cases hun
      | j+12,_=>trivial
     | 8,_=>
      cases ho
      exact wp_moveF rfl ⟨_,rfl,hrest.at 0 (by kernel_rfl),hph.other (Below.refl _ _) (by decide) (by decide) (by decide),fun j u _ _ h=>ptR_kept h (Below.refl _ _) (fun h=>by rwa[getD_set_ne false (by decide)] at h) (fun h=>by rwa[getD_set_ne false (by decide)] at h) (fun h=>by rwa[getD_set_ne false (by decide)] at h)⟩
     | 9,_=>
      cases ho
      exact wp_moveF rfl ⟨_,rfl,hrest.at 5 (by kernel_rfl),hph.other (Below.refl _ _) (by decide) (by decide) (by decide),fun j u _ _ h=>ptR_kept h (Below.refl _ _) (fun h=>by rwa[getD_set_ne false (by decide)] at h) (fun h=>by rwa[getD_set_ne false (by decide)] at h) (fun h=>by rwa[getD_set_ne false (by decide)] at h)⟩
     | 10,_=>
      cases ho
      have h41:a.tmps.getD 41 undef=.slice none 0 0:=hdep.at 8 41 (by kernel_rfl)
      have h42:a.tmps.getD 42 undef=.int .i64 (0:Nat):=hdep.at 9 42 (by kernel_rfl)
      exact wp_valF (v:=.slice none 0 0) (w':=w1) (by first | (go_simp;skip) | go_simp) ⟨_,rfl,rfl,hph.other (Below.refl _ _) (by decide) (by decide) (by decide),fun j u _ _ h=>ptR_kept h (Below.refl _ _) (fun h=>by rwa[getD_set_ne false (by decide)] at h) (fun h=>by rwa[getD_set_ne false (by decide)] at h) (fun h=>by rwa[getD_set_ne false (by decide)] at h)⟩
     | 11,_=>
      cases ho
      obtain ⟨⟨o3,n3,c3,h40⟩,hrow⟩:PtR w.heap.size l (.slice none 0 0) 0 (.slice none 0 0) (.slice none 0 0) x listed 7 (a.tmps.getD 40 undef) w1:=hdep.at 7 40 (by kernel_rfl)
      have h43:a.tmps.getD 43 undef=.slice none 0 0:=hdep.at 10 43 (by kernel_rfl)
      have hd7:listed.getD 7 false=true:=listed_dep hld 7 (by kernel_rfl)
      have hl11:(listed.setIfInBounds 11 true).getD 11 false=true:=by simp[hli]
      have hro:=hrow hun
      refine wp_append_ints (ops:=#[]) rfl (.tmp 40) (.tmp 43) rfl w.heap.size B (a.tmps.getD 40 undef) (l.take 0++[x]) (l.drop 0) rfl hro none 0 0 h43 (HDK.out.kept (hph.below.mono hB) fun _ _ _ h=>h) (by have:=HLD.out;simp only[List.length_append,List.length_singleton];omega) hz ?_
      intro v' w' hown hgr
      have ht:Turned (fun b=>(a.tmps.getD 40 undef).ownBlock=some b) w1 w':=Turned.grown hgr fun b hb=>hb
      obtain ⟨o8,n8,c8,rfl⟩:=row_form hown
      refine ⟨_,rfl,⟨_,_,_,rfl,hown⟩,⟨hph.below.trans (ht.below (fun b e=>(hro.lt b e).1) hz),(fun k=>by rw[getD_set_ne false (by decide)] at k ⊢;exact hph.l7 k),(fun _=>by rw[getD_set_ne false (by decide)];exact hd7)⟩,fun j u hj hl h=>?_⟩
      match j,hj with
      | 0,_=>
       obtain ⟨b,h1,h2,_⟩:=h
       exact ⟨b,h1,h2,fun g=>by rw[getD_set_ne false (by decide),hph.l7 hd7] at g;cases g⟩
      | 1,_=>exact h
      | 2,_=>exact h
      | 3,_=>exact h
      | 4,_=>exact ⟨h.1,fun g=>by rw[getD_set_ne false (by decide),hd7] at g;cases g⟩
      | 5,_=>exact h
      | 6,_=>
       obtain ⟨b,h1,h2,_⟩:=h
       exact ⟨b,h1,h2,fun g=>by rw[getD_set_ne false (by decide),hd7] at g;cases g⟩
      | 7,_=>exact ⟨h.1,fun g=>by rw[hl11] at g;cases g⟩
      | 8,_=>exact h
      | 9,_=>exact h
      | 10,_=>exact h
      | j+12,_=>trivial
     | i+12,hi=>exact absurd hi (by omega)
    case hend=>
     intro listed a w1 hdf hsz hls hph hval hrest
     obtain ⟨o9,n9,c9,h44,hrow⟩:PtR w.heap.size l (.slice none 0 0) 0 (.slice none 0 0) (.slice none 0 0) x listed 11 (a.tmps.getD 44 undef) w1:=hval 11 _ 44 (by omega) rfl rfl
     rw[h44] at hrow
     obtain ⟨f9,ha,hf⟩:=act_spellF [false,false,false,false,false,false,false,false,false,false,false,false,false,false,false,false,false,false,false,false,false,false,false,false,false,false,false,false,false,false,false,false,false,true,true,true,true,true,true,true,true,true,true,true,true] (by kernel_rfl) hdf hsz hrest
     rw[←hf] at h44
     subst ha
     have HB1:=Lib.hid hph.below
     have HRW:=Lib.hid (rowInts hrow (fun y hy=>by
      rcases List.mem_append.1 hy with hy | hy
      ·rcases List.mem_append.1 hy with hy | hy
       ·exact HV.out.i64 y (List.mem_of_mem_take hy)
       ·rw[List.mem_singleton.1 hy];exact HX.out
      ·exact HV.out.i64 y (List.mem_of_mem_drop hy)))
     clear hval hrest hf hdf hsz hls hph hrow
     simp only[spellF,h44,List.drop_succ_cons,List.drop_zero]
     go_wp2_with fail
     go_ret
     first | (refine ⟨_,_,_,rfl,_,HRW.out,?_,HB1.out⟩) | (refine ⟨_,_,_,_,rfl,HRW.out,?_,HB1.out⟩)
     simp only[List.length_append,List.length_take,List.length_drop,List.length_singleton]
     omega
   | some ad=>
    obtain ⟨b1,o1,sp⟩:=ad
    by_cases hcl:cap=j
    ·subst hcl
     go_upto_region 6 with fail
     have HTK:=Lib.hid (slI_take HV.out (Nat.le_refl _))
     have HDK:=Lib.hid (show SlC w B 1 IntR (l.drop cap) (.slice (some ⟨b1,o1,sp⟩) 0 0) from by rw[List.drop_eq_nil_of_le (by rw[←HL.out];exact Nat.le_refl _)];exact ⟨_,0,_,rfl,rfl,Nat.zero_le _,by omega,fun h=>absurd rfl h,fun i x hx=>by simp at hx⟩)
     have HD5:=Lib.hid ((Below.refl w.heap.size w).drew)
     have hlk:(l.take cap).length≤4000000:=by have:=HL.out;first | (simp;omega) | simp
     have hld:(l.take cap).length+(l.drop cap).length≤4000000:=by have:=HL.out;first | (simp;omega) | simp
     have HLK:=Lib.hid hlk
     have HLD:=Lib.hid hld
     clear hlk hld
     refine wp_region_stL 12 (fun listed _ W=>PtP w listed W) (PtR w.heap.size l (.slice (some ⟨b1,o1,sp⟩) cap cap) cap (.slice (some ⟨b1,o1,sp⟩) cap cap) (.slice (some ⟨b1,o1,sp⟩) 0 0) x) (by kernel_rfl) (by kernel_rfl) ⟨HD5.out,(fun h=>by rw[getD_replicate_false] at h;cases h),(fun h=>by rw[getD_replicate_false] at h;cases h)⟩ ?hops ?hend
     case hops=>
      intro i q8 hi ho listed a w1 hli hld hph hun hdep hrest hsz
      have hz:w.heap.size≤w1.heap.size:=hph.below.size
      match i,hi with
      | 0,_=>
       cases ho
       exact wp_valF (v:=.slice (some ⟨w1.heap.size,0,none⟩) 0 0) (w':=w1.alloc (.cells #[] 3)) (by go_simp) ⟨_,rfl,⟨_,rfl,hz,fun _=>BoxL.new rfl _ _⟩,hph.other (Below.one _ _) (by decide) (by decide) (by decide),fun j u _ _ h=>ptR_kept h (Below.one _ _) (fun h=>by rwa[getD_set_ne false (by decide)] at h) (fun h=>by rwa[getD_set_ne false (by decide)] at h) (fun h=>by rwa[getD_set_ne false (by decide)] at h)⟩
      | 1,_=>
       cases ho
       exact wp_moveF rfl ⟨_,rfl,hrest.at 0 (by kernel_rfl),hph.other (Below.refl _ _) (by decide) (by decide) (by decide),fun j u _ _ h=>ptR_kept h (Below.refl _ _) (fun h=>by rwa[getD_set_ne false (by decide)] at h) (fun h=>by rwa[getD_set_ne false (by decide)] at h) (fun h=>by rwa[getD_set_ne false (by decide)] at h)⟩
      | 2,_=>
       cases ho
       exact wp_moveF rfl ⟨_,rfl,hrest.at 5 (by kernel_rfl),hph.other (Below.refl _ _) (by decide) (by decide) (by decide),fun j u _ _ h=>ptR_kept h (Below.refl _ _) (fun h=>by rwa[getD_set_ne false (by decide)] at h) (fun h=>by rwa[getD_set_ne false (by decide)] at h) (fun h=>by rwa[getD_set_ne false (by decide)] at h)⟩
      | 3,_=>
       cases ho
       have h34:a.tmps.getD 34 undef=.slice (some ⟨b1,o1,sp⟩) cap cap:=hdep.at 1 34 (by kernel_rfl)
       have h35:a.tmps.getD 35 undef=.int .i64 (cap:Nat):=hdep.at 2 35 (by kernel_rfl)
       exact wp_valF (v:=.slice (some ⟨b1,o1,sp⟩) cap cap) (w':=w1) (by first | (go_simp;intro h;omega) | go_simp) ⟨_,rfl,rfl,hph.other (Below.refl _ _) (by decide) (by decide) (by decide),fun j u _ _ h=>ptR_kept h (Below.refl _ _) (fun h=>by rwa[getD_set_ne false (by decide)] at h) (fun h=>by rwa[getD_set_ne false (by decide)] at h) (fun h=>by rwa[getD_set_ne false (by decide)] at h)⟩
      | 4,_=>
       cases ho
       obtain ⟨b0,h33,hb0,hx0⟩:PtR w.heap.size l (.slice (some ⟨b1,o1,sp⟩) cap cap) cap (.slice (some ⟨b1,o1,sp⟩) cap cap) (.slice (some ⟨b1,o1,sp⟩) 0 0) x listed 0 (a.tmps.getD 33 undef) w1:=hdep.at 0 33 (by kernel_rfl)
       have h36:a.tmps.getD 36 undef=.slice (some ⟨b1,o1,sp⟩) cap cap:=hdep.at 3 36 (by kernel_rfl)
       have hbx:=hx0 hun
       have hl4:(listed.setIfInBounds 4 true).getD 4 false=true:=by simp[hli]
       refine wp_append_ints (ops:=#[]) rfl (.tmp 33) (.tmp 36) rfl w.heap.size B (.slice (some ⟨b0,0,none⟩) 0 0) [] (l.take cap) h33 (row_empty hbx hb0) (some ⟨b1,o1,sp⟩) cap cap h36 (HTK.out.kept (hph.below.mono hB) fun _ _ _ h=>h) (by have:=HLK.out;simp only[List.length_nil];omega) hz ?_
       intro v' w' hown hgr
       have ht:Turned (fun b=>b=b0) w1 w':=Turned.grown hgr fun b hb=>by simp only[Value.ownBlock,Option.some.injEq] at hb;exact hb.symm
       refine ⟨_,rfl,⟨row_form hown,fun _=>by simpa using hown⟩,⟨hph.below.trans (ht.below (fun b e=>by omega) hz),(fun _=>hl4),(fun k=>by rw[getD_set_ne false (by decide)] at k ⊢;exact hph.l11 k)⟩,fun j u hj hl h=>?_⟩
       match j,hj with
       | 0,_=>
        obtain ⟨b,h1,h2,_⟩:=h
        exact ⟨b,h1,h2,fun g=>by rw[hl4] at g;cases g⟩
       | 1,_=>exact h
       | 2,_=>exact h
       | 3,_=>exact h
       | 5,_=>exact h
       | 6,_=>
        obtain ⟨b,h1,h2,h3⟩:=h
        refine ⟨b,h1,h2,fun g=>?_⟩
        have g3:=h3 (by rwa[getD_set_ne false (by decide)] at g)
        exact ht.box g3 fun e=>by subst e;exact box_two g3 hbx
       | 7,_=>rw[hph.l7 hl] at hun;cases hun
       | 8,_=>exact h
       | 9,_=>exact h
       | 10,_=>exact h
       | 11,_=>rw[hph.l7 (hph.l11 hl)] at hun;cases hun
       | j+12,_=>trivial
      | 5,_=>
       cases ho
       exact wp_moveF rfl ⟨_,rfl,hrest.at 1 (by kernel_rfl),hph.other (Below.refl _ _) (by decide) (by decide) (by decide),fun j u _ _ h=>ptR_kept h (Below.refl _ _) (fun h=>by rwa[getD_set_ne false (by decide)] at h) (fun h=>by rwa[getD_set_ne false (by decide)] at h) (fun h=>by rwa[getD_set_ne false (by decide)] at h)⟩
      | 6,_=>
       cases ho
       have h38:a.tmps.getD 38 undef=.int .i64 x:=hdep.at 5 38 (by kernel_rfl)
       exact wp_bsR rfl h38 (run_bsI w1 x) ⟨_,rfl,⟨_,rfl,hz,fun _=>BoxL.new rfl _ _⟩,hph.other (Below.one _ _) (by decide) (by decide) (by decide),fun j u _ _ h=>ptR_kept h (Below.one _ _) (fun h=>by rwa[getD_set_ne false (by decide)] at h) (fun h=>by rwa[getD_set_ne false (by decide)] at h) (fun h=>by rwa[getD_set_ne false (by decide)] at h)⟩
      | 7,_=>
       cases ho
       obtain ⟨⟨o3,n3,c3,h37⟩,hrow⟩:PtR w.heap.size l (.slice (some ⟨b1,o1,sp⟩) cap cap) cap (.slice (some ⟨b1,o1,sp⟩) cap cap) (.slice (some ⟨b1,o1,sp⟩) 0 0) x listed 4 (a.tmps.getD 37 undef) w1:=hdep.at 4 37 (by kernel_rfl)
       obtain ⟨b6,h39,hb6,hbx⟩:PtR w.heap.size l (.slice (some ⟨b1,o1,sp⟩) cap cap) cap (.slice (some ⟨b1,o1,sp⟩) cap cap) (.slice (some ⟨b1,o1,sp⟩) 0 0) x listed 6 (a.tmps.getD 39 undef) w1:=hdep.at 6 39 (by kernel_rfl)
       have hd4:listed.getD 4 false=true:=listed_dep hld 4 (by kernel_rfl)
       have hl7:(listed.setIfInBounds 7 true).getD 7 false=true:=by simp[hli]
       have hro:=hrow hun
       refine wp_append_ints (ops:=#[]) rfl (.tmp 37) (.tmp 39) rfl w.heap.size w1.heap.size (a.tmps.getD 37 undef) (l.take cap) [x] rfl hro (some ⟨b6,0,none⟩) 1 1 h39 (slI_one (hbx hun) HX.out) (by have:=HLK.out;simp only[List.length_singleton];omega) hz ?_
       intro v' w' hown hgr
       have ht:Turned (fun b=>(a.tmps.getD 37 undef).ownBlock=some b) w1 w':=Turned.grown hgr fun b hb=>hb
       refine ⟨_,rfl,⟨row_form hown,fun _=>hown⟩,⟨hph.below.trans (ht.below (fun b e=>(hro.lt b e).1) hz),(fun _=>by rw[getD_set_ne false (by decide)];exact hd4),(fun _=>hl7)⟩,fun j u hj hl h=>?_⟩
       match j,hj with
       | 0,_=>
        obtain ⟨b,h1,h2,_⟩:=h
        exact ⟨b,h1,h2,fun g=>by rw[getD_set_ne false (by decide),hd4] at g;cases g⟩
       | 1,_=>exact h
       | 2,_=>exact h
       | 3,_=>exact h
       | 4,_=>exact ⟨h.1,fun g=>by rw[hl7] at g;cases g⟩
       | 5,_=>exact h
       | 6,_=>
        obtain ⟨b,h1,h2,_⟩:=h
        exact ⟨b,h1,h2,fun g=>by rw[hl7] at g;cases g⟩
       | 8,_=>exact h
       | 9,_=>exact h
       | 10,_=>exact h
       | 11,_=>rw[hph.l11 hl] at hun;cases hun
       | j+12,_=>trivial
      | 8,_=>
       cases ho
       exact wp_moveF rfl ⟨_,rfl,hrest.at 0 (by kernel_rfl),hph.other (Below.refl _ _) (by decide) (by decide) (by decide),fun j u _ _ h=>ptR_kept h (Below.refl _ _) (fun h=>by rwa[getD_set_ne false (by decide)] at h) (fun h=>by rwa[getD_set_ne false (by decide)] at h) (fun h=>by rwa[getD_set_ne false (by decide)] at h)⟩
      | 9,_=>
       cases ho
       exact wp_moveF rfl ⟨_,rfl,hrest.at 5 (by kernel_rfl),hph.other (Below.refl _ _) (by decide) (by decide) (by decide),fun j u _ _ h=>ptR_kept h (Below.refl _ _) (fun h=>by rwa[getD_set_ne false (by decide)] at h) (fun h=>by rwa[getD_set_ne false (by decide)] at h) (fun h=>by rwa[getD_set_ne false (by decide)] at h)⟩
      | 10,_=>
       cases ho
       have h41:a.tmps.getD 41 undef=.slice (some ⟨b1,o1,sp⟩) cap cap:=hdep.at 8 41 (by kernel_rfl)
       have h42:a.tmps.getD 42 undef=.int .i64 (cap:Nat):=hdep.at 9 42 (by kernel_rfl)
       exact wp_valF (v:=.slice (some ⟨b1,o1,sp⟩) 0 0) (w':=w1) (by first | (go_simp;intro h;omega) | go_simp) ⟨_,rfl,rfl,hph.other (Below.refl _ _) (by decide) (by decide) (by decide),fun j u _ _ h=>ptR_kept h (Below.refl _ _) (fun h=>by rwa[getD_set_ne false (by decide)] at h) (fun h=>by rwa[getD_set_ne false (by decide)] at h) (fun h=>by rwa[getD_set_ne false (by decide)] at h)⟩
      | 11,_=>
       cases ho
       obtain ⟨⟨o3,n3,c3,h40⟩,hrow⟩:PtR w.heap.size l (.slice (some ⟨b1,o1,sp⟩) cap cap) cap (.slice (some ⟨b1,o1,sp⟩) cap cap) (.slice (some ⟨b1,o1,sp⟩) 0 0) x listed 7 (a.tmps.getD 40 undef) w1:=hdep.at 7 40 (by kernel_rfl)
       have h43:a.tmps.getD 43 undef=.slice (some ⟨b1,o1,sp⟩) 0 0:=hdep.at 10 43 (by kernel_rfl)
       have hd7:listed.getD 7 false=true:=listed_dep hld 7 (by kernel_rfl)
       have hl11:(listed.setIfInBounds 11 true).getD 11 false=true:=by simp[hli]
       have hro:=hrow hun
       refine wp_append_ints (ops:=#[]) rfl (.tmp 40) (.tmp 43) rfl w.heap.size B (a.tmps.getD 40 undef) (l.take cap++[x]) (l.drop cap) rfl hro (some ⟨b1,o1,sp⟩) 0 0 h43 (HDK.out.kept (hph.below.mono hB) fun _ _ _ h=>h) (by have:=HLD.out;simp only[List.length_append,List.length_singleton];omega) hz ?_
       intro v' w' hown hgr
       have ht:Turned (fun b=>(a.tmps.getD 40 undef).ownBlock=some b) w1 w':=Turned.grown hgr fun b hb=>hb
       obtain ⟨o8,n8,c8,rfl⟩:=row_form hown
       refine ⟨_,rfl,⟨_,_,_,rfl,hown⟩,⟨hph.below.trans (ht.below (fun b e=>(hro.lt b e).1) hz),(fun k=>by rw[getD_set_ne false (by decide)] at k ⊢;exact hph.l7 k),(fun _=>by rw[getD_set_ne false (by decide)];exact hd7)⟩,fun j u hj hl h=>?_⟩
       match j,hj with
       | 0,_=>
        obtain ⟨b,h1,h2,_⟩:=h
        exact ⟨b,h1,h2,fun g=>by rw[getD_set_ne false (by decide),hph.l7 hd7] at g;cases g⟩
       | 1,_=>exact h
       | 2,_=>exact h
       | 3,_=>exact h
       | 4,_=>exact ⟨h.1,fun g=>by rw[getD_set_ne false (by decide),hd7] at g;cases g⟩
       | 5,_=>exact h
       | 6,_=>
        obtain ⟨b,h1,h2,_⟩:=h
        exact ⟨b,h1,h2,fun g=>by rw[getD_set_ne false (by decide),hd7] at g;cases g⟩
       | 7,_=>exact ⟨h.1,fun g=>by rw[hl11] at g;cases g⟩
       | 8,_=>exact h
       | 9,_=>exact h
       | 10,_=>exact h
       | j+12,_=>trivial
      | i+12,hi=>exact absurd hi (by omega)
     case hend=>
      intro listed a w1 hdf hsz hls hph hval hrest
      obtain ⟨o9,n9,c9,h44,hrow⟩:PtR w.heap.size l (.slice (some ⟨b1,o1,sp⟩) cap cap) cap (.slice (some ⟨b1,o1,sp⟩) cap cap) (.slice (some ⟨b1,o1,sp⟩) 0 0) x listed 11 (a.tmps.getD 44 undef) w1:=hval 11 _ 44 (by omega) rfl rfl
      rw[h44] at hrow
      obtain ⟨f9,ha,hf⟩:=act_spellF [false,false,false,false,false,false,false,false,false,false,false,false,false,false,false,false,false,false,false,false,false,false,false,false,false,false,false,false,false,false,false,false,false,true,true,true,true,true,true,true,true,true,true,true,true] (by kernel_rfl) hdf hsz hrest
      rw[←hf] at h44
      subst ha
      have HB1:=Lib.hid hph.below
      have HRW:=Lib.hid (rowInts hrow (fun y hy=>by
       rcases List.mem_append.1 hy with hy | hy
       ·rcases List.mem_append.1 hy with hy | hy
        ·exact HV.out.i64 y (List.mem_of_mem_take hy)
        ·rw[List.mem_singleton.1 hy];exact HX.out
       ·exact HV.out.i64 y (List.mem_of_mem_drop hy)))
      clear hval hrest hf hdf hsz hls hph hrow
      simp only[spellF,h44,List.drop_succ_cons,List.drop_zero]
      go_wp2_with fail
      go_ret
      first | (refine ⟨_,_,_,rfl,_,HRW.out,?_,HB1.out⟩) | (refine ⟨_,_,_,_,rfl,HRW.out,?_,HB1.out⟩)
      simp only[List.length_append,List.length_take,List.length_drop,List.length_singleton]
      omega
    ·go_upto_region 6 with fail
     have HTK:=Lib.hid (slI_take HV.out (Nat.le_refl _))
     have HDK:=Lib.hid (show SlC w B 1 IntR (l.drop j) (.slice (some (Addr.add ⟨b1,o1,sp⟩ j)) 0 (cap-j)) from by rw[List.drop_eq_nil_of_le (by rw[←HL.out];exact Nat.le_refl _)];exact ⟨_,0,_,rfl,rfl,Nat.zero_le _,by omega,fun h=>absurd rfl h,fun i x hx=>by simp at hx⟩)
     have HD5:=Lib.hid ((Below.refl w.heap.size w).drew)
     have hlk:(l.take j).length≤4000000:=by have:=HL.out;first | (simp;omega) | simp
     have hld:(l.take j).length+(l.drop j).length≤4000000:=by have:=HL.out;first | (simp;omega) | simp
     have HLK:=Lib.hid hlk
     have HLD:=Lib.hid hld
     clear hlk hld
     refine wp_region_stL 12 (fun listed _ W=>PtP w listed W) (PtR w.heap.size l (.slice (some ⟨b1,o1,sp⟩) j cap) j (.slice (some ⟨b1,o1,sp⟩) j cap) (.slice (some (Addr.add ⟨b1,o1,sp⟩ j)) 0 (cap-j)) x) (by kernel_rfl) (by kernel_rfl) ⟨HD5.out,(fun h=>by rw[getD_replicate_false] at h;cases h),(fun h=>by rw[getD_replicate_false] at h;cases h)⟩ ?hops ?hend
     case hops=>
      intro i q8 hi ho listed a w1 hli hld hph hun hdep hrest hsz
      have hz:w.heap.size≤w1.heap.size:=hph.below.size
      match i,hi with
      | 0,_=>
       cases ho
       exact wp_valF (v:=.slice (some ⟨w1.heap.size,0,none⟩) 0 0) (w':=w1.alloc (.cells #[] 3)) (by go_simp) ⟨_,rfl,⟨_,rfl,hz,fun _=>BoxL.new rfl _ _⟩,hph.other (Below.one _ _) (by decide) (by decide) (by decide),fun j u _ _ h=>ptR_kept h (Below.one _ _) (fun h=>by rwa[getD_set_ne false (by decide)] at h) (fun h=>by rwa[getD_set_ne false (by decide)] at h) (fun h=>by rwa[getD_set_ne false (by decide)] at h)⟩
      | 1,_=>
       cases ho
       exact wp_moveF rfl ⟨_,rfl,hrest.at 0 (by kernel_rfl),hph.other (Below.refl _ _) (by decide) (by decide) (by decide),fun j u _ _ h=>ptR_kept h (Below.refl _ _) (fun h=>by rwa[getD_set_ne false (by decide)] at h) (fun h=>by rwa[getD_set_ne false (by decide)] at h) (fun h=>by rwa[getD_set_ne false (by decide)] at h)⟩
      | 2,_=>
       cases ho
       exact wp_moveF rfl ⟨_,rfl,hrest.at 5 (by kernel_rfl),hph.other (Below.refl _ _) (by decide) (by decide) (by decide),fun j u _ _ h=>ptR_kept h (Below.refl _ _) (fun h=>by rwa[getD_set_ne false (by decide)] at h) (fun h=>by rwa[getD_set_ne false (by decide)] at h) (fun h=>by rwa[getD_set_ne false (by decide)] at h)⟩
      | 3,_=>
       cases ho
       have h34:a.tmps.getD 34 undef=.slice (some ⟨b1,o1,sp⟩) j cap:=hdep.at 1 34 (by kernel_rfl)
       have h35:a.tmps.getD 35 undef=.int .i64 (j:Nat):=hdep.at 2 35 (by kernel_rfl)
       exact wp_valF (v:=.slice (some ⟨b1,o1,sp⟩) j cap) (w':=w1) (by first | (go_simp;intro h;omega) | go_simp) ⟨_,rfl,rfl,hph.other (Below.refl _ _) (by decide) (by decide) (by decide),fun j u _ _ h=>ptR_kept h (Below.refl _ _) (fun h=>by rwa[getD_set_ne false (by decide)] at h) (fun h=>by rwa[getD_set_ne false (by decide)] at h) (fun h=>by rwa[getD_set_ne false (by decide)] at h)⟩
      | 4,_=>
       cases ho
       obtain ⟨b0,h33,hb0,hx0⟩:PtR w.heap.size l (.slice (some ⟨b1,o1,sp⟩) j cap) j (.slice (some ⟨b1,o1,sp⟩) j cap) (.slice (some (Addr.add ⟨b1,o1,sp⟩ j)) 0 (cap-j)) x listed 0 (a.tmps.getD 33 undef) w1:=hdep.at 0 33 (by kernel_rfl)
       have h36:a.tmps.getD 36 undef=.slice (some ⟨b1,o1,sp⟩) j cap:=hdep.at 3 36 (by kernel_rfl)
       have hbx:=hx0 hun
       have hl4:(listed.setIfInBounds 4 true).getD 4 false=true:=by simp[hli]
       refine wp_append_ints (ops:=#[]) rfl (.tmp 33) (.tmp 36) rfl w.heap.size B (.slice (some ⟨b0,0,none⟩) 0 0) [] (l.take j) h33 (row_empty hbx hb0) (some ⟨b1,o1,sp⟩) j cap h36 (HTK.out.kept (hph.below.mono hB) fun _ _ _ h=>h) (by have:=HLK.out;simp only[List.length_nil];omega) hz ?_
       intro v' w' hown hgr
       have ht:Turned (fun b=>b=b0) w1 w':=Turned.grown hgr fun b hb=>by simp only[Value.ownBlock,Option.some.injEq] at hb;exact hb.symm
       refine ⟨_,rfl,⟨row_form hown,fun _=>by simpa using hown⟩,⟨hph.below.trans (ht.below (fun b e=>by omega) hz),(fun _=>hl4),(fun k=>by rw[getD_set_ne false (by decide)] at k ⊢;exact hph.l11 k)⟩,fun j u hj hl h=>?_⟩
       match j,hj with
       | 0,_=>
        obtain ⟨b,h1,h2,_⟩:=h
        exact ⟨b,h1,h2,fun g=>by rw[hl4] at g;cases g⟩
       | 1,_=>exact h
       | 2,_=>exact h
       | 3,_=>exact h
       | 5,_=>exact h
       | 6,_=>
        obtain ⟨b,h1,h2,h3⟩:=h
        refine ⟨b,h1,h2,fun g=>?_⟩
        have g3:=h3 (by rwa[getD_set_ne false (by decide)] at g)
        exact ht.box g3 fun e=>by subst e;exact box_two g3 hbx
       | 7,_=>rw[hph.l7 hl] at hun;cases hun
       | 8,_=>exact h
       | 9,_=>exact h
       | 10,_=>exact h
       | 11,_=>rw[hph.l7 (hph.l11 hl)] at hun;cases hun
       | j+12,_=>trivial
      | 5,_=>
       cases ho
       exact wp_moveF rfl ⟨_,rfl,hrest.at 1 (by kernel_rfl),hph.other (Below.refl _ _) (by decide) (by decide) (by decide),fun j u _ _ h=>ptR_kept h (Below.refl _ _) (fun h=>by rwa[getD_set_ne false (by decide)] at h) (fun h=>by rwa[getD_set_ne false (by decide)] at h) (fun h=>by rwa[getD_set_ne false (by decide)] at h)⟩
      | 6,_=>
       cases ho
       have h38:a.tmps.getD 38 undef=.int .i64 x:=hdep.at 5 38 (by kernel_rfl)
       exact wp_bsR rfl h38 (run_bsI w1 x) ⟨_,rfl,⟨_,rfl,hz,fun _=>BoxL.new rfl _ _⟩,hph.other (Below.one _ _) (by decide) (by decide) (by decide),fun j u _ _ h=>ptR_kept h (Below.one _ _) (fun h=>by rwa[getD_set_ne false (by decide)] at h) (fun h=>by rwa[getD_set_ne false (by decide)] at h) (fun h=>by rwa[getD_set_ne false (by decide)] at h)⟩
      | 7,_=>
       cases ho
       obtain ⟨⟨o3,n3,c3,h37⟩,hrow⟩:PtR w.heap.size l (.slice (some ⟨b1,o1,sp⟩) j cap) j (.slice (some ⟨b1,o1,sp⟩) j cap) (.slice (some (Addr.add ⟨b1,o1,sp⟩ j)) 0 (cap-j)) x listed 4 (a.tmps.getD 37 undef) w1:=hdep.at 4 37 (by kernel_rfl)
       obtain ⟨b6,h39,hb6,hbx⟩:PtR w.heap.size l (.slice (some ⟨b1,o1,sp⟩) j cap) j (.slice (some ⟨b1,o1,sp⟩) j cap) (.slice (some (Addr.add ⟨b1,o1,sp⟩ j)) 0 (cap-j)) x listed 6 (a.tmps.getD 39 undef) w1:=hdep.at 6 39 (by kernel_rfl)
       have hd4:listed.getD 4 false=true:=listed_dep hld 4 (by kernel_rfl)
       have hl7:(listed.setIfInBounds 7 true).getD 7 false=true:=by simp[hli]
       have hro:=hrow hun
       refine wp_append_ints (ops:=#[]) rfl (.tmp 37) (.tmp 39) rfl w.heap.size w1.heap.size (a.tmps.getD 37 undef) (l.take j) [x] rfl hro (some ⟨b6,0,none⟩) 1 1 h39 (slI_one (hbx hun) HX.out) (by have:=HLK.out;simp only[List.length_singleton];omega) hz ?_
       intro v' w' hown hgr
       have ht:Turned (fun b=>(a.tmps.getD 37 undef).ownBlock=some b) w1 w':=Turned.grown hgr fun b hb=>hb
       refine ⟨_,rfl,⟨row_form hown,fun _=>hown⟩,⟨hph.below.trans (ht.below (fun b e=>(hro.lt b e).1) hz),(fun _=>by rw[getD_set_ne false (by decide)];exact hd4),(fun _=>hl7)⟩,fun j u hj hl h=>?_⟩
       match j,hj with
       | 0,_=>
        obtain ⟨b,h1,h2,_⟩:=h
        exact ⟨b,h1,h2,fun g=>by rw[getD_set_ne false (by decide),hd4] at g;cases g⟩
       | 1,_=>exact h
       | 2,_=>exact h
       | 3,_=>exact h
       | 4,_=>exact ⟨h.1,fun g=>by rw[hl7] at g;cases g⟩
       | 5,_=>exact h
       | 6,_=>
        obtain ⟨b,h1,h2,_⟩:=h
        exact ⟨b,h1,h2,fun g=>by rw[hl7] at g;cases g⟩
       | 8,_=>exact h
       | 9,_=>exact h
       | 10,_=>exact h
       | 11,_=>rw[hph.l11 hl] at hun;cases hun
       | j+12,_=>trivial
      | 8,_=>
       cases ho
       exact wp_moveF rfl ⟨_,rfl,hrest.at 0 (by kernel_rfl),hph.other (Below.refl _ _) (by decide) (by decide) (by decide),fun j u _ _ h=>ptR_kept h (Below.refl _ _) (fun h=>by rwa[getD_set_ne false (by decide)] at h) (fun h=>by rwa[getD_set_ne false (by decide)] at h) (fun h=>by rwa[getD_set_ne false (by decide)] at h)⟩
      | 9,_=>
       cases ho
       exact wp_moveF rfl ⟨_,rfl,hrest.at 5 (by kernel_rfl),hph.other (Below.refl _ _) (by decide) (by decide) (by decide),fun j u _ _ h=>ptR_kept h (Below.refl _ _) (fun h=>by rwa[getD_set_ne false (by decide)] at h) (fun h=>by rwa[getD_set_ne false (by decide)] at h) (fun h=>by rwa[getD_set_ne false (by decide)] at h)⟩
      | 10,_=>
       cases ho
       have h41:a.tmps.getD 41 undef=.slice (some ⟨b1,o1,sp⟩) j cap:=hdep.at 8 41 (by kernel_rfl)
       have h42:a.tmps.getD 42 undef=.int .i64 (j:Nat):=hdep.at 9 42 (by kernel_rfl)
       exact wp_valF (v:=.slice (some (Addr.add ⟨b1,o1,sp⟩ j)) 0 (cap-j)) (w':=w1) (by first | (go_simp;skip) | go_simp) ⟨_,rfl,rfl,hph.other (Below.refl _ _) (by decide) (by decide) (by decide),fun j u _ _ h=>ptR_kept h (Below.refl _ _) (fun h=>by rwa[getD_set_ne false (by decide)] at h) (fun h=>by rwa[getD_set_ne false (by decide)] at h) (fun h=>by rwa[getD_set_ne false (by decide)] at h)⟩
      | 11,_=>
       cases ho
       obtain ⟨⟨o3,n3,c3,h40⟩,hrow⟩:PtR w.heap.size l (.slice (some ⟨b1,o1,sp⟩) j cap) j (.slice (some ⟨b1,o1,sp⟩) j cap) (.slice (some (Addr.add ⟨b1,o1,sp⟩ j)) 0 (cap-j)) x listed 7 (a.tmps.getD 40 undef) w1:=hdep.at 7 40 (by kernel_rfl)
       have h43:a.tmps.getD 43 undef=.slice (some (Addr.add ⟨b1,o1,sp⟩ j)) 0 (cap-j):=hdep.at 10 43 (by kernel_rfl)
       have hd7:listed.getD 7 false=true:=listed_dep hld 7 (by kernel_rfl)
       have hl11:(listed.setIfInBounds 11 true).getD 11 false=true:=by simp[hli]
       have hro:=hrow hun
       refine wp_append_ints (ops:=#[]) rfl (.tmp 40) (.tmp 43) rfl w.heap.size B (a.tmps.getD 40 undef) (l.take j++[x]) (l.drop j) rfl hro (some (Addr.add ⟨b1,o1,sp⟩ j)) 0 (cap-j) h43 (HDK.out.kept (hph.below.mono hB) fun _ _ _ h=>h) (by have:=HLD.out;simp only[List.length_append,List.length_singleton];omega) hz ?_
       intro v' w' hown hgr
       have ht:Turned (fun b=>(a.tmps.getD 40 undef).ownBlock=some b) w1 w':=Turned.grown hgr fun b hb=>hb
       obtain ⟨o8,n8,c8,rfl⟩:=row_form hown
       refine ⟨_,rfl,⟨_,_,_,rfl,hown⟩,⟨hph.below.trans (ht.below (fun b e=>(hro.lt b e).1) hz),(fun k=>by rw[getD_set_ne false (by decide)] at k ⊢;exact hph.l7 k),(fun _=>by rw[getD_set_ne false (by decide)];exact hd7)⟩,fun j u hj hl h=>?_⟩
       match j,hj with
       | 0,_=>
        obtain ⟨b,h1,h2,_⟩:=h
        exact ⟨b,h1,h2,fun g=>by rw[getD_set_ne false (by decide),hph.l7 hd7] at g;cases g⟩
       | 1,_=>exact h
       | 2,_=>exact h
       | 3,_=>exact h
       | 4,_=>exact ⟨h.1,fun g=>by rw[getD_set_ne false (by decide),hd7] at g;cases g⟩
       | 5,_=>exact h
       | 6,_=>
        obtain ⟨b,h1,h2,_⟩:=h
        exact ⟨b,h1,h2,fun g=>by rw[getD_set_ne false (by decide),hd7] at g;cases g⟩
       | 7,_=>exact ⟨h.1,fun g=>by rw[hl11] at g;cases g⟩
       | 8,_=>exact h
       | 9,_=>exact h
       | 10,_=>exact h
       | j+12,_=>trivial
      | i+12,hi=>exact absurd hi (by omega)
     case hend=>
      intro listed a w1 hdf hsz hls hph hval hrest
      obtain ⟨o9,n9,c9,h44,hrow⟩:PtR w.heap.size l (.slice (some ⟨b1,o1,sp⟩) j cap) j (.slice (some ⟨b1,o1,sp⟩) j cap) (.slice (some (Addr.add ⟨b1,o1,sp⟩ j)) 0 (cap-j)) x listed 11 (a.tmps.getD 44 undef) w1:=hval 11 _ 44 (by omega) rfl rfl
      rw[h44] at hrow
      obtain ⟨f9,ha,hf⟩:=act_spellF [false,false,false,false,false,false,false,false,false,false,false,false,false,false,false,false,false,false,false,false,false,false,false,false,false,false,false,false,false,false,false,false,false,true,true,true,true,true,true,true,true,true,true,true,true] (by kernel_rfl) hdf hsz hrest
      rw[←hf] at h44
      subst ha
      have HB1:=Lib.hid hph.below
      have HRW:=Lib.hid (rowInts hrow (fun y hy=>by
       rcases List.mem_append.1 hy with hy | hy
       ·rcases List.mem_append.1 hy with hy | hy
        ·exact HV.out.i64 y (List.mem_of_mem_take hy)
        ·rw[List.mem_singleton.1 hy];exact HX.out
       ·exact HV.out.i64 y (List.mem_of_mem_drop hy)))
      clear hval hrest hf hdf hsz hls hph hrow
      simp only[spellF,h44,List.drop_succ_cons,List.drop_zero]
      go_wp2_with fail
      go_ret
      first | (refine ⟨_,_,_,rfl,_,HRW.out,?_,HB1.out⟩) | (refine ⟨_,_,_,_,rfl,HRW.out,?_,HB1.out⟩)
      simp only[List.length_append,List.length_take,List.length_drop,List.length_singleton]
      omega
end
end Go.Proofs.YtgbibibmpoekiaaGreatDoor
