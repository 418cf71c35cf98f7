/- .. -/
import Derived.Lib.FrozenHead
import Derived.Lib.FrozenHead2
import Derived.Lib.OthersKept
import Derived.Laws.Externs
import Derived.Deep.LoopGhost
import Derived.Deep.Cut
import Derived.Deep.CutRange
import Derived.OwnWalk
import Derived.Test.YtdcajmeeeoofgaaGreatDoorFmbA03
open Go.Proofs.Tryz
set_option maxRecDepth 100000
set_option maxHeartbeats 16000000
namespace Go.Proofs.YtdcajmeeeoofgaaGreatDoor
section
open Go.RowKit Go.Deep Go.ChangeShapes Go.WideShapes Go.ChangeAt
def InsR (w:World) (B:Nat) (x:Ins) (cs:List Value):Prop:=
 ∃sl,cs=[.int .i64 x.op,.int .i64 x.d,.int .i64 x.a,.int .i64 x.b,sl]∧(-9223372036854775808≤x.op∧x.op≤9223372036854775807)∧(-9223372036854775808≤x.d∧x.d≤9223372036854775807) ∧
  (-9223372036854775808≤x.a∧x.a≤9223372036854775807)∧(-9223372036854775808≤x.b∧x.b≤9223372036854775807)∧SlC w B 1 IntR x.l sl
def IntsR (w:World) (B:Nat) (l:List Int) (cs:List Value):Prop:=∃sl,cs=[sl]∧SlC w B 1 IntR l sl
def ProcR (w:World) (B:Nat) (p:Proc) (cs:List Value):Prop:=
 ∃sl al,cs=[.int .i64 p.args,.bool p.rest,.int .i64 p.regs,sl,al]∧(-9223372036854775808≤p.args∧p.args≤9223372036854775807)∧(-9223372036854775808≤p.regs∧p.regs≤9223372036854775807) ∧
  SlC w B 5 (InsR w B) p.code sl∧SlC w B 1 (IntsR w B) p.alive al
def UntR (w:World) (B:Nat) (u:Unt) (v:Value):Prop:=∃c p,v=.agg #[c,p]∧RepS w B u.consts c∧SlC w B 5 (ProcR w B) u.procs p
theorem InsR.kept {w w':World} {B:Nat} {x:Ins} {cs:List Value} (h:InsR w B x cs) (hb:Below B w w'):InsR w' B x cs:=by
 obtain ⟨sl,h0,h1,h2,h3,h4,h5⟩:=h
 exact ⟨sl,h0,h1,h2,h3,h4,h5.kept hb fun _ _ _ h=>h⟩
theorem InsR.wider {w:World} {B B':Nat} {x:Ins} {cs:List Value} (h:InsR w B x cs) (hB:B≤B'):InsR w B' x cs:=by
 obtain ⟨sl,h0,h1,h2,h3,h4,h5⟩:=h
 exact ⟨sl,h0,h1,h2,h3,h4,h5.wider hB⟩
theorem IntsR.kept {w w':World} {B:Nat} {l:List Int} {cs:List Value} (h:IntsR w B l cs) (hb:Below B w w'):IntsR w' B l cs:=by
 obtain ⟨sl,h0,h1⟩:=h
 exact ⟨sl,h0,h1.kept hb fun _ _ _ h=>h⟩
theorem IntsR.wider {w:World} {B B':Nat} {l:List Int} {cs:List Value} (h:IntsR w B l cs) (hB:B≤B'):IntsR w B' l cs:=by
 obtain ⟨sl,h0,h1⟩:=h
 exact ⟨sl,h0,h1.wider hB⟩
theorem SlC.imp {α:Type} {w:World} {B size:Nat} {R R':α→List Value→Prop} {l:List α} {v:Value} (h:SlC w B size R l v) (hR:∀x∈l,∀cs,R x cs→R' x cs):SlC w B size R' l v:=h.kept (Below.refl _ _) hR
theorem zfG {w w':World} {B:Nat} {l:List Ins} {v:Value} (h:SlC w B 5 (InsR w B) l v) (hb:Below B w w'):SlC w' B 5 (InsR w' B) l v:=h.kept hb fun _ _ _ h=>h.kept hb
theorem zcT {w:World} {B B':Nat} {l:List Ins} {v:Value} (h:SlC w B 5 (InsR w B) l v) (hB:B≤B'):SlC w B' 5 (InsR w B') l v:=(h.wider hB).imp fun _ _ _ h=>h.wider hB
theorem ProcR.kept {w w':World} {B:Nat} {x:Proc} {cs:List Value} (h:ProcR w B x cs) (hb:Below B w w'):ProcR w' B x cs:=by
 obtain ⟨sl,al,h0,h1,h2,h3,h4⟩:=h
 exact ⟨sl,al,h0,h1,h2,zfG h3 hb,h4.kept hb fun _ _ _ h=>h.kept hb⟩
theorem ProcR.wider {w:World} {B B':Nat} {x:Proc} {cs:List Value} (h:ProcR w B x cs) (hB:B≤B'):ProcR w B' x cs:=by
 obtain ⟨sl,al,h0,h1,h2,h3,h4⟩:=h
 exact ⟨sl,al,h0,h1,h2,zcT h3 hB,(h4.wider hB).imp fun _ _ _ h=>h.wider hB⟩
theorem zeU {w w':World} {B:Nat} {l:List Proc} {v:Value} (h:SlC w B 5 (ProcR w B) l v) (hb:Below B w w'):SlC w' B 5 (ProcR w' B) l v:=h.kept hb fun _ _ _ h=>h.kept hb
theorem zez {w:World} {B B':Nat} {l:List Proc} {v:Value} (h:SlC w B 5 (ProcR w B) l v) (hB:B≤B'):SlC w B' 5 (ProcR w B') l v:=(h.wider hB).imp fun _ _ _ h=>h.wider hB
theorem UntR.kept {w w':World} {B:Nat} {u:Unt} {v:Value} (h:UntR w B u v) (hb:Below B w w'):UntR w' B u v:=by
 obtain ⟨c,p,h0,h1,h2⟩:=h
 exact ⟨c,p,h0,h1.kept hb,zeU h2 hb⟩
theorem UntR.wider {w:World} {B B':Nat} {u:Unt} {v:Value} (h:UntR w B u v) (hB:B≤B'):UntR w B' u v:=by
 obtain ⟨c,p,h0,h1,h2⟩:=h
 exact ⟨c,p,h0,h1.wider hB,zez h2 hB⟩
def CellsG {α:Type} (size:Nat) (R:α→List Value→Prop):List α→List Value→Prop
 | [],xs=>xs=[]
 | x::l,xs=>∃cs r,xs=cs++r∧cs.length=size∧R x cs∧CellsG size R l r
theorem CellsG.length {α:Type} {size:Nat} {R:α→List Value→Prop}:∀{l:List α} {xs:List Value},CellsG size R l xs→xs.length=l.length*size
 | [],_,h=>by rw[CellsG] at h;rw[h];simp
 | _::l,_,⟨cs,r,he,hs,_,hr⟩=>by rw[he,List.length_append,hs,hr.length,List.length_cons,Nat.add_mul];omega
theorem CellsG.mono {α:Type} {size:Nat} {R R':α→List Value→Prop}:∀{l:List α} {xs:List Value},CellsG size R l xs→(∀x∈l,∀cs,R x cs→R' x cs)→CellsG size R' l xs
 | [],_,h,_=>h
 | x::l,_,⟨cs,r,he,hs,hx,hr⟩,hk=>⟨cs,r,he,hs,hk x (by simp) _ hx,hr.mono fun y hy=>hk y (by simp[hy])⟩
theorem CellsG.snoc {α:Type} {size:Nat} {R:α→List Value→Prop} {x:α} {cs:List Value} (hs:cs.length=size) (hx:R x cs):∀{l:List α} {xs:List Value},CellsG size R l xs→CellsG size R (l++[x]) (xs++cs)
 | [],_,h=>by rw[CellsG] at h;subst h;exact ⟨cs,[],by simp,hs,hx,rfl⟩
 | _::l,_,⟨cs',r,he,hs',hx',hr⟩=>⟨cs',r++cs,by rw[he,List.append_assoc],hs',hx',hr.snoc hs hx⟩
theorem CellsG.at {α:Type} {size:Nat} {R:α→List Value→Prop}:∀{l:List α} {xs:List Value} {i:Nat} {x:α},CellsG size R l xs→l[i]?=some x→∃cs,cs.length=size∧R x cs∧∀j u,cs[j]?=some u→xs[i*size+j]?=some u
 | [],_,i,x,_,hx=>by simp at hx
 | y::l,xs,0,x,⟨cs,r,he,hs,hy,hr⟩,hx=>by
  simp only[List.getElem?_cons_zero,Option.some.injEq] at hx
  subst hx
  refine ⟨cs,hs,hy,fun j u hj=>?_⟩
  have:=(List.getElem?_eq_some_iff.1 hj).1
  rw[he,Nat.zero_mul,Nat.zero_add,List.getElem?_append_left this]
  exact hj
 | y::l,xs,i+1,x,⟨cs,r,he,hs,hy,hr⟩,hx=>by
  obtain ⟨cs',h1,h2,h3⟩:=hr.at (i:=i) (by simpa using hx)
  refine ⟨cs',h1,h2,fun j u hj=>?_⟩
  rw[he,List.getElem?_append_right (by rw[hs,Nat.add_mul];omega),hs,show (i+1)*size+j-size=i*size+j by rw[Nat.add_mul];omega]
  exact h3 j u hj
theorem za0 {α:Type} {w:World} {base size:Nat} {te:TypeId} {R:α→List Value→Prop} {v:Value} {l:List α} {xs:List Value} (hown:w.ownsRow base te size v l.length xs) (hc:CellsG size R l xs):SlC w w.heap.size size R l v:=by
 rcases hown.2 with ⟨hv,h0⟩ | ⟨g,cap,cur,hv,hb,hg,hle,hm,hsz,htk⟩
 ·have:l=[]:=List.eq_nil_of_length_eq_zero h0
  subst this
  exact ⟨none,0,0,hv,rfl,by omega,by omega,rfl,rfl⟩
 ·have hlt:=(Array.getElem?_eq_some_iff.1 hg).1
  refine ⟨some ⟨g,0,none⟩,l.length,cap,hv,rfl,hle,by unfold maxLen at hm;omega,fun _=>⟨rfl,hlt⟩,?_⟩
  intro i x hx
  obtain ⟨cs,h1,h2,h3⟩:=hc.at hx
  refine ⟨cs,h1,fun j u hj=>?_,h2⟩
  have:=h3 j u hj
  rw[←htk,List.getElem?_take] at this
  split at this
  ·unfold World.cell?
   simp only[hg,Nat.zero_add]
   simpa using this
  ·cases this
theorem zaS (w:World) (cs:List Value) (t:TypeId):∀(j:Nat) (u:Value),cs[j]?=some u→(w.alloc (.cells cs.toArray t)).cell? ((⟨w.heap.size,0,none⟩:Addr).add j)=some u:=by
 intro j u hj
 have e:(⟨w.heap.size,0,none⟩:Addr).add j=⟨w.heap.size,j,none⟩:=by unfold Addr.add;split<;>simp_all
 rw[e]
 exact zbf w _ t j (by simpa using hj)
section
variable {H : Type} {enc : TypeId × Value → H}
theorem zcm {w:World} (fuel:Nat) (c4:Value) (x4:DataW H × List MemPlace) (g4:DataW.trod enc prog w 0 (fun _=>true) true fuel 24 [c4]=some x4) (w4:∀n∈x4.1.weights prog 24,n≤reachBytes):∃l:List Int,SlC w w.heap.size 1 IntR l c4:=
 zcA (te:=3) (bs:=8) underlying24 (by kernel_rfl) (by kernel_rfl) (by omega) (by omega) (fun n' cs' y hy _=>by
  obtain ⟨k,e0,_,w0⟩:=DataW.trod_int underlying3 hy
  exact ⟨k,e0,zio w0⟩) fuel c4 x4 g4 w4
end
end
section
open Go
section
variable {P : Program} {ops : Array Oper} {md : Region.Mode}
def backB (md:Region.Mode) (ops:Array Oper):Bool:=(List.range ops.size).all fun i=>((ops[i]?).map (·.after.all fun e=>!Region.binds md e || decide (e.on<i))).getD true
theorem zcO {n:Nat} {listed:Array Bool} (hb:backB md ops=true) (hs:listed.size=ops.size) (h:∃i,i<n∧i<ops.size∧listed.getD i true=false):Region.ready md ops listed≠[]:=by
 obtain ⟨i,hi⟩:=h
 induction i using Nat.strongRecOn with
 | _ i ih=>
  by_cases hr:i∈Region.ready md ops listed
  ·intro h0;rw[h0] at hr;cases hr
  ·obtain ⟨o,ho⟩:∃o,ops[i]?=some o:=⟨_,Array.getElem?_eq_getElem hi.2.1⟩
   have:∃e∈o.after,Region.binds md e=true∧listed.getD e.on false=false:=by
    apply Classical.byContradiction
    intro hn
    exact hr (mem_ready.2 ⟨hi.2.2,o,ho,fun e he hb'=>by
     cases hl:listed.getD e.on false with
     | true=>rfl
     | false=>exact absurd ⟨e,he,hb',hl⟩ hn⟩)
   obtain ⟨e,he,hbe,hl⟩:=this
   have hlt:e.on<i:=by
    have:=List.all_eq_true.1 hb i (List.mem_range.2 hi.2.1)
    rw[ho] at this
    simp only[Option.map_some,Option.getD_some] at this
    have:=Array.all_eq_true_iff_forall_mem.1 this e he
    simpa[hbe] using this
   exact ih e.on hlt ⟨by omega,by omega,getD_in (by rw[hs];omega) hl⟩
theorem zgN {n g:Nat} {I:Array Bool→Act→World→Prop} {Q:Exit→Act→World→Prop} (hb:backB md ops=true) (hs:Region.sinkB md ops n=true) (hc:Region.chainB md ops n=true) (hn:n<ops.size)
  (hstep:∀listed a w i,I listed a w→i<n→i∈Region.ready md ops listed→wpOp P ops Q i (fun a' w'=>I (listed.setIfInBounds i true) a' w') a w)
  (hend:∀listed a w,I listed a w→HeadInv md ops n listed→(∀i,i<n→listed.getD i true=true)→wpAny P md ops Q g listed a w) :
  ∀(f:Nat) (listed:Array Bool) (a:Act) (w:World),((List.range n).filter fun i=>!listed.getD i true).length=f→HeadInv md ops n listed→I listed a w→wpAny P md ops Q (f+g) listed a w
 | 0,listed,a,w,hf,inv,h=>by
  rw[Nat.zero_add]
  refine hend listed a w h inv fun i hi=>?_
  have h0:=List.eq_nil_of_length_eq_zero hf
  rw[List.filter_eq_nil_iff] at h0
  have:=h0 i (List.mem_range.2 hi)
  simpa using this
 | f+1,listed,a,w,hf,inv,h=>by
  rw[show f+1+g=(f+g)+1 by omega]
  have hex:∃i,i<n∧i<ops.size∧listed.getD i true=false:=by
   obtain ⟨i,hi⟩:=List.exists_mem_of_length_pos (by rw[hf];omega)
   rw[List.mem_filter,List.mem_range] at hi
   exact ⟨i,hi.1,by omega,by simpa using hi.2⟩
  refine ⟨fun h0=>absurd h0 (zcO hb inv.size hex),fun i hi=>?_⟩
  have hin:i<n:=by
   rcases Nat.lt_or_ge i n with h' | h'
   ·exact h'
   ·obtain ⟨j,hj,_,hjl⟩:=hex
    exact absurd hi (tail_waits hs hc hn inv _ j rfl hj hjl i h')
  refine wpOp_mono (fun a' w' h'=>zgN hb hs hc hn hstep hend f _ a' w' ?_ (inv.set hi hin) h') (hstep listed a w i h hin hi)
  have hun:=(mem_ready.1 hi).1
  have hlt:i<listed.size:=by rw[inv.size];omega
  have e:((List.range n).filter fun k=>!listed.getD k true)=((List.range n).filter fun k=>!listed.getD k true):=rfl
  have key:((List.range n).filter fun k=>!(listed.setIfInBounds i true).getD k true)=(((List.range n).filter fun k=>!listed.getD k true)).erase i:=by
   rw[List.Nodup.erase_eq_filter (List.nodup_range.sublist List.filter_sublist),List.filter_filter]
   apply List.filter_congr
   intro k hk
   by_cases hki:k=i
   ·subst hki
    simp[hlt]
   ·rw[getD_set_ne true (Ne.symm hki)]
    simp[hki]
  rw[key,List.length_erase_of_mem (by rw[List.mem_filter,List.mem_range];exact ⟨hin,by simpa using hun⟩),hf]
  rfl
def slotsB (ops:Array Oper) (n m:Nat):Bool:=(List.range n).all fun i=>(List.range n).all fun j=>match ops[i]?,ops[j]? with
 | some oi,some oj=>(match oi.dst,oj.dst with | some d,some e=>decide (d<m)&&(decide (i=j) || decide (d≠e)) | _,_=>true)
 | _,_=>true
def guardsB (md:Region.Mode) (ops:Array Oper) (n m:Nat) (gs:List Nat):Bool:=(List.range n).all fun i=>match ops[i]? with
 | some oi=>(match oi.guard with
  | none=>true
  | some (g,b)=>b&&(gs.contains g&&(decide (g<n)&&((match ops[g]? with | some og=>(match og.dst with | some d=>decide (d<m) | none=>false) | none=>false)&&oi.after.any fun e=>Region.binds md e&&e.on==g))))
 | none=>true
theorem zbE {a:Act} {d t:Nat} {v:Value} (hd:d<a.tmps.size):(a.put (some d) v).tmps.getD t undef=if d=t then v else a.tmps.getD t undef:=by
 show (a.tmps.setIfInBounds d v).getD t undef=_
 by_cases h:d=t
 ·subst h
  simp[hd]
 ·rw[if_neg h]
  simp[Array.getElem?_setIfInBounds_ne h]
theorem zhW {n m:Nat} {gs:List Nat} {R:Nat→Value→World→Prop} {a:Act} {w:World} {i:Nat} {o:Oper} (hgd:guardsB md ops n m gs=true) (hG:∀g∈gs,∀v w,R g v w→v=.bool true) (hi:i<n) (ho:ops[i]?=some o) (hm:m≤a.tmps.size)
  (hdep:∀j oj d,j<n→ops[j]?=some oj→(∃e∈o.after,Region.binds md e=true∧e.on=j)→oj.dst=some d→R j (a.tmps.getD d undef) w):Region.wanted o (yielded ops a.tmps)=true:=by
 have h1:=List.all_eq_true.1 hgd i (List.mem_range.2 hi)
 simp only[ho] at h1
 unfold Region.wanted
 cases hg:o.guard with
 | none=>rfl
 | some p=>
  obtain ⟨g,b⟩:=p
  rw[hg] at h1
  simp only[Bool.and_eq_true,decide_eq_true_eq] at h1
  obtain ⟨rfl,h2,h3,h4,h5⟩:=h1
  cases hog:ops[g]? with
  | none=>rw[hog] at h4;cases h4
  | some og=>
   rw[hog] at h4
   simp only at h4
   cases hd:og.dst with
   | none=>rw[hd] at h4;cases h4
   | some d=>
    rw[hd] at h4
    simp only[decide_eq_true_eq] at h4
    rw[Array.any_eq_true'] at h5
    obtain ⟨e,he,hb⟩:=h5
    simp only[Bool.and_eq_true,beq_iff_eq] at hb
    have hv:=hG g (List.contains_iff_mem.1 h2) _ _ (hdep g og d h3 hog ⟨e,he,hb.1,hb.2⟩ hd)
    have hlt:d<a.tmps.size:=Nat.lt_of_lt_of_le h4 hm
    have hv2:a.tmps[d]?=some (.bool true):=by
     rw[Array.getElem?_eq_getElem hlt]
     simpa[Array.getD,hlt] using hv
    simp[yielded,hog,hd,hv2]
theorem zgE {o:Oper} {a:Act} {w:World} {K:Act→World→Prop} {Q:Exit→Act→World→Prop} (h:o.wp P a w K (fun _ _ _=>False)):o.wp P a w K Q:=by
  unfold Oper.wp at *
  generalize (execOp a.eval o).run P w=r at *
  cases r with
  | ok n w'=>
    cases n<;>simp only[Oper.upon] at h ⊢ <;>
      first
        | exact h
        | (refine Calls.mono h (fun e w'' he=>?_)
           cases e with
           | returned v=>exact he
           | panicked c=>exact he.elim
           | outgrown=>obtain ⟨_,_,hf⟩:=he;exact hf.elim)
  | halt x w'=>cases x<;>simp only[Oper.upon] at h ⊢<;>exact h.elim
theorem zbn {o:Oper} {a:Act} {w:World} {K:Act→World→Prop} {Q:Exit→Act→World→Prop} (hg:Region.wanted o (yielded ops a.tmps)=true)
    (h:wpList P ops (fun e a' w'=>e=.normal∧K a' w') [o] a w):o.wp P a w K Q:=by
  unfold wpList at h
  rw[if_pos hg] at h
  rcases h with h | ⟨_,_,_,hf,_⟩
  · refine zgE (Oper.wp_mono (K:=wpList P ops (fun e a' w'=>e=.normal∧K a' w') []) (fun a' w' h'=>(show (Exit.normal=Exit.normal∧K a' w') from h').2) ?_)
    have h2:o.wp P a w (wpList P ops (fun e a' w'=>e=.normal∧K a' w') []) (fun e a' w'=>e=.normal∧K a' w'):=h
    clear h
    unfold Oper.wp at *
    generalize (execOp a.eval o).run P w=r at *
    cases r with
    | ok n w'=>
      cases n<;>simp only[Oper.upon] at h2 ⊢ <;>
        first
          | exact h2
          | (refine Calls.mono h2 (fun e w'' he=>?_)
             cases e with
             | returned v=>exact he
             | panicked c=>cases he.1
             | outgrown=>obtain ⟨_,_,hf,_⟩:=he;cases hf)
          | exact Rows.mono h2 (fun _ _ he=>he)
    | halt x w'=>cases x<;>simp only[Oper.upon] at h2 ⊢<;>first | (cases h2.1) | exact h2
  · cases hf
def headDone (n m:Nat):Array Bool:=(List.replicate n true++List.replicate (m-n) false).toArray
theorem zeL {n:Nat} {listed:Array Bool} (hn:n<ops.size) (inv:HeadInv md ops n listed) (h:∀i,i<n→listed.getD i true=true):listed=headDone n ops.size:=by
 apply Array.ext
 ·rw[inv.size];simp[headDone];omega
 ·intro i h1 h2
  simp only[headDone,List.getElem_toArray]
  by_cases hi:i<n
  ·rw[List.getElem_append_left (by simpa using hi)]
   have:=h i hi
   simpa[h1] using this
  ·rw[List.getElem_append_right (by simpa using (by omega:n≤i))]
   have:=inv.tail i (by omega) (by rw[←inv.size];exact h1)
   simpa[h1] using this
def monoG (ops:Array Oper) (n m:Nat):Bool:=
 backB .any ops&&(Region.sinkB .any ops n&&(Region.chainB .any ops n&&(decide (n<ops.size)&&(slotsB ops n m&&Region.seqB .any ops (ops.size-n) n (headDone n ops.size)))))
def monoB (ops:Array Oper) (n m:Nat):Bool:=monoG ops n m&&guardsB .any ops n m []
def Rest (ops:Array Oper) (n:Nat) (a0 a:Act):Prop:=∀t,(∀i o,i<n→ops[i]?=some o→o.dst≠some t)→a.tmps.getD t undef=a0.tmps.getD t undef
def StepPost (R:Nat→Value→World→Prop) (Ext:World→World→Prop) (i:Nat) (o:Oper) (a:Act) (w1:World) (e:Exit) (a':Act) (w':World):Prop:=e=.normal∧∃v,a'=a.put o.dst v∧R i v w'∧Ext w1 w'
def restB (ops:Array Oper) (n t:Nat):Bool:=(List.range n).all fun i=>match ops[i]? with | some o=>o.dst != some t | none=>true
theorem Rest.at {n:Nat} {a0 a:Act} (h:Rest ops n a0 a) (t:Nat) (hB:restB ops n t=true):a.tmps.getD t undef=a0.tmps.getD t undef:=
 h t fun i o hi ho=>by
  have:=List.all_eq_true.1 hB i (List.mem_range.2 hi)
  simpa[ho] using this
def depB (ops:Array Oper) (n:Nat) (o:Oper) (j d:Nat):Bool:=decide (j<n)&&((match ops[j]? with | some oj=>oj.dst==some d | none=>false)&&o.after.any fun e=>Region.binds .any e&&e.on==j)
theorem zaJ {n:Nat} {o:Oper} {R:Nat→Value→World→Prop} {a:Act} {w1:World} (h:∀j oj d,j<n→ops[j]?=some oj→(∃e∈o.after,Region.binds .any e=true∧e.on=j)→oj.dst=some d→R j (a.tmps.getD d undef) w1) (j d:Nat) (hB:depB ops n o j d=true):R j (a.tmps.getD d undef) w1:=by
 simp only[depB,Bool.and_eq_true,decide_eq_true_eq] at hB
 obtain ⟨h1,h2,h3⟩:=hB
 cases hj:ops[j]? with
 | none=>rw[hj] at h2;cases h2
 | some oj=>
  rw[hj] at h2
  rw[Array.any_eq_true'] at h3
  obtain ⟨e,he,hb⟩:=h3
  simp only[Bool.and_eq_true,beq_iff_eq] at hb
  exact h j oj d h1 hj ⟨e,he,hb.1,hb.2⟩ (by simpa using h2)
end
end
section
open Go.RowKit
def datOne:Dat:=.mk 0 1 1 ⟨#[]⟩ []
theorem zjx {w:World} {B:Nat} (k n d:Int) (s:ByteArray) (hk:-9223372036854775808≤k∧k≤9223372036854775807) (hn:-9223372036854775808≤n∧n≤9223372036854775807) (hd:-9223372036854775808≤d∧d≤9223372036854775807) (hs:s.size≤140737488351232) :
  RepD w B (.mk k n d s []) (.agg #[.int .i64 k,.int .i64 n,.int .i64 d,.string s,.slice none 0 0]):=
 RepD.shut hk hn hd hs ⟨none,0,0,rfl,rfl,by omega,by omega,rfl,rfl⟩
theorem zf6 {W:World} {b n:Nat} {l:List Dat} {cs:List Value} (hn:n=l.length) (hm:n≤1000) (hb:b<W.heap.size) (h:CellsD W W.heap.size l cs) (hc:∀j u,cs[j]?=some u→W.cell? ⟨b,j,none⟩=some u):RepS W W.heap.size l (.slice (some ⟨b,0,none⟩) n n):=
 ⟨some ⟨b,0,none⟩,n,n,rfl,hn,Nat.le_refl _,by omega,fun _=>⟨rfl,hb⟩,h.repC fun j u hj=>by rw[Nat.zero_add];exact hc j u hj⟩
theorem zhq {W:World} {b:Nat} {cs:Array Value} {t:TypeId} {fz:Nat × Nat} (h:W.heap[b]?=some (.cells cs t fz)) (j:Nat) {u:Value} (hj:cs[j]?=some u):W.cell? ⟨b,j,none⟩=some u:=by
 unfold World.cell?;rw[h];simpa using hj
theorem zir {W:World} {b n:Nat} {l:List Dat} {cs:List Value} {t:TypeId} {fz:Nat × Nat} (hn:n=l.length) (hm:n≤1000) (hb:W.heap[b]?=some (.cells cs.toArray t fz)) (h:CellsD W W.heap.size l cs):RepS W W.heap.size l (.slice (some ⟨b,0,none⟩) n n):=
 zf6 hn hm (Array.getElem?_eq_some_iff.1 hb).1 h fun j u hj=>zhq hb j (by simpa using hj)
end
section
open Go.RowKit
theorem ze1 (s:ByteArray) (r:Bool) (hr:Dat.name s.data.toList=r) (hs:s.size≤140737488351232) (w:World) :
  Calls prog 98 #[.string s] w fun e w'=>e=.returned (.bool r)∧Below w.heap.size w w':=by
 rw[←hr];exact zh1 s hs w
def Uno (w:World) (cs:Array Value) (t:TypeId) (w':World):Prop:=Below (w.heap.size+1) (w.alloc (.cells cs t)) w'
theorem Uno.refl (w:World) (cs:Array Value) (t:TypeId):Uno w cs t (w.alloc (.cells cs t)):=Below.refl _ _
theorem Uno.drewN {w w':World} {cs:Array Value} {t:TypeId} (h:Uno w cs t w') (n:Nat):Uno w cs t (w'.drewN n):=Below.drewN h n
theorem Uno.size {w w':World} {cs:Array Value} {t:TypeId} (h:Uno w cs t w'):w.heap.size+1≤w'.heap.size:=by
 have:=Below.size h;simpa using this
theorem Uno.next {w w' w2:World} {cs:Array Value} {t:TypeId} (h:Uno w cs t w') (h2:Below w'.heap.size w' w2):Uno w cs t w2:=
 Below.trans h (h2.mono h.size)
theorem Uno.below {w w':World} {cs:Array Value} {t:TypeId} (h:Uno w cs t w'):Below w.heap.size w w':=
 ((Below.refl w.heap.size w).alloc (Nat.le_refl _) _).trans (Below.mono h (by omega))
theorem Uno.cell {w w':World} {cs:Array Value} {t:TypeId} (h:Uno w cs t w') (i:Nat) {v:Value} (hv:cs[i]?=some v):w'.cell? ⟨w.heap.size,i,none⟩=some v:=
 (Below.cell (p:=⟨w.heap.size,i,none⟩) h (by simp)).trans (zbf _ _ _ _ hv)
theorem zcC (b:UInt8):Dat.strByte b=true↔(32≤b.toNat∧b.toNat≤126∧b.toNat≠34∧b.toNat≠92):=by
 simp only[Dat.strByte,Bool.and_eq_true,decide_eq_true_eq]
theorem zgc (l:List Dat) (deep:Nat):Dat.rightL l deep=l.all fun x=>Dat.right x deep:=by
 induction l with
 | nil=>rfl
 | cons x l ih=>rw[Dat.rightL,List.all_cons,ih]
theorem zf5:∀(x:Dat) (v:Value) (deep:Nat) (B:Nat) (w:World),RepD w B x v→B≤w.heap.size→deep≤201 →
  Calls prog 82 #[v,.int .i64 deep] w fun e w'=>e=.returned (.bool (Dat.right x deep))∧Below w.heap.size w w':=by
 intro x
 induction x using Dat.ind with
 | h k n d s l ih=>
  intro v deep B w hv hB hdeep
  obtain ⟨sl,rfl,bk,bn,bd,bs,hs⟩:=hv.open
  obtain ⟨o,len,cap,rfl,hl,hcap,hmax,hc⟩:=hs
  obtain ⟨r,hr⟩:∃r,Dat.right (.mk k n d s l) deep=r:=⟨_,rfl⟩
  rw[hr]
  rw[Dat.right,zgc] at hr
  have HIH:=zh ih
  have HC:=zh hc
  have HL:=zh hl
  have HR:=zh hr
  have HNO:=zh (show Dat.head k n d s.data.toList l.length=false→false=r from fun h=>by rw[←hr,h];simp)
  have HK:=zh (fun X=>(Below.refl w.heap.size w).alloc (Nat.le_refl _) X)
  have HU:=zh (Uno.refl w #[.int .i64 k,.int .i64 n,.int .i64 d,.string s,.slice o len cap] 41)
  have HBB:=zh hB
  clear ih hv hc hr hl hB
  by_cases h200:200<deep
  ·have HF:=zh (show false=r by rw[←HR.out,decide_eq_false (by omega)];simp)
   go_enter func82,ntmps82
   go_wp2_with fail
   go_ret
   exact ⟨zah HF.out,HK.out _⟩
  by_cases hk0:k<0
  ·have HF:=zh (HNO.out (by rw[←Bool.not_eq_true,zbe];rintro ⟨a0,a1,a2,a3,a4,a5,a6,a7,a8,a9⟩;omega))
   go_enter func82,ntmps82
   go_wp2_with fail
   all_goals go_ret
   all_goals exact ⟨zah HF.out,by first | exact HK.out _ | exact Below.drewN (HK.out _) _ | fail⟩
  by_cases hk7:7<k
  ·have HF:=zh (HNO.out (by rw[←Bool.not_eq_true,zbe];rintro ⟨a0,a1,a2,a3,a4,a5,a6,a7,a8,a9⟩;omega))
   go_enter func82,ntmps82
   go_wp2_with fail
   all_goals go_ret
   all_goals exact ⟨zah HF.out,by first | exact HK.out _ | exact Below.drewN (HK.out _) _ | fail⟩
  have h200b:decide (200<(deep:Int))=false:=decide_eq_false (by omega)
  obtain ⟨g3,hg3⟩:∃g,decide ((k=0→Num.right n d=true)∧(k≠0→d=0))=g:=⟨_,rfl⟩
  have HG:=zh hg3
  clear hg3
  go_enter func82,ntmps82
  go_upto_region 3 with fail
  go_cut [39] from 7 (fun c wx=>c=.bool (!g3)∧Uno w #[.int .i64 k,.int .i64 n,.int .i64 d,.string s,.slice o len cap] 41 wx)
  case first=>as_aux_lemma=>
   by_cases hz:k=0
   ·subst hz
    obtain ⟨q,hq⟩:∃q,Num.right n d=q:=⟨_,rfl⟩
    have HQ:=zh hq
    cases q with
    | false=>
     have hgg:g3=false:=by rw[←HG.out];exact decide_eq_false (by rintro ⟨a,_⟩;rw[a rfl] at hq;cases hq)
     subst hgg
     go_wp2_with (first | (go_at_call 97;refine (zeC n d false HQ.out bn.1 bn.2 bd.1 bd.2 _).mono ?_;rintro e1 w1 ⟨rfl,nk,rfl⟩) | fail)
     all_goals go_meet
     all_goals exact ⟨rfl,by first | exact HU.out | exact HU.out.drew | exact Uno.drewN HU.out _ | exact HU.out.next hb1 | fail⟩
    | true=>
     have hgg:g3=true:=by rw[←HG.out];exact decide_eq_true ⟨fun _=>hq,fun h=>absurd rfl h⟩
     subst hgg
     go_wp2_with (first | (go_at_call 97;refine (zeC n d true HQ.out bn.1 bn.2 bd.1 bd.2 _).mono ?_;rintro e1 w1 ⟨rfl,nk,rfl⟩) | fail)
     all_goals go_meet
     all_goals exact ⟨rfl,by first | exact HU.out | exact HU.out.drew | exact Uno.drewN HU.out _ | exact HU.out.next hb1 | fail⟩
   ·have hz2:(k==0)=false:=by simpa using hz
    have hz3:(k != 0)=true:=by simpa using hz
    by_cases hd:d=0
    ·subst hd
     have hgg:g3=true:=by rw[←HG.out];exact decide_eq_true ⟨fun h=>absurd h hz,fun _=>rfl⟩
     subst hgg
     go_wp2_with fail
     all_goals go_meet
     all_goals exact ⟨rfl,by first | exact HU.out | exact HU.out.drew | exact Uno.drewN HU.out _ | exact HU.out.next hb1 | fail⟩
    ·have hd2:(d != 0)=true:=by simpa using hd
     have hgg:g3=false:=by rw[←HG.out];exact decide_eq_false (by rintro ⟨_,a⟩;exact hd (a hz))
     subst hgg
     go_wp2_with fail
     all_goals go_meet
     all_goals exact ⟨rfl,by first | exact HU.out | exact HU.out.drew | exact Uno.drewN HU.out _ | exact HU.out.next hb1 | fail⟩
  case rest=>
   obtain ⟨rfl,hu⟩:=hcut
   clear HU
   have HU:=zh hu
   clear hu
   have p0:=HU.out.cell 0 (v:=.int .i64 k) rfl
   have p1:=HU.out.cell 1 (v:=.int .i64 n) rfl
   have p2:=HU.out.cell 2 (v:=.int .i64 d) rfl
   have p3:=HU.out.cell 3 (v:=.string s) rfl
   have p4:=HU.out.cell 4 (v:=.slice o len cap) rfl
   cases g3 with
   | false=>
    have HF:=zh (HNO.out (by rw[←Bool.not_eq_true,zbe];rintro ⟨a0,a1,a2,a3,a4,a5,a6,a7,a8,a9⟩;exact absurd ⟨a1,a2⟩ (of_decide_eq_false HG.out)))
    go_wp2_with fail
    all_goals go_ret
    all_goals exact ⟨zah HF.out,HU.out.below⟩
   | true=>
    have HAg3:=zh (of_decide_eq_true HG.out)
    clear HG
    obtain ⟨g5,hg5⟩:∃g,decide ((k=1→n=0∨n=1)∧(k≠0→k≠1→n=0))=g:=⟨_,rfl⟩
    have HG:=zh hg5
    clear hg5
    go_upto_region 5 with fail
    go_cut [67] from 7 (fun c wx=>c=.bool (!g5)∧Uno w #[.int .i64 k,.int .i64 n,.int .i64 d,.string s,.slice o len cap] 41 wx)
    case first=>as_aux_lemma=>
     by_cases h1:k=1
     ·subst h1
      by_cases hn0:n=0
      ·subst hn0
       have hgg:g5=true:=by rw[←HG.out];exact decide_eq_true ⟨fun _=>.inl rfl,fun _ _=>rfl⟩
       subst hgg
       go_wp2_with fail
       all_goals go_meet
       all_goals exact ⟨rfl,by first | exact HU.out | exact HU.out.drew | exact Uno.drewN HU.out _ | exact HU.out.next hb1 | fail⟩
      have hn02:(n != 0)=true:=by simpa using hn0
      by_cases hn1:n=1
      ·subst hn1
       have hgg:g5=true:=by rw[←HG.out];exact decide_eq_true ⟨fun _=>.inr rfl,fun _ h=>absurd rfl h⟩
       subst hgg
       go_wp2_with fail
       all_goals go_meet
       all_goals exact ⟨rfl,by first | exact HU.out | exact HU.out.drew | exact Uno.drewN HU.out _ | exact HU.out.next hb1 | fail⟩
      ·have hn12:(n != 1)=true:=by simpa using hn1
       have hgg:g5=false:=by rw[←HG.out];exact decide_eq_false (by rintro ⟨a,_⟩;have:=a rfl;omega)
       subst hgg
       go_wp2_with fail
       all_goals go_meet
       all_goals exact ⟨rfl,by first | exact HU.out | exact HU.out.drew | exact Uno.drewN HU.out _ | exact HU.out.next hb1 | fail⟩
     ·have h12:(k==1)=false:=by simpa using h1
      have h13:(k != 1)=true:=by simpa using h1
      by_cases hz:k=0
      ·subst hz
       have hgg:g5=true:=by rw[←HG.out];exact decide_eq_true ⟨fun h=>by omega,fun h=>absurd rfl h⟩
       subst hgg
       go_wp2_with fail
       all_goals go_meet
       all_goals exact ⟨rfl,by first | exact HU.out | exact HU.out.drew | exact Uno.drewN HU.out _ | exact HU.out.next hb1 | fail⟩
      have hz2:(k==0)=false:=by simpa using hz
      have hz3:(k != 0)=true:=by simpa using hz
      by_cases hn0:n=0
      ·subst hn0
       have hgg:g5=true:=by rw[←HG.out];exact decide_eq_true ⟨fun h=>absurd h h1,fun _ _=>rfl⟩
       subst hgg
       go_wp2_with fail
       all_goals go_meet
       all_goals exact ⟨rfl,by first | exact HU.out | exact HU.out.drew | exact Uno.drewN HU.out _ | exact HU.out.next hb1 | fail⟩
      ·have hn02:(n != 0)=true:=by simpa using hn0
       have hgg:g5=false:=by rw[←HG.out];exact decide_eq_false (by rintro ⟨_,a⟩;exact hn0 (a hz h1))
       subst hgg
       go_wp2_with fail
       all_goals go_meet
       all_goals exact ⟨rfl,by first | exact HU.out | exact HU.out.drew | exact Uno.drewN HU.out _ | exact HU.out.next hb1 | fail⟩
    case rest=>
     obtain ⟨rfl,hu⟩:=hcut
     clear HU
     have HU:=zh hu
     clear hu
     have p0:=HU.out.cell 0 (v:=.int .i64 k) rfl
     have p1:=HU.out.cell 1 (v:=.int .i64 n) rfl
     have p2:=HU.out.cell 2 (v:=.int .i64 d) rfl
     have p3:=HU.out.cell 3 (v:=.string s) rfl
     have p4:=HU.out.cell 4 (v:=.slice o len cap) rfl
     cases g5 with
     | false=>
      have HF:=zh (HNO.out (by rw[←Bool.not_eq_true,zbe];rintro ⟨a0,a1,a2,a3,a4,a5,a6,a7,a8,a9⟩;exact absurd ⟨a3,a4⟩ (of_decide_eq_false HG.out)))
      go_wp2_with fail
      all_goals go_ret
      all_goals exact ⟨zah HF.out,HU.out.below⟩
     | true=>
      have HAg5:=zh (of_decide_eq_true HG.out)
      clear HG
      obtain ⟨g7,hg7⟩:∃g,decide ((k=2→Dat.name s.data.toList=true)∧(k≠2→k≠3→s.data.toList=[]))=g:=⟨_,rfl⟩
      have HG:=zh hg7
      clear hg7
      go_upto_region 7 with fail
      go_cut [91] from 7 (fun c wx=>c=.bool (!g7)∧Uno w #[.int .i64 k,.int .i64 n,.int .i64 d,.string s,.slice o len cap] 41 wx)
      case first=>as_aux_lemma=>
       by_cases h2:k=2
       ·subst h2
        obtain ⟨q,hq⟩:∃q,Dat.name s.data.toList=q:=⟨_,rfl⟩
        have HQ:=zh hq
        cases q with
        | false=>
          have hgg:g7=false:=by rw[←HG.out];exact decide_eq_false (by rintro ⟨a,_⟩;rw[a rfl] at hq;cases hq)
          subst hgg
          go_wp2_with (first | (go_at_call 98;refine (ze1 s false HQ.out bs _).mono ?_;rintro e1 w1 ⟨rfl,hb1⟩;have HU1:=zh (HU.out.next hb1);have p0:=HU1.out.cell 0 (v:=.int .i64 2) rfl;have p1:=HU1.out.cell 1 (v:=.int .i64 n) rfl;have p2:=HU1.out.cell 2 (v:=.int .i64 d) rfl;have p3:=HU1.out.cell 3 (v:=.string s) rfl;have p4:=HU1.out.cell 4 (v:=.slice o len cap) rfl) | fail)
          all_goals go_meet
          all_goals exact ⟨rfl,by first | exact HU1.out | exact HU1.out.drew | exact HU.out.drew | exact HU.out | exact Uno.drewN HU1.out _ | exact Uno.drewN HU.out _ | fail⟩
         | true=>
          have hgg:g7=true:=by rw[←HG.out];exact decide_eq_true ⟨fun _=>hq,fun h=>absurd rfl h⟩
          subst hgg
          go_wp2_with (first | (go_at_call 98;refine (ze1 s true HQ.out bs _).mono ?_;rintro e1 w1 ⟨rfl,hb1⟩;have HU1:=zh (HU.out.next hb1);have p0:=HU1.out.cell 0 (v:=.int .i64 2) rfl;have p1:=HU1.out.cell 1 (v:=.int .i64 n) rfl;have p2:=HU1.out.cell 2 (v:=.int .i64 d) rfl;have p3:=HU1.out.cell 3 (v:=.string s) rfl;have p4:=HU1.out.cell 4 (v:=.slice o len cap) rfl) | fail)
          all_goals go_meet
          all_goals exact ⟨rfl,by first | exact HU1.out | exact HU1.out.drew | exact HU.out.drew | exact HU.out | exact Uno.drewN HU1.out _ | exact Uno.drewN HU.out _ | fail⟩
       ·have h22:(k==2)=false:=by simpa using h2
        have h23:(k != 2)=true:=by simpa using h2
        by_cases h3:k=3
        ·subst h3
         have hgg:g7=true:=by rw[←HG.out];exact decide_eq_true ⟨fun h=>absurd h h2,fun _ h=>absurd rfl h⟩
         subst hgg
         go_wp2_with fail
         all_goals go_meet
         all_goals exact ⟨rfl,by first | exact HU.out | exact HU.out.drew | exact Uno.drewN HU.out _ | exact HU.out.next hb1 | fail⟩
        have h33:(k != 3)=true:=by simpa using h3
        cases he:s.toList.isEmpty with
        | false=>
         have hgg:g7=false:=by rw[←HG.out];exact decide_eq_false (by rintro ⟨_,a⟩;rw[ByteArray.toList_eq,a h2 h3] at he;cases he)
         subst hgg
         go_wp2_with fail
         all_goals go_meet
         all_goals exact ⟨rfl,by first | exact HU.out | exact HU.out.drew | exact Uno.drewN HU.out _ | exact HU.out.next hb1 | fail⟩
        | true=>
         have hgg:g7=true:=by rw[←HG.out];exact decide_eq_true ⟨fun h=>absurd h h2,fun _ _=>by rw[←ByteArray.toList_eq];exact List.isEmpty_iff.1 he⟩
         subst hgg
         go_wp2_with fail
         all_goals go_meet
         all_goals exact ⟨rfl,by first | exact HU.out | exact HU.out.drew | exact Uno.drewN HU.out _ | exact HU.out.next hb1 | fail⟩
      case rest=>
       obtain ⟨rfl,hu⟩:=hcut
       clear HU
       have HU:=zh hu
       clear hu
       have p0:=HU.out.cell 0 (v:=.int .i64 k) rfl
       have p1:=HU.out.cell 1 (v:=.int .i64 n) rfl
       have p2:=HU.out.cell 2 (v:=.int .i64 d) rfl
       have p3:=HU.out.cell 3 (v:=.string s) rfl
       have p4:=HU.out.cell 4 (v:=.slice o len cap) rfl
       cases g7 with
       | false=>
        have HF:=zh (HNO.out (by rw[←Bool.not_eq_true,zbe];rintro ⟨a0,a1,a2,a3,a4,a5,a6,a7,a8,a9⟩;exact absurd ⟨a5,a6⟩ (of_decide_eq_false HG.out)))
        go_wp2_with fail
        all_goals go_ret
        all_goals exact ⟨zah HF.out,HU.out.below⟩
       | true=>
        have HAg7:=zh (of_decide_eq_true HG.out)
        clear HG
        go_wp2_with fail
        go_loopg [5] s.size (fun g i wr=>∃j:Nat,g=s.size-j∧j≤s.size∧i=.int .i64 j∧(∀b∈s.data.toList.take j,Dat.strByte b=true)∧Uno w #[.int .i64 k,.int .i64 n,.int .i64 d,.string s,.slice o len cap] 41 wr)
        case atStart=>exact ⟨0,rfl,by omega,rfl,by simp,HU.out⟩
        case round=>
         obtain ⟨j,rfl,hj,rfl,ha,hu⟩:=hrel
         clear HU p0 p1 p2 p3 p4
         have HU:=zh hu
         have HA:=zh ha
         clear hu ha
         have p0:=HU.out.cell 0 (v:=.int .i64 k) rfl
         have p1:=HU.out.cell 1 (v:=.int .i64 n) rfl
         have p2:=HU.out.cell 2 (v:=.int .i64 d) rfl
         have p3:=HU.out.cell 3 (v:=.string s) rfl
         have p4:=HU.out.cell 4 (v:=.slice o len cap) rfl
         by_cases hjl:j<s.size
         ·have hsl:j<s.data.toList.length:=hjl
          obtain ⟨gb,hgb⟩:∃g,decide (32≤s[j].toNat∧s[j].toNat≤126∧s[j].toNat≠34∧s[j].toNat≠92)=g:=⟨_,rfl⟩
          have HG:=zh hgb
          clear hgb
          go_upto_region 12 with fail
          go_cut [124] from 92 to 124 (fun c wx=>c=.bool (!gb)∧Uno w #[.int .i64 k,.int .i64 n,.int .i64 d,.string s,.slice o len cap] 41 wx)
          case first=>as_aux_lemma=>
           by_cases b0:s[j].toNat<32
           ·have f0:decide ((s[j].toNat:Int)<32)=true:=decide_eq_true (by omega)
            have hgg:gb=false:=by rw[←HG.out];exact decide_eq_false (by rintro ⟨a,b,c,d⟩;omega)
            subst hgg
            go_wp2_with fail
            all_goals go_meet
            all_goals exact ⟨rfl,by first | exact HU.out | exact HU.out.drew | exact Uno.drewN HU.out _ | exact HU.out.next hb1 | fail⟩
           have f0:decide ((s[j].toNat:Int)<32)=false:=decide_eq_false (by omega)
           by_cases b1:126<s[j].toNat
           ·have f1:decide ((126:Int)<(s[j].toNat:Int))=true:=decide_eq_true (by omega)
            have hgg:gb=false:=by rw[←HG.out];exact decide_eq_false (by rintro ⟨a,b,c,d⟩;omega)
            subst hgg
            go_wp2_with fail
            all_goals go_meet
            all_goals exact ⟨rfl,by first | exact HU.out | exact HU.out.drew | exact Uno.drewN HU.out _ | exact HU.out.next hb1 | fail⟩
           have f1:decide ((126:Int)<(s[j].toNat:Int))=false:=decide_eq_false (by omega)
           by_cases b2:s[j].toNat=34
           ·have f2:((s[j].toNat:Int)==34)=true:=by rw[b2];rfl
            have hgg:gb=false:=by rw[←HG.out];exact decide_eq_false (by rintro ⟨a,b,c,d⟩;omega)
            subst hgg
            go_wp2_with fail
            all_goals go_meet
            all_goals exact ⟨rfl,by first | exact HU.out | exact HU.out.drew | exact Uno.drewN HU.out _ | exact HU.out.next hb1 | fail⟩
           have f2:((s[j].toNat:Int)==34)=false:=by rw[beq_eq_false_iff_ne];omega
           by_cases b3:s[j].toNat=92
           ·have f3:((s[j].toNat:Int)==92)=true:=by rw[b3];rfl
            have hgg:gb=false:=by rw[←HG.out];exact decide_eq_false (by rintro ⟨a,b,c,d⟩;omega)
            subst hgg
            go_wp2_with fail
            all_goals go_meet
            all_goals exact ⟨rfl,by first | exact HU.out | exact HU.out.drew | exact Uno.drewN HU.out _ | exact HU.out.next hb1 | fail⟩
           have f3:((s[j].toNat:Int)==92)=false:=by rw[beq_eq_false_iff_ne];omega
           have hgg:gb=true:=by rw[←HG.out];exact decide_eq_true ⟨by omega,by omega,b2,b3⟩
           subst hgg
           go_wp2_with fail
           all_goals go_meet
           all_goals exact ⟨rfl,by first | exact HU.out | exact HU.out.drew | exact Uno.drewN HU.out _ | exact HU.out.next hb1 | fail⟩
          case rest=>
           obtain ⟨rfl,hu⟩:=hcut
           clear HU p0 p1 p2 p3 p4
           have HU:=zh hu
           clear hu
           cases gb with
           | false=>
            have HF:=zh (HNO.out (by rw[←Bool.not_eq_true,zbe];rintro ⟨a0,a1,a2,a3,a4,a5,a6,a7,a8,a9⟩;exact absurd ((zcC _).1 (List.all_eq_true.1 a7 _ (List.getElem_mem hsl))) (of_decide_eq_false HG.out)))
            go_wp2_with fail
            all_goals go_ret
            all_goals exact ⟨zah HF.out,HU.out.below⟩
           | true=>
            have HSB:=zh ((zcC _).2 (of_decide_eq_true HG.out))
            go_wp2_with fail
            go_roundg (s.size-(j+1))
            case measure=>omega
            case rel=>exact ⟨j+1,rfl,by omega,by go_num,zbC HA.out hsl HSB.out,HU.out⟩
         ·obtain rfl:j=s.size:=by omega
          have HAs:=zh (show s.data.toList.all Dat.strByte=true from List.all_eq_true.2 (by have:=HA.out;rwa[List.take_of_length_le (show s.data.toList.length≤s.size from Nat.le_of_eq rfl)] at this))
          clear HA
          obtain ⟨g14,hg14⟩:∃g,decide ((k=6→len=2)∧(k≠6→k≠7→len=0))=g:=⟨_,rfl⟩
          have HG:=zh hg14
          clear hg14
          go_upto_region 14 with fail
          go_cut [149] from 7 (fun c wx=>c=.bool (!g14)∧Uno w #[.int .i64 k,.int .i64 n,.int .i64 d,.string s,.slice o len cap] 41 wx)
          case first=>as_aux_lemma=>
           by_cases h6:k=6
           ·subst h6
            by_cases hl2:len=2
            ·subst hl2
             have hgg:g14=true:=by rw[←HG.out];exact decide_eq_true ⟨fun _=>rfl,fun h=>absurd rfl h⟩
             subst hgg
             go_wp2_with fail
             all_goals go_meet
             all_goals exact ⟨rfl,by first | exact HU.out | exact HU.out.drew | exact Uno.drewN HU.out _ | exact HU.out.next hb1 | fail⟩
            ·have hl3:((len:Int) != 2)=true:=by rw[bne_iff_ne];omega
             have hgg:g14=false:=by rw[←HG.out];exact decide_eq_false (by rintro ⟨a,_⟩;exact hl2 (a rfl))
             subst hgg
             go_wp2_with fail
             all_goals go_meet
             all_goals exact ⟨rfl,by first | exact HU.out | exact HU.out.drew | exact Uno.drewN HU.out _ | exact HU.out.next hb1 | fail⟩
           have h62:(k==6)=false:=by simpa using h6
           have h63:(k != 6)=true:=by simpa using h6
           by_cases h7:k=7
           ·subst h7
            have hgg:g14=true:=by rw[←HG.out];exact decide_eq_true ⟨fun h=>absurd h h6,fun _ h=>absurd rfl h⟩
            subst hgg
            go_wp2_with fail
            all_goals go_meet
            all_goals exact ⟨rfl,by first | exact HU.out | exact HU.out.drew | exact Uno.drewN HU.out _ | exact HU.out.next hb1 | fail⟩
           have h73:(k != 7)=true:=by simpa using h7
           by_cases hl0:len=0
           ·subst hl0
            have hgg:g14=true:=by rw[←HG.out];exact decide_eq_true ⟨fun h=>absurd h h6,fun _ _=>rfl⟩
            subst hgg
            go_wp2_with fail
            all_goals go_meet
            all_goals exact ⟨rfl,by first | exact HU.out | exact HU.out.drew | exact Uno.drewN HU.out _ | exact HU.out.next hb1 | fail⟩
           have hl1:decide ((0:Int)<(len:Int))=true:=decide_eq_true (by omega)
           have hl2:decide (0<len)=true:=decide_eq_true (by omega)
           have hgg:g14=false:=by rw[←HG.out];exact decide_eq_false (by rintro ⟨_,a⟩;exact hl0 (a h6 h7))
           subst hgg
           go_wp2_with fail
           all_goals go_meet
           all_goals exact ⟨rfl,by first | exact HU.out | exact HU.out.drew | exact Uno.drewN HU.out _ | exact HU.out.next hb1 | fail⟩
          case rest=>
           obtain ⟨rfl,hu⟩:=hcut
           clear HU p0 p1 p2 p3 p4
           have HU:=zh hu
           clear hu
           have p0:=HU.out.cell 0 (v:=.int .i64 k) rfl
           have p1:=HU.out.cell 1 (v:=.int .i64 n) rfl
           have p2:=HU.out.cell 2 (v:=.int .i64 d) rfl
           have p3:=HU.out.cell 3 (v:=.string s) rfl
           have p4:=HU.out.cell 4 (v:=.slice o len cap) rfl
           cases g14 with
           | false=>
            have HF:=zh (HNO.out (by rw[←Bool.not_eq_true,zbe];rintro ⟨a0,a1,a2,a3,a4,a5,a6,a7,a8,a9⟩;rw[←HL.out] at a8 a9;exact absurd ⟨a8,a9⟩ (of_decide_eq_false HG.out)))
            go_wp2_with fail
            all_goals go_ret
            all_goals exact ⟨zah HF.out,HU.out.below⟩
           | true=>
            have HAg14:=zh (of_decide_eq_true HG.out)
            clear HG
            have HQ:=zh (show (l.all fun x=>Dat.right x (deep+1))=r by
             rw[←HR.out,decide_eq_true (by omega:deep≤200),(zbe k n d s.data.toList l.length).2 ⟨by omega,HAg3.out.1,HAg3.out.2,HAg5.out.1,HAg5.out.2,HAg7.out.1,HAg7.out.2,HAs.out,by rw[←HL.out];exact HAg14.out.1,by rw[←HL.out];exact HAg14.out.2⟩]
             rfl)
            go_wp2_with fail
            go_loopg [6] len (fun g i wr=>∃j:Nat,g=len-j∧j≤len∧i=.int .i64 j∧(∀(q:Nat) (x:Dat),q<j→l[q]?=some x→Dat.right x (deep+1)=true)∧Uno w #[.int .i64 k,.int .i64 n,.int .i64 d,.string s,.slice o len cap] 41 wr)
            case atStart=>exact ⟨0,rfl,by omega,rfl,fun q x h=>absurd h (by omega),HU.out⟩
            case round=>
             obtain ⟨j,rfl,hj,rfl,hq,hu⟩:=hrel
             clear HU p0 p1 p2 p3 p4
             have HU:=zh hu
             have HQ2:=zh hq
             clear hu hq
             have p4:=HU.out.cell 4 (v:=.slice o len cap) rfl
             have hsz:=HU.out.size
             by_cases hjl:j<len
             ·obtain ⟨x,hx⟩:∃x,l[j]?=some x:=⟨_,List.getElem?_eq_getElem (by rw[←HL.out];exact hjl)⟩
              obtain ⟨b1,off1,k1,n1,d1,s1,l1,o1,len1,cap1,ho1,hx1,e0,e1,e2,e3,e4,er⟩:=za8 HC.out (HU.out.below.mono HBB.out) hx
              subst ho1 hx1
              have ER:=zh er
              have HX:=zh hx
              have hl1:=zac e0
              have hlb1:=zac p4
              obtain ⟨q,hq⟩:∃q,Dat.right (.mk k1 n1 d1 s1 l1) (deep+1)=q:=⟨_,rfl⟩
              have HQQ:=zh hq
              clear hx er hq
              have hC:Calls prog 82 #[.agg #[.int .i64 k1,.int .i64 n1,.int .i64 d1,.string s1,.slice o1 len1 cap1],.int .i64 ((deep:Int)+1)] wr fun e w'=>e=.returned (.bool q)∧Below wr.heap.size wr w':=by
               have:=HIH.out (.mk k1 n1 d1 s1 l1) (List.mem_of_getElem? HX.out) _ (deep+1) B wr ER.out (by have:=HBB.out;omega) (by omega)
               rw[HQQ.out] at this
               rw[show ((deep:Int)+1)=((deep+1:Nat):Int) by omega]
               exact this
              have HCC:=zh hC
              clear hC
              cases q with
              | true=>
               go_wp2_with (first | (go_at_call 82;refine HCC.out.mono ?_;rintro e2 w2 ⟨rfl,hb2⟩) | fail)
               go_roundg (len-(j+1))
               case measure=>omega
               case rel=>
                refine ⟨j+1,rfl,by omega,by go_num,?_,HU.out.next hb2⟩
                intro p x hp hx
                by_cases hpj:p<j
                ·exact HQ2.out p x hpj hx
                ·obtain rfl:p=j:=by omega
                 obtain rfl:=Option.some.inj (hx.symm.trans HX.out)
                 exact HQQ.out
              | false=>
               have HF:=zh (show false=r by
                rw[←HQ.out,eq_comm,List.all_eq_false]
                exact ⟨_,List.mem_of_getElem? HX.out,by rw[HQQ.out];simp⟩)
               go_wp2_with (first | (go_at_call 82;refine HCC.out.mono ?_;rintro e2 w2 ⟨rfl,hb2⟩) | fail)
               go_ret
               exact ⟨zah HF.out,(HU.out.next hb2).below⟩
             ·obtain rfl:j=len:=by omega
              have HF:=zh (show true=r by
               rw[←HQ.out,eq_comm,List.all_eq_true]
               intro x hx
               obtain ⟨i,hi,he⟩:=List.getElem_of_mem hx
               exact HQ2.out i x (by rw[HL.out];exact hi) (by rw[←he];exact List.getElem?_eq_getElem hi))
              go_wp2_with fail
              go_ret
              exact ⟨zah HF.out,HU.out.below⟩
theorem zhK (x:Dat) (v:Value) (deep B:Nat) (w:World) (r:Bool) (hr:Dat.right x deep=r) (hv:RepD w B x v) (hB:B≤w.heap.size) (hd:deep≤201) :
  Calls prog 82 #[v,.int .i64 deep] w fun e w'=>e=.returned (.bool r)∧Below w.heap.size w w':=by
 rw[←hr];exact zf5 x v deep B w hv hB hd
theorem zer (x:Dat) (v:Value) (B:Nat) (w:World) (r:Bool) (hr:Dat.right x 0=r) (hv:RepD w B x v) (hB:B≤w.heap.size) :
  Calls prog 40 #[v] w fun e w'=>e=.returned (.bool r)∧Below w.heap.size w w':=by
 obtain ⟨k,n,d,s,l⟩:=x
 obtain ⟨sl,rfl,_⟩:=hv.open
 have HV:=zh hv
 have HR:=zh hr
 clear hv hr
 go_enter func40,ntmps40
 go_wp2_with (first | (go_at_call 82;refine (zhK (.mk k n d s l) _ 0 B _ r HR.out (HV.out.kept (((Below.refl _ _).alloc (Nat.le_refl _) _).mono hB)) (by simp;omega) (by omega)).mono ?_;rintro e' w1 ⟨rfl,hb1⟩) | fail)
 go_ret
 exact ⟨rfl,((Below.refl _ _).alloc (Nat.le_refl _) _).trans (hb1.mono (by simp))⟩
end
section
open Go.RowKit
def all2 (q:Dat→Dat→Bool):List Dat→List Dat→Bool
 | [],[]=>true
 | x::l,y::m=>q x y&&all2 q l m
 | _,_=>false
theorem zfs {q:Dat→Dat→Bool}:∀{l m:List Dat},all2 q l m=true→l.length=m.length
 | [],[],_=>rfl
 | x::l,y::m,h=>by
  rw[all2,Bool.and_eq_true] at h
  simp[zfs h.2]
 | [],_::_,h=>by cases h
 | _::_,[],h=>by cases h
theorem zdi {q:Dat→Dat→Bool}:∀{l m:List Dat} {i:Nat} {x y:Dat},l[i]?=some x→m[i]?=some y→q x y=false→all2 q l m=false
 | [],_,i,x,y,h,_,_=>by simp at h
 | _::_,[],i,x,y,_,h,_=>by simp at h
 | a::l,b::m,0,x,y,h,h',hq=>by
  simp only[List.getElem?_cons_zero,Option.some.injEq] at h h'
  subst h h'
  simp[all2,hq]
 | a::l,b::m,i+1,x,y,h,h',hq=>by
  rw[all2,zdi (l:=l) (m:=m) (i:=i) (by simpa using h) (by simpa using h') hq,Bool.and_false]
theorem zfk {q:Dat→Dat→Bool}:∀{l m:List Dat},l.length=m.length→(∀(i:Nat) (x y:Dat),l[i]?=some x→m[i]?=some y→q x y=true)→all2 q l m=true
 | [],[],_,_=>rfl
 | x::l,y::m,h,H=>by
  rw[all2,H 0 x y rfl rfl,zfk (by simpa using h) (fun i a b ha hb=>H (i+1) a b (by simpa using ha) (by simpa using hb))];rfl
 | [],_::_,h,_=>by simp at h
 | _::_,[],h,_=>by simp at h
theorem zcE:∀l m:List Dat,Dat.alikeL l m=all2 Dat.alike l m
 | [],[]=>rfl
 | x::l,y::m=>by rw[Dat.alikeL,all2,zcE l m]
 | [],_::_=>rfl
 | _::_,[]=>rfl
end
section
open Go.RowKit
end
section
open Go Go.RowKit
inductive Trm where
 | mk (op n:Int) (v:List Int) (t:List Trm)
namespace Trm
def op:Trm→Int | mk o _ _ _=>o
def n:Trm→Int | mk _ n _ _=>n
def v:Trm→List Int | mk _ _ v _=>v
def t:Trm→List Trm | mk _ _ _ t=>t
theorem ind {P:Trm→Prop} (h:∀o n v t,(∀x∈t,P x)→P (mk o n v t)) (x:Trm):P x:=
 Trm.rec (motive_1:=P) (motive_2:=fun l=>∀x∈l,P x) (fun o n v t ih=>h o n v t ih) (fun _ hx=>by cases hx) (fun x l hx hl y hy=>by
  rcases List.mem_cons.1 hy with rfl | hy
  ·exact hx
  ·exact hl y hy) x
mutual
def all:Trm→Nat
 | mk _ _ _ t=>1+allL t
def allL:List Trm→Nat
 | []=>0
 | x::l=>all x+allL l
end
theorem allL_mem:∀{l:List Trm} {x:Trm},x∈l→x.all≤allL l
 | y::l,x,h=>by
  rw[allL]
  rcases List.mem_cons.1 h with rfl | h
  ·omega
  ·have:=allL_mem h
   omega
theorem all_mem {o n:Int} {v:List Int} {t:List Trm} {x:Trm} (h:x∈t):x.all<(mk o n v t).all:=by
 have:=allL_mem h
 rw[all]
 omega
end Trm
mutual
def TrmR (w:World) (B:Nat):Trm→List Value→Prop
 | .mk o n v t,cs=>∃vs q len cap,cs=[.int .i64 o,.int .i64 n,vs,.slice q len cap]∧(-9223372036854775808≤o∧o≤9223372036854775807)∧(-9223372036854775808≤n∧n≤9223372036854775807)∧SlC w B 1 IntR v vs ∧
   len=t.length∧len≤cap∧cap≤9223372036854775807∧(match q with | none=>t=[]∧cap=0 | some a=>(t≠[]→a.spot=none∧a.block<B)∧TrmC w B t a.block a.off)
def TrmC (w:World) (B:Nat):List Trm→Nat→Nat→Prop
 | [],_,_=>True
 | x::l,b,off=>(∃cs:List Value,cs.length=4∧(∀j u,cs[j]?=some u→w.cell? ⟨b,off+j,none⟩=some u)∧TrmR w B x cs)∧TrmC w B l b (off+4)
end
theorem zdD {w:World} {B b:Nat}:∀{l:List Trm} {off:Nat},TrmC w B l b off↔∀(i:Nat) (x:Trm),l[i]?=some x→∃cs:List Value,cs.length=4∧(∀j u,cs[j]?=some u→w.cell? ⟨b,off+i*4+j,none⟩=some u)∧TrmR w B x cs
 | [],off=>by simp[TrmC]
 | y::l,off=>by
  rw[TrmC,zdD (l:=l) (off:=off+4)]
  constructor
  ·rintro ⟨h1,h2⟩ i x hx
   cases i with
   | zero=>
    simp only[List.getElem?_cons_zero,Option.some.injEq] at hx
    subst hx
    simpa using h1
   | succ i=>
    have:=h2 i x (by simpa using hx)
    rwa[show off+4+i*4=off+(i+1)*4 by omega] at this
  ·intro h
   refine ⟨by simpa using h 0 y rfl,fun i x hx=>?_⟩
   have:=h (i+1) x (by simpa using hx)
   rwa[show off+(i+1)*4=off+4+i*4 by omega] at this
theorem zas {w:World} {B:Nat} {o n:Int} {v:List Int} {t:List Trm} {cs:List Value}:TrmR w B (.mk o n v t) cs↔∃vs ts,cs=[.int .i64 o,.int .i64 n,vs,ts]∧(-9223372036854775808≤o∧o≤9223372036854775807)∧(-9223372036854775808≤n∧n≤9223372036854775807)∧SlC w B 1 IntR v vs∧SlC w B 4 (TrmR w B) t ts:=by
 rw[TrmR]
 constructor
 ·rintro ⟨vs,q,len,cap,rfl,h1,h2,h3,h4,h5,h6,h7⟩
  refine ⟨vs,_,rfl,h1,h2,h3,q,len,cap,rfl,h4,h5,h6,?_⟩
  cases q with
  | none=>exact h7
  | some a=>exact ⟨h7.1,zdD.1 h7.2⟩
 ·rintro ⟨vs,ts,rfl,h1,h2,h3,q,len,cap,rfl,h4,h5,h6,h7⟩
  refine ⟨vs,q,len,cap,rfl,h1,h2,h3,h4,h5,h6,?_⟩
  cases q with
  | none=>exact h7
  | some a=>exact ⟨h7.1,zdD.2 h7.2⟩
theorem TrmR.kept {w w':World} {B:Nat} (hb:Below B w w'):∀(x:Trm) (cs:List Value),TrmR w B x cs→TrmR w' B x cs:=by
 intro x
 induction x using Trm.ind with
 | _ o n v t ih=>
  intro cs h
  obtain ⟨vs,ts,rfl,h1,h2,h3,h4⟩:=zas.1 h
  exact zas.2 ⟨vs,ts,rfl,h1,h2,h3.kept hb fun _ _ _ h=>h,h4.kept hb fun x hx cs h=>ih x hx cs h⟩
def TrmS (w:World) (B:Nat) (l:List Trm) (v:Value):Prop:=SlC w B 4 (TrmR w B) l v
theorem TrmS.kept {w w':World} {B:Nat} {l:List Trm} {v:Value} (h:TrmS w B l v) (hb:Below B w w'):TrmS w' B l v:=SlC.kept h hb fun x _ cs h=>TrmR.kept hb x cs h
end
section
open Go.RowKit
theorem zbH {α:Type} {p:α→Bool} {l:List α} {j:Nat} {x:α} (hx:l[j]?=some x) (h:(l.take j).any p=false) (hp:p x=false):(l.take (j+1)).any p=false:=by
 rw[List.take_add_one,hx]
 simp[h,hp]
theorem zem {α:Type} {p:α→Bool} {l:List α} {j:Nat} {x:α} (hx:l[j]?=some x) (hp:p x=true):l.any p=true:=
 List.any_eq_true.2 ⟨x,List.mem_of_getElem? hx,hp⟩
theorem zgy {α:Type} (R:α→List Value→Prop) (F:FuncId) (caps:Array Value) (p:α→Bool) (l:List α) (sl:Value) (B:Nat) (w:World) (hv:SlC w B 1 R l sl) (hB:B≤w.heap.size)
  (hF:∀(args:Array Value) (w:World),(callFunc F args).run prog w=.ok (.enter F args) w)
  (H:∀x∈l,∀c0 w',R x [c0]→Below w.heap.size w w'→Calls prog F (#[c0]++caps) w' fun e w''=>e=.returned (.bool (p x))∧Below w'.heap.size w' w'') :
  Calls prog 88 #[sl,.func (.func F) #[] caps] w (IdxPost (l.any p) w):=by
 obtain ⟨r,hr⟩:∃r,l.any p=r:=⟨_,rfl⟩
 rw[hr]
 obtain ⟨o,len,cap,rfl,hl,hcap,hmax⟩:=hv.slice
 have HR:=zh hr
 have HV:=zh hv
 have HL:=zh hl
 have HH:=zh H
 clear hr hv hl H
 go_enter func88,ntmps88
 go_wp2
 go_loopw [8] (fun i wr=>∃(j:Nat),i=.int .i64 j∧j≤len∧Hid ((l.take j).any p=false)∧Below w.heap.size w wr) (fun i _=>len-(intOf i).toNat)
 case atStart=>exact ⟨0,rfl,by omega,rfl,Below.refl _ _⟩
 case round=>
  obtain ⟨j,rfl,hj,HA,hb⟩:=hrel
  by_cases hjl:j<len
  ·obtain ⟨x,hx⟩:∃x,l[j]?=some x:=⟨_,List.getElem?_eq_getElem (by rw[←HL.out];exact hjl)⟩
   obtain ⟨b,off,cs,ho,_,hcl,hcell,hr⟩:=HV.out.at (hb.mono hB) hx
   subst ho
   match cs,hcl with
   | [c0],_=>
    have e0:=hcell 0 _ rfl
    simp only[Nat.add_zero,Nat.mul_one] at e0
    have HC:=zh (HH.out _ (List.mem_of_getElem? hx) _ wr hr hb)
    have HX:=zh hx
    clear hx hr hcell
    cases hp:p x with
    | true=>
     rw[hp] at HC
     have HT:=zh (zem HX.out hp)
     clear hp
     go_wp2_with (first | ((with_reducible refine HC.out.mono ?_);rintro e' w1 ⟨rfl,hb1⟩))
     go_ret
     exact ⟨j,rfl,by rw[←HR.out,HT.out];simp,Below.next hb hb1⟩
    | false=>
     rw[hp] at HC
     have HT:=zh (zbH HX.out HA.out hp)
     clear hp
     go_wp2_with (first | ((with_reducible refine HC.out.mono ?_);rintro e' w1 ⟨rfl,hb1⟩))
     go_roundw
     case rel=>exact ⟨j+1,by go_num,by omega,HT,Below.next hb hb1⟩
     case measure=>simp[intOf];omega
  ·have HF:=zh (show l.any p=false by rw[←HA.out,List.take_of_length_le (by rw[←HL.out];omega)])
   go_wp2
   go_ret
   exact ⟨-1,rfl,by rw[←HR.out,HF.out];rfl,hb⟩
theorem zdO {α:Type} (R:α→List Value→Prop) (F:FuncId) (caps:Array Value) (p:α→Bool) (r:Bool) (l:List α) (sl:Value) (B:Nat) (w:World) (hv:SlC w B 1 R l sl) (hB:B≤w.heap.size)
  (hF:∀(args:Array Value) (w:World),(callFunc F args).run prog w=.ok (.enter F args) w)
  (H:∀x∈l,∀c0 w',R x [c0]→Below w.heap.size w w'→Calls prog F (#[c0]++caps) w' fun e w''=>e=.returned (.bool (p x))∧Below w'.heap.size w' w'') (hr:l.any p=r) :
  Calls prog 53 #[sl,.func (.func F) #[] caps] w fun e w'=>e=.returned (.bool r)∧Below w.heap.size w w':=by
 have HI:=zh (zgy R F caps p l sl B w hv hB hF H)
 rw[hr] at HI
 obtain ⟨o,len,cap,rfl,h1,h2,h3⟩:=hv.slice
 clear hr hv H hF h1 h2 h3
 go_enter func53,ntmps53
 go_wp2_with (first | (go_at_call 88;refine HI.out.mono ?_;rintro e' w1 ⟨q,rfl,hq,hb⟩))
 subst hq
 go_ret
 exact ⟨by simp,hb⟩
theorem zgI {α:Type} (R:α→List Value→Prop) (F:FuncId) (caps:Array Value) (p:α→Bool) (l:List α) (sl:Value) (B:Nat) (w:World) (hv:SlC w B 5 R l sl) (hB:B≤w.heap.size)
  (hF:∀(args:Array Value) (w:World),(callFunc F args).run prog w=.ok (.enter F args) w)
  (H:∀x∈l,∀c0 c1 c2 c3 c4 w',R x [c0,c1,c2,c3,c4]→Below w.heap.size w w'→Calls prog F (#[.agg #[c0,c1,c2,c3,c4]]++caps) w' fun e w''=>e=.returned (.bool (p x))∧Below w'.heap.size w' w'') :
  Calls prog 49 #[sl,.func (.func F) #[] caps] w (IdxPost (l.any p) w):=by
 obtain ⟨r,hr⟩:∃r,l.any p=r:=⟨_,rfl⟩
 rw[hr]
 obtain ⟨o,len,cap,rfl,hl,hcap,hmax⟩:=hv.slice
 have HR:=zh hr
 have HV:=zh hv
 have HL:=zh hl
 have HH:=zh H
 clear hr hv hl H
 go_enter func49,ntmps49
 go_wp2
 go_loopw [8] (fun i wr=>∃(j:Nat),i=.int .i64 j∧j≤len∧Hid ((l.take j).any p=false)∧Below w.heap.size w wr) (fun i _=>len-(intOf i).toNat)
 case atStart=>exact ⟨0,rfl,by omega,rfl,Below.refl _ _⟩
 case round=>
  obtain ⟨j,rfl,hj,HA,hb⟩:=hrel
  by_cases hjl:j<len
  ·obtain ⟨x,hx⟩:∃x,l[j]?=some x:=⟨_,List.getElem?_eq_getElem (by rw[←HL.out];exact hjl)⟩
   obtain ⟨b,off,cs,ho,_,hcl,hcell,hr⟩:=HV.out.at (hb.mono hB) hx
   subst ho
   match cs,hcl with
   | [c0,c1,c2,c3,c4],_=>
    have e0:=hcell 0 _ rfl
    have e1:=hcell 1 _ rfl
    have e2:=hcell 2 _ rfl
    have e3:=hcell 3 _ rfl
    have e4:=hcell 4 _ rfl
    simp only[Nat.add_zero] at e0
    have HC:=zh (HH.out _ (List.mem_of_getElem? hx) _ _ _ _ _ wr hr hb)
    have HX:=zh hx
    clear hx hr hcell
    cases hp:p x with
    | true=>
     rw[hp] at HC
     have HT:=zh (zem HX.out hp)
     clear hp
     go_wp2_with (first | ((with_reducible refine HC.out.mono ?_);rintro e' w1 ⟨rfl,hb1⟩))
     go_ret
     exact ⟨j,rfl,by rw[←HR.out,HT.out];simp,Below.next hb hb1⟩
    | false=>
     rw[hp] at HC
     have HT:=zh (zbH HX.out HA.out hp)
     clear hp
     go_wp2_with (first | ((with_reducible refine HC.out.mono ?_);rintro e' w1 ⟨rfl,hb1⟩))
     go_roundw
     case rel=>exact ⟨j+1,by go_num,by omega,HT,Below.next hb hb1⟩
     case measure=>simp[intOf];omega
  ·have HF:=zh (show l.any p=false by rw[←HA.out,List.take_of_length_le (by rw[←HL.out];omega)])
   go_wp2
   go_ret
   exact ⟨-1,rfl,by rw[←HR.out,HF.out];rfl,hb⟩
theorem zdF {α:Type} (R:α→List Value→Prop) (F:FuncId) (caps:Array Value) (p:α→Bool) (r:Bool) (l:List α) (sl:Value) (B:Nat) (w:World) (hv:SlC w B 5 R l sl) (hB:B≤w.heap.size)
  (hF:∀(args:Array Value) (w:World),(callFunc F args).run prog w=.ok (.enter F args) w)
  (H:∀x∈l,∀c0 c1 c2 c3 c4 w',R x [c0,c1,c2,c3,c4]→Below w.heap.size w w'→Calls prog F (#[.agg #[c0,c1,c2,c3,c4]]++caps) w' fun e w''=>e=.returned (.bool (p x))∧Below w'.heap.size w' w'') (hr:l.any p=r) :
  Calls prog 25 #[sl,.func (.func F) #[] caps] w fun e w'=>e=.returned (.bool r)∧Below w.heap.size w w':=by
 have HI:=zh (zgI R F caps p l sl B w hv hB hF H)
 rw[hr] at HI
 obtain ⟨o,len,cap,rfl,h1,h2,h3⟩:=hv.slice
 clear hr hv H hF h1 h2 h3
 go_enter func25,ntmps25
 go_wp2_with (first | (go_at_call 49;refine HI.out.mono ?_;rintro e' w1 ⟨q,rfl,hq,hb⟩))
 subst hq
 go_ret
 exact ⟨by simp,hb⟩
end
section
open Go.RowKit
def BoxL (W:World) (b:Nat) (t:TypeId) (cs:List Value):Prop:=W.heap[b]?=some (.cells cs.toArray t (0,0))
theorem BoxL.new {W:World} {b:Nat} (h:b=W.heap.size) (t:TypeId) (cs:List Value):BoxL (W.alloc (.cells cs.toArray t)) b t cs:=by
 subst h;exact World.alloc_heap_new W _
theorem BoxL.lt {W:World} {b:Nat} {t:TypeId} {cs:List Value} (h:BoxL W b t cs):b<W.heap.size:=(Array.getElem?_eq_some_iff.1 h).1
theorem BoxL.keep {W W':World} {b:Nat} {t:TypeId} {cs:List Value} (h:BoxL W b t cs) (hb:Below W.heap.size W W'):BoxL W' b t cs:=(hb.block _ h.lt).trans h
theorem BoxL.alloc {W:World} {b:Nat} {t:TypeId} {cs:List Value} (h:BoxL W b t cs) (o:Obj):BoxL (W.alloc o) b t cs:=h.keep ((Below.refl _ _).alloc (Nat.le_refl _) _)
theorem BoxL.other {W:World} {b:Nat} {t:TypeId} {cs:List Value} (h:BoxL W b t cs) (a:Addr) (v:Value) (hne:b≠a.block):BoxL (W.setCell a v) b t cs:=(zag W a v hne).trans h
theorem BoxL.cell {W:World} {b:Nat} {t:TypeId} {cs:List Value} (h:BoxL W b t cs) (i:Nat) {v:Value} (hv:cs[i]?=some v):W.cell? ⟨b,i,none⟩=some v:=by
 unfold World.cell?
 simp only[show W.heap[b]?=_ from h]
 simpa using hv
theorem BoxL.free {W:World} {b:Nat} {t:TypeId} {cs:List Value} (h:BoxL W b t cs) (i:Nat):W.frozen? ⟨b,i,none⟩=false:=by
 unfold World.frozen?
 simp[show W.heap[b]?=_ from h]
theorem BoxL.set {W:World} {b:Nat} {t:TypeId} {cs:List Value} (h:BoxL W b t cs) (i:Nat) (v:Value):BoxL (W.setCell ⟨b,i,none⟩ v) b t (cs.set i v):=by
 simp only[BoxL,World.setCell,Array.getElem?_modify,↓reduceIte]
 rw[show W.heap[b]?=_ from h]
 simp
theorem keepC {W W':World} (hb:Below W.heap.size W W') {b o:Nat} {v:Value} (h:W.cell? ⟨b,o,none⟩=some v):W'.cell? ⟨b,o,none⟩=some v:=(hb.cell (p:=⟨b,o,none⟩) (zac h)).trans h
theorem Below.one (W:World) (o:Obj):Below W.heap.size W (W.alloc o):=(Below.refl _ _).alloc (Nat.le_refl _) _
theorem SlC.lens {α:Type} {w:World} {B size:Nat} {R:α→List Value→Prop} {l:List α} {o:Option Addr} {len cap:Nat} (h:SlC w B size R l (.slice o len cap)):len=l.length∧len≤cap∧cap≤9223372036854775807:=by
 obtain ⟨o',l',c',he,h1,h2,h3,_⟩:=h
 simp only[Value.slice.injEq] at he
 obtain ⟨_,rfl,rfl⟩:=he
 exact ⟨h1,h2,h3⟩
theorem SlC.form {α:Type} {w:World} {B size:Nat} {R:α→List Value→Prop} {l:List α} {v:Value} (h:SlC w B size R l v):∃o len cap,v=.slice o len cap:=by
 obtain ⟨o,len,cap,h,_⟩:=h
 exact ⟨o,len,cap,h⟩
theorem zaf {w w1:World} {A B C:List Value} {t u v:TypeId} (hb:Below (((w.alloc (.cells A.toArray t)).alloc (.cells B.toArray u)).alloc (.cells C.toArray v)).heap.size (((w.alloc (.cells A.toArray t)).alloc (.cells B.toArray u)).alloc (.cells C.toArray v)) w1) :
  BoxL w1 w.heap.size t A∧BoxL w1 (w.heap.size+1) u B∧BoxL w1 (w.heap.size+1+1) v C∧Below w.heap.size w w1:=
 ⟨(((BoxL.new rfl t A).alloc _).alloc _).keep hb,((BoxL.new (by simp) u B).alloc _).keep hb,(BoxL.new (by simp) v C).keep hb,((((Below.refl _ _).alloc (Nat.le_refl _) _).alloc (by simp) _).alloc (by simp;omega) _).trans (hb.mono (by simp;omega))⟩
end
end Go.Proofs.YtdcajmeeeoofgaaGreatDoor
